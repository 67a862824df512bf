/- The walk of fed: the table of sixteen registers, and a register fed with a string, half a byte at a time. -/
import Derived.Test.YthejhofnoolpcaaWkD
namespace Go.Proofs.Ythejhofnoolpcaa
open Go.RowKit Crc

/-- n registers in memory, the first k of them filled. -/
def tab (n : Nat) (f : Nat → BitVec 32) (k : Nat) : Array Value := Array.ofFn (n := n) fun i => .int .u32 (u (if i.val < k then f i.val else 0#32))
theorem tab_size (n : Nat) (f : Nat → BitVec 32) (k : Nat) : (tab n f k).size = n := by simp [tab]
theorem tab_get (n : Nat) (f : Nat → BitVec 32) (k i : Nat) (h : i < n) : (tab n f k)[i]? = some (.int .u32 (u (if i < k then f i else 0#32))) := by
  unfold tab
  rw [Array.getElem?_ofFn, dif_pos h]
theorem tab_set (n : Nat) (f : Nat → BitVec 32) (k : Nat) (h : k < n) : (tab n f k).setIfInBounds k (.int .u32 (u (f k))) = tab n f (k + 1) := by
  apply Array.ext_getElem?
  intro i
  rw [Array.getElem?_setIfInBounds]
  by_cases e : k = i
  · subst e
    rw [if_pos rfl, if_pos (by rw [tab_size]; exact h), tab_get n f _ k h, if_pos (by omega)]
  · rw [if_neg e]
    by_cases hi : i < n
    · rw [tab_get n f _ i hi, tab_get n f _ i hi]
      by_cases h2 : i < k
      · rw [if_pos h2, if_pos (by omega)]
      · rw [if_neg h2, if_neg (by omega)]
    · rw [Array.getElem?_eq_none (by rw [tab_size]; omega), Array.getElem?_eq_none (by rw [tab_size]; omega)]
theorem tab_zero (n : Nat) (f : Nat → BitVec 32) : tab n f 0 = Array.replicate n (.int .u32 0) := by
  apply Array.ext_getElem?
  intro i
  by_cases h : i < n
  · rw [tab_get n f 0 i h, if_neg (by omega), Array.getElem?_replicate, if_pos h]; rfl
  · rw [Array.getElem?_eq_none (by rw [tab_size]; omega), Array.getElem?_eq_none (by simp; omega)]
attribute [irreducible] tab
theorem u_nat (k : Nat) (h : k < 4294967296) : (k : Int) = u (BitVec.ofNat 32 k) := by
  unfold u; rw [BitVec.toNat_ofNat]; omega
/-- What a half byte adds. -/
def half (k : Nat) : BitVec 32 := sh 4 (BitVec.ofNat 32 k)

theorem low4 (y : BitVec 32) : Go.bits .and .u32 (u y) 15 = ((y.toNat % 16 : Nat) : Int) := by
  rw [show (15 : Int) = u 15#32 from rfl, u_and]
  unfold u
  rw [BitVec.toNat_and]
  exact congrArg _ (Nat.and_two_pow_sub_one_eq_mod y.toNat 4)
theorem four_xor (y : BitVec 32) : Go.bits .xor .u32 (u y / 16) (u (half (y.toNat % 16))) = u (sh 4 y) := by
  rw [u_shr y 4 16 rfl, u_xor, half, sh_four]
theorem shifted_half (k : Nat) (h : k < 16) (w : World) :
    Calls Try.prog 34 #[.int .u32 (k : Int), .int .i64 4] w fun e w' => e = .returned (.int .u32 (u (half k))) ∧ w' = w := by
  rw [u_nat k (by omega)]
  exact shifted_any (BitVec.ofNat 32 k) 4 (by decide) w

theorem tab16 (w : World) : w.alloc (.cells #[.int .u32 0, .int .u32 0, .int .u32 0, .int .u32 0, .int .u32 0, .int .u32 0, .int .u32 0, .int .u32 0, .int .u32 0, .int .u32 0, .int .u32 0, .int .u32 0, .int .u32 0, .int .u32 0, .int .u32 0, .int .u32 0] 53) = w.alloc (.cells (tab 16 half 0) 53) := by rw [tab_zero]; rfl
set_option maxHeartbeats 400000 in
theorem fed_any (x : BitVec 32) (s : ByteArray) (hs : s.size ≤ maxLen) (w : World) :
    Calls Try.prog 26 #[.int .u32 (u x), .string s] w fun e w' => e = .returned (.int .u32 (u (feed x (bs s)))) ∧ Below w.heap.size w w' := by
  unfold maxLen at hs
  go_enter Try.func26, Try.ntmps26
  go_wp2_with fail
  go_loopw [8] (fun i wr => ∃ k : Nat, k ≤ 16 ∧ i = .int .i64 k ∧ wr = w.alloc (.cells (tab 16 half k) 53)) (fun i _ => 16 - (intOf i).toNat)
  case atStart => exact ⟨0, Nat.zero_le _, rfl, tab16 w⟩
  case round =>
    obtain ⟨k, hk, rfl, rfl⟩ := hrel
    by_cases hlt : k < 16
    · have H := Lib.hid (tab_set 16 half k hlt)
      have hg := tab_get 16 half k k hlt
      go_wp2_with fail
      refine (shifted_half k hlt _).mono ?_
      rintro e w' ⟨rfl, rfl⟩
      go_wp2_with fail
      go_roundw
      case rel => exact ⟨k + 1, by omega, by go_num, by rw [H.out]⟩
      case measure => simp [intOf]; omega
    · obtain rfl : k = 16 := by omega
      go_wp2_with fail
      go_loopw [0, 7] (fun r i wr => ∃ k : Nat, k ≤ s.size ∧ i = .int .i64 k ∧ r = .int .u32 (u (feed x ((bs s).take k))) ∧ wr = w.alloc (.cells (tab 16 half 16) 53)) (fun _ i _ => s.size - (intOf i).toNat)
      case atStart => exact ⟨0, Nat.zero_le _, rfl, rfl, rfl⟩
      case round =>
        obtain ⟨k, hk, rfl, rfl, rfl⟩ := hrel
        by_cases hlt : k < s.size
        · have H := Lib.hid (feed_snoc x s k hlt)
          have c0 := s[k].toNat_lt
          have HX : Go.bits .xor .u32 (u (feed x ((bs s).take k))) (((s[k].toNat : Nat) : Int)) = u (feed x ((bs s).take k) ^^^ byte s[k]) := by rw [u_byte, u_xor]
          generalize hy : feed x ((bs s).take k) ^^^ byte s[k] = y at *
          generalize hz : sh 4 y = z at *
          have q1 : y.toNat % 16 < 16 := Nat.mod_lt _ (by decide)
          have q2 : z.toNat % 16 < 16 := Nat.mod_lt _ (by decide)
          have g1 := tab_get 16 half 16 (y.toNat % 16) q1
          have g2 := tab_get 16 half 16 (z.toNat % 16) q2
          rw [if_pos q1] at g1
          rw [if_pos q2] at g2
          have l1 := low4 y
          have l2 := low4 z
          have f1 := four_xor y
          rw [hz] at f1
          have f2 := four_xor z
          have e2 : sh 4 z = sh 8 y := by rw [← hz]; exact (sh_add 4 4 y).symm
          rw [e2] at f2
          have Hy := Lib.hid hy
          clear hy hz e2
          go_wp2_with fail
          exact ⟨⟨k + 1, by omega, by go_num, by rw [H.out], trivial⟩, by simp [intOf]; omega⟩
        · obtain rfl : k = s.size := by omega
          have H := Lib.hid (bs_all s)
          go_wp2
          go_ret
          exact ⟨ret_int (by rw [H.out]), (Below.refl _ _).alloc (Nat.le_refl _) _⟩

set_option maxHeartbeats 400000 in
theorem update_any (x : BitVec 32) (s : ByteArray) (hs : s.size ≤ maxLen) (w : World) :
    Calls Try.prog 14 #[.int .u32 (u x), .string s] w fun e w' => e = .returned (.int .u32 (u (~~~ feed (~~~ x) (bs s)))) ∧ Below w.heap.size w w' := by
  go_enter Try.func14, Try.ntmps14
  go_wp2_with fail
  rw [u_not]
  refine (fed_any _ s hs _).mono ?_
  rintro e w' ⟨rfl, hb⟩
  go_wp2
  go_ret
  exact ⟨ret_int (u_not _), hb⟩

set_option maxHeartbeats 400000 in
theorem sum_any (s : ByteArray) (hs : s.size ≤ maxLen) (w : World) :
    Calls Try.prog 12 #[.string s] w fun e w' => e = .returned (.int .u32 (u (sum (bs s)))) ∧ Below w.heap.size w w' := by
  go_enter Try.func12, Try.ntmps12
  go_wp2_with fail
  refine (update_any 0#32 s hs _).mono ?_
  rintro e w' ⟨rfl, hb⟩
  go_wp2
  go_ret
  exact ⟨rfl, hb⟩
end Go.Proofs.Ythejhofnoolpcaa
