/- The walks of shifted and shift: a register shifted by bits. The walks of the reference's shift and feed. The walk of the reference's feed, Sum and Update. The walks of the reference's Sum and Update, and of ending. The walk of fed: the table of sixteen registers, and a register fed with a string, half a byte at a time. The walks of Seal and Open. -/
import Derived.Test.YtoojpfcnekpboaaGreatZAB
import Derived.Test.YtoojpfcnekpboaaGreatZAA
import Derived.Laws.BytesArg
import Derived.Deep.RegionWith
namespace Go.Proofs.YtoojpfcnekpboaaGreat.CR
open Go.RowKit Go.Proofs.YtoojpfcnekpboaaGreat.Crc

/-- A register as the machine holds it. -/
def u (x : BitVec 32) : Int := (x.toNat : Int)
theorem u_lo (x : BitVec 32) : 0 ≤ u x := Int.natCast_nonneg _
theorem u_hi (x : BitVec 32) : u x < 4294967296 := by have := x.isLt; unfold u; omega
theorem u_of {n : Int} (h0 : 0 ≤ n) (h1 : n < 4294967296) : ∃ x, n = u x := ⟨BitVec.ofNat 32 n.toNat, by unfold u; rw [BitVec.toNat_ofNat]; omega⟩
theorem u_inj {x y : BitVec 32} (h : u x = u y) : x = y := BitVec.eq_of_toNat_eq (by unfold u at h; omega)
theorem u_zero : u 0#32 = 0 := rfl
theorem wrap_u (x : BitVec 32) : IntKind.u32.wrap (u x) = u x := by rw [IntKind.wrap_u32]; have := u_lo x; have := u_hi x; omega
theorem ofInt_u (x : BitVec 32) : BitVec.ofInt 32 (u x) = x := by
  unfold u; simp
theorem u_xor (x y : BitVec 32) : Go.bits .xor .u32 (u x) (u y) = u (x ^^^ y) := by
  unfold Go.bits
  show IntKind.u32.wrap (((BitVec.ofInt 32 (u x) ^^^ BitVec.ofInt 32 (u y) : BitVec 32).toNat : Nat) : Int) = _
  rw [ofInt_u, ofInt_u]
  exact wrap_u _
theorem u_and (x y : BitVec 32) : Go.bits .and .u32 (u x) (u y) = u (x &&& y) := by
  unfold Go.bits
  show IntKind.u32.wrap (((BitVec.ofInt 32 (u x) &&& BitVec.ofInt 32 (u y) : BitVec 32).toNat : Nat) : Int) = _
  rw [ofInt_u, ofInt_u]
  exact wrap_u _
theorem u_shr (x : BitVec 32) (k : Nat) (p : Int) (h : p = (2 : Int) ^ k) : u x / p = u (x >>> k) := by
  unfold u
  rw [BitVec.toNat_ushiftRight, Nat.shiftRight_eq_div_pow, h]
  simp
theorem u_low (x : BitVec 32) : (Go.bits .and .u32 (u x) 1 = 0) ↔ x.getLsbD 0 = false := by
  rw [show (1 : Int) = u 1#32 from rfl, u_and, ← u_zero]
  constructor
  · intro h
    have h1 := congrArg (fun y => y.getLsbD 0) (u_inj h)
    simp only [BitVec.getLsbD_and] at h1
    simpa using h1
  · intro h
    congr 1
    apply BitVec.eq_of_getLsbD_eq
    intro i hi
    rw [BitVec.getLsbD_and]
    rcases i with _ | i
    · rw [h]; simp
    · simp
theorem u_sh1_even (x : BitVec 32) (h : x.getLsbD 0 = false) : u x / 2 = u (sh1 x) := by
  rw [u_shr x 1 2 rfl]; unfold sh1; rw [h]; simp
theorem u_sh1_odd (x : BitVec 32) (h : x.getLsbD 0 = true) : Go.bits .xor .u32 (u x / 2) 2197175160 = u (sh1 x) := by
  rw [u_shr x 1 2 rfl, show (2197175160 : Int) = u P from rfl, u_xor]; unfold sh1; rw [h]; simp


theorem sh_snoc (n : Nat) (a : BitVec 32) : sh (n + 1) a = sh1 (sh n a) := by
  rw [Nat.add_comm, sh_add]; rfl

set_option maxHeartbeats 400000 in
theorem shifted_any (x : BitVec 32) (n : Nat) (hn : n ≤ 8) (w : World) :
    Calls Tryz.prog 171 #[.int .u32 (u x), .int .i64 n] w fun e w' => e = .returned (.int .u32 (u (sh n x))) ∧ w' = w := by
  go_enter Tryz.func171, Tryz.ntmps171
  go_wp2
  go_loop [0, 6] (fun r i => ∃ k : Nat, k ≤ n ∧ i = .int .i64 k ∧ r = .int .u32 (u (sh k x))) (fun _ i => n - (intOf i).toNat)
  case atStart => exact ⟨0, Nat.zero_le _, rfl, rfl⟩
  case round =>
    obtain ⟨k, hk, rfl, rfl⟩ := hrel
    by_cases hlt : k < n
    · have H := Lib.hid (sh_snoc k x)
      rcases hb : (sh k x).getLsbD 0
      · have c0 : (Go.bits .and .u32 (u (sh k x)) 1 == 0) = true := beq_iff_eq.2 ((u_low _).2 hb)
        have c1 : (Go.bits .and .u32 (u (sh k x)) 1 != 0) = false := bne_eq_false_iff_eq.2 ((u_low _).2 hb)
        have H2 := Lib.hid (u_sh1_even _ hb)
        clear hb
        go_wp2
        go_round
        case rel => exact ⟨k + 1, by omega, by go_num, by rw [H.out, H2.out]⟩
        case measure => simp [intOf]; omega
      · have hne : ¬ Go.bits .and .u32 (u (sh k x)) 1 = 0 := fun h => by rw [(u_low _).1 h] at hb; cases hb
        have c0 : (Go.bits .and .u32 (u (sh k x)) 1 == 0) = false := beq_eq_false_iff_ne.2 hne
        have c1 : (Go.bits .and .u32 (u (sh k x)) 1 != 0) = true := bne_iff_ne.2 hne
        have H2 := Lib.hid (u_sh1_odd _ hb)
        clear hb hne
        go_wp2
        go_round
        case rel => exact ⟨k + 1, by omega, by go_num, by rw [H.out, H2.out]⟩
        case measure => simp [intOf]; omega
    · obtain rfl : n = k := by omega
      go_wp2
      go_ret
      exact ⟨rfl, rfl⟩
end Go.Proofs.YtoojpfcnekpboaaGreat.CR

namespace Go.Proofs.YtoojpfcnekpboaaGreat.CR
open Go.RowKit Go.Proofs.YtoojpfcnekpboaaGreat.Crc

theorem tmod_u (x : BitVec 32) : Int.tmod (u x) 2 = if x.getLsbD 0 then 1 else 0 := by
  have h0 := u_lo x
  rw [Int.tmod_eq_emod_of_nonneg h0]
  have : x.getLsbD 0 = decide (x.toNat % 2 = 1) := by
    rw [BitVec.getLsbD, Nat.testBit_zero]
  rw [this]
  unfold u
  rcases Nat.mod_two_eq_zero_or_one x.toNat with h | h <;> simp [h] <;> omega

theorem tdiv_u (x : BitVec 32) : Int.tdiv (u x) 2 % 4294967296 = u x / 2 := by
  have h0 := u_lo x
  have h1 := u_hi x
  rw [Int.tdiv_eq_ediv_of_nonneg h0]
  omega

set_option maxHeartbeats 400000 in
theorem shift_any (x : BitVec 32) (w : World) :
    Calls Tryz.prog 172 #[.int .u32 (u x)] w fun e w' => e = .returned (.int .u32 (u (sh 8 x))) ∧ w' = w := by
  go_enter Tryz.func172, Tryz.ntmps172
  go_wp2
  go_loop [0, 3] (fun r i => ∃ k : Nat, k ≤ 8 ∧ i = .int .i64 k ∧ r = .int .u32 (u (sh k x))) (fun _ i => 8 - (intOf i).toNat)
  case atStart => exact ⟨0, Nat.zero_le _, rfl, rfl⟩
  case round =>
    obtain ⟨k, hk, rfl, rfl⟩ := hrel
    by_cases hlt : k < 8
    · have H := Lib.hid (sh_snoc k x)
      rcases hb : (sh k x).getLsbD 0
      · have c0 : (Int.tmod (u (sh k x)) 2 == 1) = false := by rw [tmod_u, hb]; rfl
        have H2 := Lib.hid (u_sh1_even _ hb)
        clear hb
        go_wp2
        go_round
        case rel => exact ⟨k + 1, by omega, by go_num, by rw [H.out, ← H2.out, tdiv_u]⟩
        case measure => simp [intOf]; omega
      · have c0 : (Int.tmod (u (sh k x)) 2 == 1) = true := by rw [tmod_u, hb]; rfl
        have H2 := Lib.hid (u_sh1_odd _ hb)
        clear hb
        go_wp2
        go_round
        case rel => exact ⟨k + 1, by omega, by go_num, by rw [H.out, ← H2.out, tdiv_u]⟩
        case measure => simp [intOf]; omega
    · obtain rfl : k = 8 := by omega
      go_wp2
      go_ret
      exact ⟨rfl, rfl⟩
end Go.Proofs.YtoojpfcnekpboaaGreat.CR

namespace Go.Proofs.YtoojpfcnekpboaaGreat.CR
open Go.RowKit Go.Proofs.YtoojpfcnekpboaaGreat.Crc

theorem bs_snoc (s : ByteArray) (k : Nat) (h : k < s.size) : (bs s).take (k + 1) = (bs s).take k ++ [s[k]] := by
  unfold bs
  rw [List.take_succ_eq_append_getElem (by simpa using h)]; rfl
theorem feed_snoc (x : BitVec 32) (s : ByteArray) (k : Nat) (h : k < s.size) : feed x ((bs s).take (k + 1)) = sh 8 (feed x ((bs s).take k) ^^^ byte s[k]) := by
  rw [bs_snoc s k h, feed_append]; rfl
theorem u_byte (c : UInt8) : ((c.toNat : Nat) : Int) = u (byte c) := by
  unfold u byte
  rw [BitVec.toNat_ofNat, Nat.mod_eq_of_lt (Nat.lt_trans c.toNat_lt (by decide))]
theorem bs_all (s : ByteArray) : (bs s).take s.size = bs s := List.take_of_length_le (by rw [bs_length]; exact Nat.le_refl _)

set_option maxHeartbeats 400000 in
theorem feed_any (x : BitVec 32) (s : ByteArray) (hs : s.size ≤ maxLen) (w : World) :
    Calls Tryz.prog 147 #[.int .u32 (u x), .string s] w fun e w' => e = .returned (.int .u32 (u (feed x (bs s)))) ∧ w' = w := by
  unfold maxLen at hs
  go_enter Tryz.func147, Tryz.ntmps147
  go_wp2
  go_loop [0, 5] (fun r i => ∃ k : Nat, k ≤ s.size ∧ i = .int .i64 k ∧ r = .int .u32 (u (feed x ((bs s).take k)))) (fun _ i => s.size - (intOf i).toNat)
  case atStart => exact ⟨0, Nat.zero_le _, rfl, rfl⟩
  case round =>
    obtain ⟨k, hk, rfl, rfl⟩ := hrel
    by_cases hlt : k < s.size
    · have H := Lib.hid (feed_snoc x s k hlt)
      have c0 := s[k].toNat_lt
      have HX : Hid (Go.bits .xor .u32 (u (feed x ((bs s).take k))) (((s[k].toNat : Nat) : Int)) = u (feed x ((bs s).take k) ^^^ byte s[k])) := Lib.hid (by rw [u_byte, u_xor])
      go_wp2_with fail
      rw [HX.out]
      refine (shift_any _ _).mono ?_
      rintro e w' ⟨rfl, rfl⟩
      go_wp2
      go_round
      case rel => exact ⟨k + 1, by omega, by go_num, by rw [H.out]⟩
      case measure => simp [intOf]; omega
    · obtain rfl : k = s.size := by omega
      have H := Lib.hid (bs_all s)
      go_wp2
      go_ret
      exact ⟨by rw [H.out]; rfl, rfl⟩
end Go.Proofs.YtoojpfcnekpboaaGreat.CR

namespace Go.Proofs.YtoojpfcnekpboaaGreat.CR
open Go.RowKit Go.Proofs.YtoojpfcnekpboaaGreat.Crc

theorem u_not (x : BitVec 32) : Go.bits .xor .u32 IntKind.u32.max (u x) = u (~~~ x) := by
  rw [show IntKind.u32.max = u (BitVec.allOnes 32) from rfl, u_xor, BitVec.allOnes_xor]
theorem u_ones : (4294967295 : Int) = u (~~~ 0#32) := rfl

set_option maxHeartbeats 400000 in
theorem sumR_any (s : ByteArray) (hs : s.size ≤ maxLen) (w : World) :
    Calls Tryz.prog 113 #[.string s] w fun e w' => e = .returned (.int .u32 (u (sum (bs s)))) ∧ w' = w := by
  go_enter Tryz.func113, Tryz.ntmps113
  go_wp2_with fail
  rw [u_ones]
  refine (feed_any _ s hs _).mono ?_
  rintro e w' ⟨rfl, rfl⟩
  go_wp2
  go_ret
  exact ⟨ret_int (u_not _), rfl⟩

theorem conv4 (a b c d : Int) (w : World) : (convert 104 9 (.slice (some ⟨w.heap.size, 0, none⟩) 4 4)).run Tryz.prog (w.alloc (.cells #[.int .u8 a, .int .u8 b, .int .u8 c, .int .u8 d] 5)) =
    .ok (.string (strOfNums [a, b, c, d])) (w.alloc (.cells #[.int .u8 a, .int .u8 b, .int .u8 c, .int .u8 d] 5)) := by
  refine run_convert_bytes_arg _ 104 5 Tryz.underlying104 Tryz.underlying5 _ 0 4 4 [a, b, c, d] rfl (fun i hi => ?_) 9 Tryz.underlying9
  rw [cell_of_row _ _ _ _ 5 (0, 0) (heap_alloc_new w _)]
  rcases i with _ | _ | _ | _ | i
  · rfl
  · rfl
  · rfl
  · rfl
  · omega

theorem toNat_byte (n : Nat) : ((n : Int) % 256).toNat = n % 256 := by omega
theorem ending_str (x : BitVec 32) : strOfNums [u x % 256, u x / 256 % 256, u x / 65536 % 256, u x / 16777216 % 256] = ⟨(ending x).toArray⟩ := by
  unfold strOfNums ending u
  simp only [List.map_cons, List.map_nil]
  rw [toNat_byte, show ((x.toNat : Int) / 256 % 256).toNat = x.toNat / 256 % 256 by omega, show ((x.toNat : Int) / 65536 % 256).toNat = x.toNat / 65536 % 256 by omega, show ((x.toNat : Int) / 16777216 % 256).toNat = x.toNat / 16777216 % 256 by omega]

set_option maxHeartbeats 400000 in
theorem ending_any (x : BitVec 32) (w : World) :
    Calls Tryz.prog 78 #[.int .u32 (u x)] w fun e w' => e = .returned (.string ⟨(ending x).toArray⟩) ∧ Below w.heap.size w w' := by
  have hcv := conv4 (u x % 256) (u x / 256 % 256) (u x / 65536 % 256) (u x / 16777216 % 256) w
  have H := Lib.hid (ending_str x)
  go_enter Tryz.func78, Tryz.ntmps78
  go_wp2
  go_ret
  exact ⟨by rw [← H.out]; rfl, (Below.refl _ _).alloc (Nat.le_refl _) _⟩
end Go.Proofs.YtoojpfcnekpboaaGreat.CR

namespace Go.Proofs.YtoojpfcnekpboaaGreat.CR
open Go.RowKit Go.Proofs.YtoojpfcnekpboaaGreat.Crc

/-- n registers in memory, the first k of them filled. -/
def tab (n : Nat) (f : Nat → BitVec 32) (k : Nat) : Array Value := Array.ofFn (n := n) fun i => .int .u32 (u (if i.val < k then f i.val else 0#32))
theorem tab_size (n : Nat) (f : Nat → BitVec 32) (k : Nat) : (tab n f k).size = n := by simp [tab]
theorem tab_get (n : Nat) (f : Nat → BitVec 32) (k i : Nat) (h : i < n) : (tab n f k)[i]? = some (.int .u32 (u (if i < k then f i else 0#32))) := by
  unfold tab
  rw [Array.getElem?_ofFn, dif_pos h]
theorem tab_set (n : Nat) (f : Nat → BitVec 32) (k : Nat) (h : k < n) : (tab n f k).setIfInBounds k (.int .u32 (u (f k))) = tab n f (k + 1) := by
  apply Array.ext_getElem?
  intro i
  rw [Array.getElem?_setIfInBounds]
  by_cases e : k = i
  · subst e
    rw [if_pos rfl, if_pos (by rw [tab_size]; exact h), tab_get n f _ k h, if_pos (by omega)]
  · rw [if_neg e]
    by_cases hi : i < n
    · rw [tab_get n f _ i hi, tab_get n f _ i hi]
      by_cases h2 : i < k
      · rw [if_pos h2, if_pos (by omega)]
      · rw [if_neg h2, if_neg (by omega)]
    · rw [Array.getElem?_eq_none (by rw [tab_size]; omega), Array.getElem?_eq_none (by rw [tab_size]; omega)]
theorem tab_zero (n : Nat) (f : Nat → BitVec 32) : tab n f 0 = Array.replicate n (.int .u32 0) := by
  apply Array.ext_getElem?
  intro i
  by_cases h : i < n
  · rw [tab_get n f 0 i h, if_neg (by omega), Array.getElem?_replicate, if_pos h]; rfl
  · rw [Array.getElem?_eq_none (by rw [tab_size]; omega), Array.getElem?_eq_none (by simp; omega)]
attribute [irreducible] tab
theorem u_nat (k : Nat) (h : k < 4294967296) : (k : Int) = u (BitVec.ofNat 32 k) := by
  unfold u; rw [BitVec.toNat_ofNat]; omega
/-- What a half byte adds. -/
def half (k : Nat) : BitVec 32 := sh 4 (BitVec.ofNat 32 k)

theorem low4 (y : BitVec 32) : Go.bits .and .u32 (u y) 15 = ((y.toNat % 16 : Nat) : Int) := by
  rw [show (15 : Int) = u 15#32 from rfl, u_and]
  unfold u
  rw [BitVec.toNat_and]
  exact congrArg _ (Nat.and_two_pow_sub_one_eq_mod y.toNat 4)
theorem four_xor (y : BitVec 32) : Go.bits .xor .u32 (u y / 16) (u (half (y.toNat % 16))) = u (sh 4 y) := by
  rw [u_shr y 4 16 rfl, u_xor, half, sh_four]
theorem shifted_half (k : Nat) (h : k < 16) (w : World) :
    Calls Tryz.prog 171 #[.int .u32 (k : Int), .int .i64 4] w fun e w' => e = .returned (.int .u32 (u (half k))) ∧ w' = w := by
  rw [u_nat k (by omega)]
  exact shifted_any (BitVec.ofNat 32 k) 4 (by decide) w

theorem tab16 (w : World) : w.alloc (.cells #[.int .u32 0, .int .u32 0, .int .u32 0, .int .u32 0, .int .u32 0, .int .u32 0, .int .u32 0, .int .u32 0, .int .u32 0, .int .u32 0, .int .u32 0, .int .u32 0, .int .u32 0, .int .u32 0, .int .u32 0, .int .u32 0] 236) = w.alloc (.cells (tab 16 half 0) 236) := by rw [tab_zero]; rfl
set_option maxHeartbeats 400000 in
theorem fed_any (x : BitVec 32) (s : ByteArray) (hs : s.size ≤ maxLen) (w : World) :
    Calls Tryz.prog 146 #[.int .u32 (u x), .string s] w fun e w' => e = .returned (.int .u32 (u (feed x (bs s)))) ∧ Below w.heap.size w w' := by
  unfold maxLen at hs
  go_enter Tryz.func146, Tryz.ntmps146
  go_wp2_with fail
  go_loopw [8] (fun i wr => ∃ k : Nat, k ≤ 16 ∧ i = .int .i64 k ∧ wr = w.alloc (.cells (tab 16 half k) 236)) (fun i _ => 16 - (intOf i).toNat)
  case atStart => exact ⟨0, Nat.zero_le _, rfl, tab16 w⟩
  case round =>
    obtain ⟨k, hk, rfl, rfl⟩ := hrel
    by_cases hlt : k < 16
    · have H := Lib.hid (tab_set 16 half k hlt)
      have hg := tab_get 16 half k k hlt
      go_wp2_with fail
      refine (shifted_half k hlt _).mono ?_
      rintro e w' ⟨rfl, rfl⟩
      go_wp2_with fail
      go_roundw
      case rel => exact ⟨k + 1, by omega, by go_num, by rw [H.out]⟩
      case measure => simp [intOf]; omega
    · obtain rfl : k = 16 := by omega
      go_wp2_with fail
      go_loopw [0, 7] (fun r i wr => ∃ k : Nat, k ≤ s.size ∧ i = .int .i64 k ∧ r = .int .u32 (u (feed x ((bs s).take k))) ∧ wr = w.alloc (.cells (tab 16 half 16) 236)) (fun _ i _ => s.size - (intOf i).toNat)
      case atStart => exact ⟨0, Nat.zero_le _, rfl, rfl, rfl⟩
      case round =>
        obtain ⟨k, hk, rfl, rfl, rfl⟩ := hrel
        by_cases hlt : k < s.size
        · have H := Lib.hid (feed_snoc x s k hlt)
          have c0 := s[k].toNat_lt
          have HX : Go.bits .xor .u32 (u (feed x ((bs s).take k))) (((s[k].toNat : Nat) : Int)) = u (feed x ((bs s).take k) ^^^ byte s[k]) := by rw [u_byte, u_xor]
          generalize hy : feed x ((bs s).take k) ^^^ byte s[k] = y at *
          generalize hz : sh 4 y = z at *
          have q1 : y.toNat % 16 < 16 := Nat.mod_lt _ (by decide)
          have q2 : z.toNat % 16 < 16 := Nat.mod_lt _ (by decide)
          have g1 := tab_get 16 half 16 (y.toNat % 16) q1
          have g2 := tab_get 16 half 16 (z.toNat % 16) q2
          rw [if_pos q1] at g1
          rw [if_pos q2] at g2
          have l1 := low4 y
          have l2 := low4 z
          have f1 := four_xor y
          rw [hz] at f1
          have f2 := four_xor z
          have e2 : sh 4 z = sh 8 y := by rw [← hz]; exact (sh_add 4 4 y).symm
          rw [e2] at f2
          have Hy := Lib.hid hy
          clear hy hz e2
          go_wp2_with fail
          exact ⟨⟨k + 1, by omega, by go_num, by rw [H.out], trivial⟩, by simp [intOf]; omega⟩
        · obtain rfl : k = s.size := by omega
          have H := Lib.hid (bs_all s)
          go_wp2
          go_ret
          exact ⟨ret_int (by rw [H.out]), (Below.refl _ _).alloc (Nat.le_refl _) _⟩

set_option maxHeartbeats 400000 in
theorem update_any (x : BitVec 32) (s : ByteArray) (hs : s.size ≤ maxLen) (w : World) :
    Calls Tryz.prog 112 #[.int .u32 (u x), .string s] w fun e w' => e = .returned (.int .u32 (u (~~~ feed (~~~ x) (bs s)))) ∧ Below w.heap.size w w' := by
  go_enter Tryz.func112, Tryz.ntmps112
  go_wp2_with fail
  rw [u_not]
  refine (fed_any _ s hs _).mono ?_
  rintro e w' ⟨rfl, hb⟩
  go_wp2
  go_ret
  exact ⟨ret_int (u_not _), hb⟩

set_option maxHeartbeats 400000 in
theorem sum_any (s : ByteArray) (hs : s.size ≤ maxLen) (w : World) :
    Calls Tryz.prog 79 #[.string s] w fun e w' => e = .returned (.int .u32 (u (sum (bs s)))) ∧ Below w.heap.size w w' := by
  go_enter Tryz.func79, Tryz.ntmps79
  go_wp2_with fail
  refine (update_any 0#32 s hs _).mono ?_
  rintro e w' ⟨rfl, hb⟩
  go_wp2
  go_ret
  exact ⟨rfl, hb⟩
end Go.Proofs.YtoojpfcnekpboaaGreat.CR

namespace Go.Proofs.YtoojpfcnekpboaaGreat.CR
open Go.RowKit Go.Proofs.YtoojpfcnekpboaaGreat.Crc

theorem below_drawn {W W1 : World} (h : Below W.drew.heap.size W.drew W1) : Below W.heap.size W W1 := ⟨h.os, h.tape, h.output, h.size, h.block⟩

theorem ending_str_any (x : BitVec 32) (w : World) :
    Calls Tryz.prog 78 #[.int .u32 (u x)] w fun e w' => e = .returned (.string (str (ending x))) ∧ Below w.heap.size w w' := ending_any x w
theorem str_append (s : ByteArray) (m : List UInt8) : s ++ str m = str (bs s ++ m) := by
  apply ByteArray.ext
  rw [ByteArray.data_append]
  simp [str, bs]
theorem no_room (n : Nat) (x : BitVec 32) (h : n ≤ 100000) : ¬ 9223372036854775807 < n + (str (ending x)).size := by
  rw [str_size]
  have : (ending x).length = 4 := rfl
  omega
set_option maxHeartbeats 400000 in
theorem seal_any (s : ByteArray) (hs : s.size ≤ 100000) (w : World) :
    Calls Tryz.prog 62 #[.string s] w fun e w' => e = .returned (.string (str (bs s ++ ending (sum (bs s))))) ∧ Below w.heap.size w w' := by
  have hs2 : s.size ≤ maxLen := by unfold maxLen; omega
  go_enter Tryz.func62, Tryz.ntmps62
  go_wp2_with fail
  refine (sum_any s hs2 _).mono ?_
  rintro e w1 ⟨rfl, hb⟩
  go_wp2_with fail
  refine (ending_str_any _ _).mono ?_
  rintro e w2 ⟨rfl, hb2⟩
  have hn := no_room s.size (sum (bs s)) hs
  go_wp2_with fail
  go_ret
  exact ⟨ret_str (str_append _ _), hb.trans (hb2.mono hb.size)⟩

/-- What is sealed in a string, and its last four bytes. -/
def body (s : ByteArray) : ByteArray := s.extract 0 (s.size - 4)
def tail4 (s : ByteArray) : ByteArray := s.extract (s.size - 4) s.size
def Whole (s : ByteArray) : Prop := tail4 s = str (ending (sum (bs (body s))))
theorem str_eq {a b : ByteArray} (h : a.toList = b.toList) : a = b := by
  rw [ByteArray.toList_eq, ByteArray.toList_eq] at h
  exact ByteArray.ext (Array.toList_inj.1 h)
theorem differ {a b : ByteArray} (h : ¬ a = b) : (!a.toList == b.toList) = true := by
  have : ¬ a.toList = b.toList := fun e => h (str_eq e)
  simp [this]
theorem same {a b : ByteArray} (h : a = b) : (!a.toList == b.toList) = false := by
  simp [h]
theorem body_size (s : ByteArray) : (body s).size = s.size - 4 := by unfold body; rw [ByteArray.size_extract]; omega

set_option maxHeartbeats 400000 in
theorem open_short (s : ByteArray) (h4 : s.size < 4) (w : World) :
    Calls Tryz.prog 48 #[.string s] w fun e w' => e = .returned (.tuple #[.string ⟨#[]⟩, .int .i64 11]) ∧ Below w.heap.size w w' := by
  go_enter Tryz.func48, Tryz.ntmps48
  go_wp2_with fail
  go_ret2
  exact ⟨rfl, Below.refl _ _⟩

set_option maxHeartbeats 400000 in
theorem open_good (s : ByteArray) (hs : s.size ≤ 100000) (h4 : 4 ≤ s.size) (hg : Whole s) (w : World) :
    Calls Tryz.prog 48 #[.string s] w fun e w' => e = .returned (.tuple #[.string (body s), .int .i64 0]) ∧ Below w.heap.size w w' := by
  have d1 := same hg
  go_enter Tryz.func48, Tryz.ntmps48
  go_wp2_with fail
  have h0 : s.extract 0 (s.size - 4) = body s := rfl
  rw [h0]
  clear h0
  have htl := body_size s
  have hte : s.extract (s.size - 4) s.size = tail4 s := rfl
  rw [← htl] at hte
  have HTL := Lib.hid htl
  have hle : (body s).size ≤ s.size := by omega
  clear htl hg
  have HC := fun W => Lib.hid (sum_any (body s) (by unfold maxLen; omega) W)
  generalize hT : body s = t at *
  have HT := Lib.hid hT
  clear hT
  go_region_with (first | (go_at_call 79; refine ((HC _).out).mono ?_; rintro e w1 ⟨rfl, hb⟩) | (go_at_call 78; refine (ending_str_any _ _).mono ?_; rintro e w2 ⟨rfl, hb2⟩))
  go_wp2_with fail
  go_ret2
  exact ⟨by rw [HT.out]; rfl, (below_drawn hb).trans (hb2.mono hb.size)⟩

set_option maxHeartbeats 400000 in
theorem open_bad (s : ByteArray) (hs : s.size ≤ 100000) (h4 : 4 ≤ s.size) (hg : ¬ Whole s) (w : World) :
    Calls Tryz.prog 48 #[.string s] w fun e w' => e = .returned (.tuple #[.string ⟨#[]⟩, .int .i64 13]) ∧ Below w.heap.size w w' := by
  have d1 := differ hg
  go_enter Tryz.func48, Tryz.ntmps48
  go_wp2_with fail
  have h0 : s.extract 0 (s.size - 4) = body s := rfl
  rw [h0]
  clear h0
  have htl := body_size s
  have hte : s.extract (s.size - 4) s.size = tail4 s := rfl
  rw [← htl] at hte
  have HTL := Lib.hid htl
  have hle : (body s).size ≤ s.size := by omega
  clear htl hg
  have HC := fun W => Lib.hid (sum_any (body s) (by unfold maxLen; omega) W)
  generalize hT : body s = t at *
  have HT := Lib.hid hT
  clear hT
  go_region_with (first | (go_at_call 79; refine ((HC _).out).mono ?_; rintro e w1 ⟨rfl, hb⟩) | (go_at_call 78; refine (ending_str_any _ _).mono ?_; rintro e w2 ⟨rfl, hb2⟩))
  go_wp2_with fail
  go_ret2
  exact ⟨rfl, (below_drawn hb).trans (hb2.mono hb.size)⟩

set_option maxHeartbeats 400000 in
theorem sealR_any (s : ByteArray) (hs : s.size ≤ 100000) (w : World) :
    Calls Tryz.prog 80 #[.string s] w fun e w' => e = .returned (.string (str (bs s ++ ending (sum (bs s))))) ∧ Below w.heap.size w w' := by
  have hs2 : s.size ≤ maxLen := by unfold maxLen; omega
  have hcv := conv4 (u (sum (bs s)) % 256) (u (sum (bs s)) / 256 % 256) (u (sum (bs s)) / 65536 % 256) (u (sum (bs s)) / 16777216 % 256) w
  have he : strOfNums [u (sum (bs s)) % 256, u (sum (bs s)) / 256 % 256, u (sum (bs s)) / 65536 % 256, u (sum (bs s)) / 16777216 % 256] = str (ending (sum (bs s))) := ending_str _
  rw [he] at hcv
  have hn := no_room s.size (sum (bs s)) hs
  clear he
  go_enter Tryz.func80, Tryz.ntmps80
  go_wp2_with fail
  refine (sumR_any s hs2 _).mono ?_
  rintro e w1 ⟨rfl, rfl⟩
  go_wp2_with fail
  go_ret
  exact ⟨ret_str (str_append _ _), (Below.refl _ _).alloc (Nat.le_refl _) _⟩
end Go.Proofs.YtoojpfcnekpboaaGreat.CR
