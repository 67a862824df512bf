/- The walks of the operators: byteOperator, applied, squared, and the reference's apply and square. -/
import Derived.Test.YthejhofnoolpcaaWkE
namespace Go.Proofs.Ythejhofnoolpcaa
open Go.RowKit Crc

theorem u_bit1 (y : BitVec 32) : Go.bits .and .u32 (u y) 1 = if y.getLsbD 0 then 1 else 0 := by
  cases h : y.getLsbD 0
  · exact (u_low y).2 h
  · rw [show (1 : Int) = u 1#32 from rfl, u_and]
    have : y &&& 1#32 = 1#32 := by
      apply BitVec.eq_of_getLsbD_eq
      intro i hi
      rw [BitVec.getLsbD_and]
      rcases i with _ | i
      · rw [h]; simp
      · simp
    rw [this]
    rfl
theorem shr_bit (x : BitVec 32) (k : Nat) : (x >>> k).getLsbD 0 = x.getLsbD k := by
  rw [BitVec.getLsbD_ushiftRight]; simp
theorem shr_snoc (x : BitVec 32) (k : Nat) : u (x >>> k) / 2 = u (x >>> (k + 1)) := by
  rw [u_shr _ 1 2 rfl, BitVec.shiftRight_add]
theorem app_yes (f : Nat → BitVec 32) (k : Nat) (x : BitVec 32) (h : x.getLsbD k = true) : Go.bits .xor .u32 (u (app f k x)) (u (f k)) = u (app f (k + 1) x) := by
  rw [u_xor, app, h]; rfl
theorem app_no (f : Nat → BitVec 32) (k : Nat) (x : BitVec 32) (h : x.getLsbD k = false) : app f (k + 1) x = app f k x := by
  rw [app, h]; simp

set_option maxHeartbeats 400000 in
theorem applied_any (f : Nat → BitVec 32) (x : BitVec 32) (w : World) :
    Calls Try.prog 28 #[.agg (tab 32 f 32), .int .u32 (u x)] w fun e w' => e = .returned (.int .u32 (u (app f 32 x))) ∧ Below w.heap.size w w' := by
  go_enter Try.func28, Try.ntmps28
  go_wp2_with fail
  go_loopw [1, 5, 6] (fun r o i wr => ∃ k : Nat, k ≤ 32 ∧ i = .int .i64 k ∧ r = .int .u32 (u (x >>> k)) ∧ o = .int .u32 (u (app f k x)) ∧ wr = w.alloc (.cells (tab 32 f 32) 46)) (fun _ _ i _ => 32 - (intOf i).toNat)
  case atStart => exact ⟨0, Nat.zero_le _, rfl, by simp, rfl, rfl⟩
  case round =>
    obtain ⟨k, hk, rfl, rfl, rfl, rfl⟩ := hrel
    by_cases hz : x >>> k = 0#32
    · have c0 : (u (x >>> k) == 0) = true := by rw [hz]; rfl
      have c1 : (u (x >>> k) != 0) = false := by rw [hz]; rfl
      have H : Hid (app f 32 x = app f k x) := Lib.hid (by have := app_more f k (32 - k) x hz; rwa [Nat.add_sub_cancel' hk] at this)
      clear hz
      go_wp2
      go_ret
      exact ⟨ret_int (by rw [H.out]), (Below.refl _ _).alloc (Nat.le_refl _) _⟩
    · have hlt : k < 32 := by
        rcases Nat.lt_or_ge k 32 with h | h
        · exact h
        · obtain rfl : k = 32 := by omega
          exact absurd (shr_top x) hz
      have hne : u (x >>> k) ≠ 0 := fun h => hz (u_inj h)
      have c0 : (u (x >>> k) == 0) = false := beq_eq_false_iff_ne.2 hne
      have c1 : (u (x >>> k) != 0) = true := bne_iff_ne.2 hne
      have g1 := tab_get 32 f 32 k hlt
      rw [if_pos hlt] at g1
      have H := Lib.hid (shr_snoc x k)
      clear hz hne
      have hb := u_bit1 (x >>> k)
      rw [shr_bit] at hb
      rcases hx : x.getLsbD k
      · rw [hx] at hb
        have d0 : (Go.bits .and .u32 (u (x >>> k)) 1 == 0) = true := by rw [hb]; rfl
        have d1 : (Go.bits .and .u32 (u (x >>> k)) 1 != 0) = false := by rw [hb]; rfl
        have H2 := Lib.hid (app_no f k x hx)
        clear hb hx
        go_wp2_with fail
        go_roundw
        case rel => exact ⟨k + 1, by omega, by go_num, by rw [H.out], by rw [H2.out], trivial⟩
        case measure => simp [intOf]; omega
      · rw [hx] at hb
        have d0 : (Go.bits .and .u32 (u (x >>> k)) 1 == 0) = false := by rw [hb]; rfl
        have d1 : (Go.bits .and .u32 (u (x >>> k)) 1 != 0) = true := by rw [hb]; rfl
        have H2 := Lib.hid (app_yes f k x hx)
        clear hb hx
        go_wp2_with fail
        go_roundw
        case rel => exact ⟨k + 1, by omega, by go_num, by rw [H.out], by rw [H2.out], trivial⟩
        case measure => simp [intOf]; omega
end Go.Proofs.Ythejhofnoolpcaa
