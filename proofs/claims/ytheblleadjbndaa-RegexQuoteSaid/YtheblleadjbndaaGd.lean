/- awake. -/
import Derived.Test.YtheblleadjbndaaGc
import Derived.Test.YtheblleadjbndaaGa
namespace Go.Proofs.Ytheblleadjbndaa
open Go.RowKit Rx
theorem ex1 : findR (bs ⟨#[98, 43]⟩) (bs ⟨#[97, 98, 98, 97, 98, 98, 98]⟩) = some (1, 3) := by kernel_rfl
theorem ex2 : prefR (bs ⟨#[97, 98, 46, 99]⟩) = ([97, 98], false) := by kernel_rfl
theorem ex3 : matchR (bs ⟨#[97, 40, 98, 124, 99, 41, 42, 100]⟩) (bs ⟨#[97, 99, 98, 99, 100]⟩) = true := by kernel_rfl
theorem ex4 : matchR (bs ⟨#[97, 40, 98, 124, 99, 41, 42, 100]⟩) (bs ⟨#[97, 98, 99]⟩) = false := by kernel_rfl
theorem ex5 : quoteR (bs ⟨#[97, 46, 98]⟩) = [97, 92, 46, 98] := by kernel_rfl
theorem ex6 : checkR (bs ⟨#[97, 42, 42]⟩) = 3 := by kernel_rfl

set_option maxRecDepth 100000 in
set_option maxHeartbeats 2000000 in
theorem awake_any (W : World) : Calls Try.prog 16 #[] W fun e w' => e = .returned (.bool true) ∧ Below W.heap.size W w' := by
  have hF := fun w => find_pub ⟨#[98, 43]⟩ ⟨#[97, 98, 98, 97, 98, 98, 98]⟩ w (by decide)
  rw [ex1] at hF
  have hP := fun w => prefix_any ⟨#[97, 98, 46, 99]⟩ w
  rw [ex2] at hP
  have hM1 := fun w => match_any ⟨#[97, 40, 98, 124, 99, 41, 42, 100]⟩ ⟨#[97, 99, 98, 99, 100]⟩ w (by decide)
  rw [ex3] at hM1
  have hM2 := fun w => match_any ⟨#[97, 40, 98, 124, 99, 41, 42, 100]⟩ ⟨#[97, 98, 99]⟩ w (by decide)
  rw [ex4] at hM2
  have hQ := fun w => quote_any ⟨#[97, 46, 98]⟩ w (by decide)
  rw [ex5] at hQ
  have hC := fun w => check_any ⟨#[97, 42, 42]⟩ w
  rw [ex6] at hC
  have HF := Lib.hid hF
  have HP := Lib.hid hP
  have HM1 := Lib.hid hM1
  have HM2 := Lib.hid hM2
  have HQ := Lib.hid hQ
  have HC := Lib.hid hC
  clear hF hP hM1 hM2 hQ hC
  go_enter Try.func16, Try.ntmps16
  go_wp2_with fail
  refine (HF.out _).mono ?_
  rintro e w1 ⟨rfl, hb1⟩
  have HB1 := Lib.hid hb1
  clear hb1
  simp only [foundV, bestV, Option.isSome_some]
  go_wp2_with fail
  refine (HP.out _).mono ?_
  rintro e w2 ⟨rfl, hb2⟩
  have hat := (At.new w1 #[.int .i64 1, .int .i64 3] 26).below hb2
  have HB2 : Hid (Below W.heap.size W w2) := Lib.hid ((HB1.out.alloc HB1.out.size _).trans (hb2.mono (Nat.le_trans HB1.out.size (by show w1.heap.size ≤ (w1.heap.push _).size; simp))))
  have HA2 := Lib.hid hat
  clear hb2 hat
  go_wp2_with fail
  refine (HM1.out _).mono ?_
  rintro e w3 ⟨rfl, hb3⟩
  have HB3 : Hid (Below W.heap.size W w3) := Lib.hid (HB2.out.trans (hb3.mono HB2.out.size))
  have HA3 := Lib.hid (HA2.out.below hb3)
  clear hb3
  go_wp2_with fail
  refine (HM2.out _).mono ?_
  rintro e w4 ⟨rfl, hb4⟩
  have HB4 : Hid (Below W.heap.size W w4) := Lib.hid (HB3.out.trans (hb4.mono HB3.out.size))
  have HA4 := Lib.hid (HA3.out.below hb4)
  have c0 : w4.cell? ⟨w1.heap.size, 0, none⟩ = some (.int .i64 1) := HA4.out.cell 0
  have c1 : w4.cell? ⟨w1.heap.size, 1, none⟩ = some (.int .i64 3) := HA4.out.cell 1
  clear hb4
  go_wp2_with fail
  refine (HQ.out _).mono ?_
  rintro e w5 ⟨rfl, hb5⟩
  have HB5 : Hid (Below W.heap.size W w5) := Lib.hid (HB4.out.trans (hb5.mono HB4.out.size))
  clear hb5 c0 c1
  go_wp2_with fail
  refine (HC.out _).mono ?_
  rintro e w6 ⟨rfl, hb6⟩
  have HB6 : Hid (Below W.heap.size W w6) := Lib.hid (HB5.out.trans (hb6.mono HB5.out.size))
  clear hb6
  go_wp2_with fail
  go_ret
  exact ⟨rfl, HB6.out⟩
end Go.Proofs.Ytheblleadjbndaa
