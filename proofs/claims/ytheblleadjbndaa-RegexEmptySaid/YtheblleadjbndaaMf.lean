/- The machine's walks: build. -/
import Derived.Test.YtheblleadjbndaaMe
namespace Go.Proofs.Ytheblleadjbndaa
open Go.RowKit Rx

theorem Fr.toBelow {B : Nat} {T : TypeId → Bool} {W W' : World} (h : Fr B T (fun _ => False) W W') (hB : B ≤ W.heap.size) : Below B W W' :=
  ⟨h.os, h.tape, h.output, h.size, fun k hk => h.block k (by omega) (fun h => h) (fun hB => by omega)⟩

theorem make_state (w : World) : (Instr.makeSlice 64 (.int .i64 1) (.int .i64 1)).run Try.prog w = .ok (.slice (some ⟨w.heap.size, 0, none⟩) 1 1) (w.alloc (.cells #[.nilFunc, .slice none 0 0] 74)) := by kernel_rfl
set_option maxRecDepth 100000 in
set_option maxHeartbeats 1000000 in
theorem build_any (a : As) (S : Nat → Prop) (W : World) (v : Value) (ha : IsA S W a v) (hsz : szA a ≤ 300) :
    Calls Try.prog 29 #[v] W fun e w' => ∃ m, e = .returned (ptr m) ∧ Mach W.heap.size (Fresh W w') m (addA a [.ep []] 0).1 (addA a [.ep []] 0).2 w' ∧ Below W.heap.size W w' := by
  obtain ⟨vb, rfl⟩ := IsA.ptr a v ha
  have h0 : Mach W.heap.size (fun _ => False) (W.heap.size + 1) 0 [.ep []] ((W.alloc (.cells #[.nilFunc, .slice none 0 0] 74)).alloc (.cells #[.slice (some ⟨W.heap.size, 0, none⟩) 1 1, .int .i64 0] 66)) := by
    have e := At.new (W.alloc (.cells #[.nilFunc, .slice none 0 0] 74)) #[.slice (some ⟨W.heap.size, 0, none⟩) 1 1, .int .i64 0] 66
    rw [alloc_size] at e
    refine ⟨_, [.nilFunc, .slice none 0 0], e, ⟨rfl, .inr ⟨W.heap.size, 1, #[.nilFunc, .slice none 0 0], rfl, Nat.zero_le _, ((At.new W #[.nilFunc, .slice none 0 0] 74).alloc _).out, Nat.le_refl _, by decide, rfl, rfl⟩⟩, ⟨.nilFunc, .slice none 0 0, [], rfl, ⟨rfl, World.ownsRow_nil _ _ _ _, fun g hg => by cases hg⟩, rfl⟩, by omega, fun g hg => ?_⟩
    injection hg with hg
    subst hg
    exact Nat.le_refl _
  have hb0 : Below W.heap.size W ((W.alloc (.cells #[.nilFunc, .slice none 0 0] 74)).alloc (.cells #[.slice (some ⟨W.heap.size, 0, none⟩) 1 1, .int .i64 0] 66)) := ((Below.refl _ _).alloc (Nat.le_refl _) _).alloc (by rw [alloc_size]; omega) _
  have hia : IsU S ((W.alloc (.cells #[.nilFunc, .slice none 0 0] 74)).alloc (.cells #[.slice (some ⟨W.heap.size, 0, none⟩) 1 1, .int .i64 0] 66)) (.grp a) (ptr vb) := by
    unfold IsU
    exact IsA.fr (B := 0) (T := fun _ => false) (Fr.below hb0) rfl rfl rfl a _ ha
  have HA := Lib.hid (add_ok (.grp a) W.heap.size S (fun _ => False) _ (W.heap.size + 1) 0 [.ep []] (ptr vb) 0 h0 hia (by simp [szU]; omega) (by omega))
  have HB0 := Lib.hid hb0
  clear h0 hb0 hia ha
  have e0 : addU (.grp a) [.ep []] 0 = addA a [.ep []] 0 := by simp only [addU]
  rw [e0] at HA
  clear e0
  have HLEN := Lib.hid (addA_len a [.ep []] 0)
  generalize addA a [.ep []] 0 = R at *
  obtain ⟨st, M⟩ := R
  unfold ptr at *
  have hmk := make_state W
  go_enter Try.func29, Try.ntmps29
  go_wp2_with fail
  refine (HA.out).mono ?_
  rintro e w2 ⟨rfl, hm2, hf2⟩
  have HF2 : Hid (Below W.heap.size W w2) := Lib.hid (HB0.out.trans (Fr.toBelow hf2 (by simp; omega)))
  have HFR := Lib.hid hf2
  obtain ⟨sv, xs, hat, hown, hism, h1, h2⟩ := hm2
  have c1 : w2.cell? ⟨W.heap.size + 1, 1, none⟩ = some (.int .i64 0) := hat.cell 1
  have c2 := hat.free 1
  have HM3 : Hid (Mach W.heap.size (Fresh W (w2.setCell ⟨W.heap.size + 1, 1, none⟩ (.int .i64 st))) (W.heap.size + 1) st M (w2.setCell ⟨W.heap.size + 1, 1, none⟩ (.int .i64 st))) := Lib.hid (by
    have hf3 : FrM W.heap.size w2 (w2.setCell ⟨W.heap.size + 1, 1, none⟩ (.int .i64 st)) := (Fr.refl _).set _ 1 _ (.inr (.inl ⟨h1, _, _, hat, rfl⟩))
    refine ⟨sv, xs, hat.set 1 _, ?_, (hism.frM hf3).mono fun g hg => ?_, h1, h2⟩
    · exact owns_same (S := fun k => k ≠ W.heap.size + 1) hown (fun g hg e => owns_ne hown hat (by decide) (by rw [hg, e])) (fun k hk => Below.heap_setCell w2 ⟨W.heap.size + 1, 1, none⟩ _ k hk)
    · rcases hg with h | h
      · exact h.elim
      · refine ⟨?_, by have := h.2; simpa using this⟩
        have := h.1
        simp at this
        omega)
  have HB3 : Hid (Below W.heap.size W (w2.setCell ⟨W.heap.size + 1, 1, none⟩ (.int .i64 st))) := Lib.hid (HF2.out.setCell (by show W.heap.size ≤ W.heap.size + 1; omega) _)
  clear hf2 hat hown hism h1 h2
  go_wp2_with fail
  go_ret
  exact ⟨_, rfl, HM3.out, HB3.out⟩
end Go.Proofs.Ytheblleadjbndaa
