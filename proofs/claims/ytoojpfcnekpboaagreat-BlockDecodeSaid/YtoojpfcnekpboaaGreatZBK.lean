/- Walks: Decode of zones, number and part of a directory's reader (the reference's). -/
import Derived.Test.YtoojpfcnekpboaaGreatZBH
import Derived.Test.YtoojpfcnekpboaaGreatZBJ
namespace Go.Proofs.YtoojpfcnekpboaaGreat
open Go.RowKit Go.Shelf

def ZDRPost (s : ByteArray) (w : World) (e : Ending) (w' : World) : Prop := Below w.heap.size w w' ∧
  (((zD s).2 = 0 ∧ e = .returned (.tuple #[.agg (zD s).1.cells, .int .i64 0])) ∨ ((zD s).2 ≠ 0 ∧ e = .returned (.tuple #[.agg Zn.zero.cells, .int .i64 12])))
set_option maxRecDepth 100000 in
set_option maxHeartbeats 2000000 in
theorem zdecodeR_any (s : ByteArray) (w : World) (hs : s.size ≤ 100000) :
    Calls Tryz.prog 100 #[.string s] w (ZDRPost s w) := by
  have HR := Lib.hid (fun W => zreadR_any s W hs)
  have HA0 := Lib.hid (At.new w Zn.zero.cells 50)
  have HB0 : Hid (Below w.heap.size w (w.alloc (.cells Zn.zero.cells 50))) := Lib.hid ((Below.refl _ _).alloc (Nat.le_refl _) _)
  clear hs
  go_enter Tryz.func100, Tryz.ntmps100
  go_upto_region 1 with fail
  change Code.wp _ _ _ _ (w.alloc (.cells Zn.zero.cells 50))
  generalize w.alloc (.cells Zn.zero.cells 50) = w0 at *
  go_wp2_with fail
  refine (HR.out w0).mono ?_
  rintro e w1 ⟨hb, z, n, ok, rfl, hcase⟩
  replace HA0 := Lib.hid (HA0.out.below hb)
  replace HB0 := Lib.hid (HB0.out.trans (hb.mono HB0.out.size))
  clear hb HR
  have HA1 := Lib.hid (At.new w1 Zn.zero.cells 50)
  go_wp2_with (refine wpList_store_at rfl 50 (.tmp 4) (.tmp 10) rfl w1.heap.size z.cells rfl rfl 50 Zn.zero.cells HA1.out size_zone rfl (zn_one _) ?_)
  intro w2 HW2
  have HX1 : Hid (At w2 w1.heap.size z.cells 50) := Lib.hid (by rw [HW2.out]; exact HA1.out.row)
  have HBB : Hid (Below w1.heap.size w1 w2) := Lib.hid (by rw [HW2.out]; exact below_row ((Below.refl _ _).alloc (Nat.le_refl _) _) _ _ (Nat.le_refl _))
  replace HA0 := Lib.hid (HA0.out.below HBB.out)
  replace HB0 := Lib.hid (HB0.out.trans (HBB.out.mono HB0.out.size))
  clear HW2 HBB HA1
  generalize w1.heap.size = B1 at *
  rcases hcase with ⟨rfl, hn, hz⟩ | ⟨hno, hz⟩
  · have HZ := Lib.hid hz
    have d1 : (n != (s.size : Int)) = false := by rw [bne_eq_false_iff_eq]; exact hn
    clear hz hn
    go_wp2_with (first | (refine wpList_load_row rfl 50 (.tmp 4) rfl B1 rfl 50 z.cells (0, 0) _ HX1.out.out Tryz.underlying50 rfl size_zone ?_) | (refine wpList_store_at rfl 50 (.tmp 2) (.tmp 22) rfl w.heap.size z.cells rfl rfl 50 Zn.zero.cells HA0.out size_zone rfl (zn_one _) ?_))
    intro w9 HW9
    have HA9 : Hid (At w9 w.heap.size z.cells 50) := Lib.hid (by rw [HW9.out]; exact HA0.out.row)
    have HB9 : Hid (Below w.heap.size w w9) := Lib.hid (by rw [HW9.out]; exact below_row HB0.out _ _ (Nat.le_refl _))
    go_wp2_with fail
    refine bodyPost_ret (results_row_tmp rfl _ _ w.heap.size 50 z.cells _ rfl HA9.out Tryz.underlying50 rfl size_zone) rfl ⟨HB9.out, .inl ⟨by rw [HZ.out], by rw [HZ.out]; rfl⟩⟩
  · have HZ := Lib.hid hz
    cases ok
    · clear hno hz
      go_wp2_with (refine wpList_store_at rfl 50 (.tmp 2) (.tmp 21) rfl w.heap.size Zn.zero.cells rfl rfl 50 Zn.zero.cells HA0.out size_zone rfl (zn_one _) ?_)
      intro w9 HW9
      have HA9 : Hid (At w9 w.heap.size Zn.zero.cells 50) := Lib.hid (by rw [HW9.out]; exact HA0.out.row)
      have HB9 : Hid (Below w.heap.size w w9) := Lib.hid (by rw [HW9.out]; exact below_row HB0.out _ _ (Nat.le_refl _))
      go_wp2_with fail
      refine bodyPost_ret (results_row_tmp rfl _ _ w.heap.size 50 Zn.zero.cells _ rfl HA9.out Tryz.underlying50 rfl size_zone) rfl ⟨HB9.out, .inr ⟨HZ.out, rfl⟩⟩
    · have d1 : (n != (s.size : Int)) = true := bne_iff_ne.2 (fun h => hno ⟨rfl, h⟩)
      clear hno hz
      go_wp2_with (refine wpList_store_at rfl 50 (.tmp 2) (.tmp 21) rfl w.heap.size Zn.zero.cells rfl rfl 50 Zn.zero.cells HA0.out size_zone rfl (zn_one _) ?_)
      intro w9 HW9
      have HA9 : Hid (At w9 w.heap.size Zn.zero.cells 50) := Lib.hid (by rw [HW9.out]; exact HA0.out.row)
      have HB9 : Hid (Below w.heap.size w w9) := Lib.hid (by rw [HW9.out]; exact below_row HB0.out _ _ (Nat.le_refl _))
      go_wp2_with fail
      refine bodyPost_ret (results_row_tmp rfl _ _ w.heap.size 50 Zn.zero.cells _ rfl HA9.out Tryz.underlying50 rfl size_zone) rfl ⟨HB9.out, .inr ⟨HZ.out, rfl⟩⟩

/-! ### The reader -/
def qRd (st : RS) : Array Value := #[.string st.rest, .bool st.bad]
/-- A number, as the reference reads it. -/
def qNum (st : RS) : Int × RS := if st.bad = true ∨ (rdG st.rest).2.2 ≠ 0 then (0, ⟨⟨#[]⟩, true⟩) else ((rdG st.rest).1, ⟨cutS st.rest (rdG st.rest).2.1.toNat, false⟩)
/-- A string behind its length, as the reference reads it. -/
def qPart (st : RS) : ByteArray × RS := if (qNum st).2.bad = true ∨ ((qNum st).2.rest.size : Int) < (qNum st).1 then (⟨#[]⟩, ⟨⟨#[]⟩, true⟩) else ((qNum st).2.rest.extract 0 (qNum st).1.toNat, ⟨cutS (qNum st).2.rest (qNum st).1.toNat, false⟩)
theorem size_r21 : (Tryz.prog.info? 148).map (·.size) = some 2 := by kernel_rfl
theorem qRd_one (st : RS) : ((qRd st).all fun x => x.oneCell') = true := by simp [qRd, Value.oneCell']
theorem qNum_bounds (st : RS) : 0 ≤ (qNum st).1 ∧ (qNum st).1 ≤ 1152921504606846976 ∧ (qNum st).2.rest.size ≤ st.rest.size := by
  have := rdG_bounds st.rest
  unfold qNum
  split
  · exact ⟨Int.le_refl 0, by show (0 : Int) ≤ _; decide, Nat.zero_le _⟩
  · refine ⟨this.1, this.2.1, ?_⟩
    rw [cutS_size]
    omega
theorem qPart_bounds (st : RS) : (qPart st).1.size ≤ st.rest.size ∧ (qPart st).2.rest.size ≤ st.rest.size := by
  have := (qNum_bounds st).2.2
  unfold qPart
  split
  · exact ⟨Nat.zero_le _, Nat.zero_le _⟩
  · rw [cutS_size, ByteArray.size_extract]
    omega
theorem results_tmp_row {P : Program} {fn : Func} {p q : Tmp} {ty : TypeId} (h : fn.results = #[.tmp q, .cell p ty]) (tmps : Array Value) (w : World) (g : Nat) (t : TypeId) (cs : Array Value) (d : TypeDesc)
    (hp : tmps.getD p undef = .pointer (some ⟨g, 0, none⟩)) (hg : At w g cs t) (hu : P.underlying ty = some d) (hd : (match d with | .struct _ | .array _ _ => true | _ => false) = true) (hi : (P.info? ty).map (·.size) = some cs.size) :
    (results fn tmps).run P w = .ok (.tuple #[tmps.getD q undef, .agg cs]) w := by
  rw [Array.getD_eq_getD_getElem?] at hp ⊢
  simp [results, h, hp, asAddr, run_loadVar_row w g t ty cs (0, 0) d hg.out hu hd hi]
def qBad : RS := ⟨⟨#[]⟩, true⟩
set_option maxRecDepth 100000 in
set_option maxHeartbeats 2000000 in
theorem qnumber_any (st : RS) (w : World) (hs : st.rest.size ≤ 100000) :
    Calls Tryz.prog 97 #[.agg (qRd st)] w fun e w' => e = .returned (.tuple #[.int .i64 (qNum st).1, .agg (qRd (qNum st).2)]) ∧ Below w.heap.size w w' := by
  have HR := Lib.hid (fun W => readR_any st.rest W hs)
  have hrb := rdG_bounds st.rest
  have A1 := At.new w (qRd st) 148
  have A3 := At.new (w.alloc (.cells (qRd st) 148)) (qRd ⟨⟨#[]⟩, false⟩) 148
  have HA1 := Lib.hid (A1.alloc (.cells (qRd ⟨⟨#[]⟩, false⟩) 148))
  have e1 : (w.alloc (.cells (qRd st) 148)).heap.size = w.heap.size + 1 := by simp
  rw [e1] at A3
  obtain ⟨B3, hB3⟩ : ∃ B3, w.heap.size + 1 = B3 := ⟨_, rfl⟩
  rw [hB3] at A3
  have HA3 := Lib.hid A3
  have HB : Hid (Below w.heap.size w ((w.alloc (.cells (qRd st) 148)).alloc (.cells (qRd ⟨⟨#[]⟩, false⟩) 148))) := Lib.hid (((Below.refl _ _).alloc (Nat.le_refl _) _).alloc (by simp) _)
  have HLT : Hid (w.heap.size < B3) := Lib.hid (by omega)
  have HE0 : Hid (qNum st = if st.bad = true ∨ (rdG st.rest).2.2 ≠ 0 then (0, ⟨⟨#[]⟩, true⟩) else ((rdG st.rest).1, ⟨cutS st.rest (rdG st.rest).2.1.toNat, false⟩)) := Lib.hid rfl
  clear A1 A3 e1 hs
  go_enter Tryz.func97, Tryz.ntmps97
  go_upto_region 1 with fail
  change Code.wp _ _ _ _ ((w.alloc (.cells (qRd st) 148)).alloc (.cells (qRd ⟨⟨#[]⟩, false⟩) 148))
  clear hB3
  generalize (w.alloc (.cells (qRd st) 148)).alloc (.cells (qRd ⟨⟨#[]⟩, false⟩) 148) = w0 at *
  obtain ⟨rest, bad⟩ := st
  simp only at HR HE0 hrb
  have c0 : w0.cell? ⟨w.heap.size, 0, none⟩ = some (.string rest) := HA1.out.cell 0
  go_wp2_with fail
  refine (HR.out w0).mono ?_
  rintro e w1 ⟨hb, hres⟩
  replace HA1 := Lib.hid (HA1.out.below hb)
  replace HA3 := Lib.hid (HA3.out.below hb)
  replace HB := Lib.hid (HB.out.trans (hb.mono HB.out.size))
  clear hb HR c0
  have c1 : w1.cell? ⟨w.heap.size, 1, none⟩ = some (.bool bad) := HA1.out.cell 1
  have c0 : w1.cell? ⟨w.heap.size, 0, none⟩ = some (.string rest) := HA1.out.cell 0
  cases bad
  · rcases hres with ⟨h0, rfl⟩ | ⟨h0, er, her, rfl⟩
    · have HE : Hid (qNum ⟨rest, false⟩ = ((rdG rest).1, ⟨cutS rest (rdG rest).2.1.toNat, false⟩)) := Lib.hid (by rw [HE0.out, if_neg]; rintro (h | h); cases h; exact h h0)
      obtain ⟨⟨x, q, z⟩, hp⟩ : ∃ p, rdG rest = p := ⟨_, rfl⟩
      rw [hp] at h0 HE hrb
      rw [hp]
      simp only [tripV] at h0 HE hrb ⊢
      subst h0
      obtain ⟨_, _, q1, q2⟩ := hrb
      obtain ⟨Q, hQ⟩ : ∃ Q : Nat, q = (Q : Int) := ⟨q.toNat, by omega⟩
      subst hQ
      rw [Int.toNat_natCast] at HE
      have hQt : Q ≤ rest.size := by omega
      have hcut : rest.extract Q rest.size = cutS rest Q := rfl
      clear hp q1 HE0
      go_upto_region 4 with fail
      refine wp_region_still_tail 7 (by kernel_rfl) (by kernel_rfl) ?_
      simp only [List.take_succ_cons, List.take_zero, List.drop_succ_cons, List.drop_zero]
      still_step
      still_step
      still_step
      still_step
      still_step
      still_step
      still_step
      refine wpStill_nil ?_
      change wpList _ _ _ _ _ w1.drew
      have HA3d : Hid (At w1.drew B3 (qRd ⟨⟨#[]⟩, false⟩) 148) := Lib.hid HA3.out.drew
      have HBd : Hid (Below w.heap.size w w1.drew) := Lib.hid (below_drew HB.out)
      generalize w1.drew = w2 at *
      go_wp2_with (refine wpList_store_at rfl 148 (.tmp 3) (.tmp 26) rfl B3 (qRd ⟨cutS rest Q, false⟩) rfl rfl 148 (qRd ⟨⟨#[]⟩, false⟩) HA3d.out size_r21 rfl (qRd_one _) ?_)
      intro w9 HW9
      have HA9 : Hid (At w9 B3 (qRd ⟨cutS rest Q, false⟩) 148) := Lib.hid (by rw [HW9.out]; exact HA3d.out.row)
      have HB9 : Hid (Below w.heap.size w w9) := Lib.hid (by rw [HW9.out]; exact below_row HBd.out _ _ (by have := HLT.out; omega))
      go_wp2_with fail
      refine bodyPost_ret (results_tmp_row rfl _ _ B3 148 (qRd ⟨cutS rest Q, false⟩) _ rfl HA9.out Tryz.underlying148 rfl size_r21) rfl ⟨by rw [HE.out]; rfl, HB9.out⟩
    · have HE : Hid (qNum ⟨rest, false⟩ = (0, qBad)) := Lib.hid (by rw [HE0.out, if_pos (.inr h0)]; rfl)
      have d1 : (er != 0) = true := bne_iff_ne.2 her
      simp only [tripV]
      clear her h0 HE0
      go_wp2_with (refine wpList_store_at rfl 148 (.tmp 3) (.tmp 20) rfl B3 (qRd qBad) rfl rfl 148 (qRd ⟨⟨#[]⟩, false⟩) HA3.out size_r21 rfl (qRd_one _) ?_)
      intro w9 HW9
      have HA9 : Hid (At w9 B3 (qRd qBad) 148) := Lib.hid (by rw [HW9.out]; exact HA3.out.row)
      have HB9 : Hid (Below w.heap.size w w9) := Lib.hid (by rw [HW9.out]; exact below_row HB.out _ _ (by have := HLT.out; omega))
      go_wp2_with fail
      refine bodyPost_ret (results_tmp_row rfl _ _ B3 148 (qRd qBad) _ rfl HA9.out Tryz.underlying148 rfl size_r21) rfl ⟨by rw [HE.out]; rfl, HB9.out⟩
  · have HE : Hid (qNum ⟨rest, true⟩ = (0, qBad)) := Lib.hid (by rw [HE0.out, if_pos (.inl rfl)]; rfl)
    obtain ⟨x0, q0, z0, rfl⟩ : ∃ x0 q0 z0, e = .returned (.tuple #[.int .i64 x0, .int .i64 q0, .int .i64 z0]) := by
      rcases hres with ⟨_, rfl⟩ | ⟨_, er, _, rfl⟩
      · exact ⟨_, _, _, rfl⟩
      · exact ⟨_, _, _, rfl⟩
    clear hres HE0 hrb
    go_wp2_with (refine wpList_store_at rfl 148 (.tmp 3) (.tmp 20) rfl B3 (qRd qBad) rfl rfl 148 (qRd ⟨⟨#[]⟩, false⟩) HA3.out size_r21 rfl (qRd_one _) ?_)
    intro w9 HW9
    have HA9 : Hid (At w9 B3 (qRd qBad) 148) := Lib.hid (by rw [HW9.out]; exact HA3.out.row)
    have HB9 : Hid (Below w.heap.size w w9) := Lib.hid (by rw [HW9.out]; exact below_row HB.out _ _ (by have := HLT.out; omega))
    go_wp2_with fail
    refine bodyPost_ret (results_tmp_row rfl _ _ B3 148 (qRd qBad) _ rfl HA9.out Tryz.underlying148 rfl size_r21) rfl ⟨by rw [HE.out]; rfl, HB9.out⟩
set_option maxRecDepth 100000 in
set_option maxHeartbeats 2000000 in
theorem qpart_any (st : RS) (w : World) (hs : st.rest.size ≤ 100000) :
    Calls Tryz.prog 98 #[.agg (qRd st)] w fun e w' => e = .returned (.tuple #[.string (qPart st).1, .agg (qRd (qPart st).2)]) ∧ Below w.heap.size w w' := by
  have HR := Lib.hid (fun W => qnumber_any st W hs)
  have hqb := qNum_bounds st
  have A1 := At.new w (qRd st) 148
  have A3 := At.new (w.alloc (.cells (qRd st) 148)) (qRd ⟨⟨#[]⟩, false⟩) 148
  have HA1 := Lib.hid (A1.alloc (.cells (qRd ⟨⟨#[]⟩, false⟩) 148))
  have e1 : (w.alloc (.cells (qRd st) 148)).heap.size = w.heap.size + 1 := by simp
  rw [e1] at A3
  obtain ⟨B3, hB3⟩ : ∃ B3, w.heap.size + 1 = B3 := ⟨_, rfl⟩
  rw [hB3] at A3
  have HA3 := Lib.hid A3
  have HB : Hid (Below w.heap.size w ((w.alloc (.cells (qRd st) 148)).alloc (.cells (qRd ⟨⟨#[]⟩, false⟩) 148))) := Lib.hid (((Below.refl _ _).alloc (Nat.le_refl _) _).alloc (by simp) _)
  have HLT : Hid (w.heap.size < B3) := Lib.hid (by omega)
  have HE0 : Hid (qPart st = if (qNum st).2.bad = true ∨ ((qNum st).2.rest.size : Int) < (qNum st).1 then (⟨#[]⟩, ⟨⟨#[]⟩, true⟩) else ((qNum st).2.rest.extract 0 (qNum st).1.toNat, ⟨cutS (qNum st).2.rest (qNum st).1.toNat, false⟩)) := Lib.hid rfl
  clear A1 A3 e1 hs
  go_enter Tryz.func98, Tryz.ntmps98
  go_upto_region 1 with fail
  change Code.wp _ _ _ _ ((w.alloc (.cells (qRd st) 148)).alloc (.cells (qRd ⟨⟨#[]⟩, false⟩) 148))
  clear hB3
  generalize (w.alloc (.cells (qRd st) 148)).alloc (.cells (qRd ⟨⟨#[]⟩, false⟩) 148) = w0 at *
  obtain ⟨U, hU⟩ : ∃ U, U = qRd st := ⟨_, rfl⟩
  rw [← hU] at HR HA1
  rw [← hU]
  have hus : U.size = 2 := by rw [hU]; rfl
  clear hU
  go_wp2_with (refine wpList_load_row rfl 148 (.tmp 1) rfl w.heap.size rfl 148 U (0, 0) _ HA1.out.out Tryz.underlying148 rfl (by rw [hus]; exact size_r21) ?_)
  refine (HR.out w0).mono ?_
  rintro e w1 ⟨rfl, hb⟩
  replace HA1 := Lib.hid (HA1.out.below hb)
  replace HA3 := Lib.hid (HA3.out.below hb)
  replace HB := Lib.hid (HB.out.trans (hb.mono HB.out.size))
  clear hb HR
  obtain ⟨⟨n, rest, bad⟩, hp⟩ : ∃ p, qNum st = p := ⟨_, rfl⟩
  rw [hp] at HE0 hqb
  rw [hp]
  simp only at HE0 hqb ⊢
  obtain ⟨n0, n1, _⟩ := hqb
  obtain ⟨V, hV⟩ : ∃ V, V = qRd ⟨rest, bad⟩ := ⟨_, rfl⟩
  rw [← hV]
  have hvs : V.size = 2 := by rw [hV]; rfl
  have HV1 : Hid ((V.all fun v => v.oneCell') = true) := Lib.hid (by rw [hV]; exact qRd_one _)
  have HV := Lib.hid hV
  clear hV hp
  go_wp2_with (refine wpList_store_at rfl 148 (.tmp 1) (.tmp 9) rfl w.heap.size V rfl rfl 148 U HA1.out (by rw [hvs]; exact size_r21) (by rw [hvs, hus]) HV1.out ?_)
  intro w2 HW2
  have HA2 : Hid (At w2 w.heap.size (qRd ⟨rest, bad⟩) 148) := Lib.hid (by rw [HW2.out, ← HV.out]; exact HA1.out.row)
  replace HA3 : Hid (At w2 B3 (qRd ⟨⟨#[]⟩, false⟩) 148) := Lib.hid (by rw [HW2.out]; exact HA3.out.rowOther (by have := HLT.out; omega))
  replace HB : Hid (Below w.heap.size w w2) := Lib.hid (by rw [HW2.out]; exact below_row HB.out _ _ (Nat.le_refl _))
  clear HW2 HA1 hvs hus HV1 HV
  have c1 : w2.cell? ⟨w.heap.size, 1, none⟩ = some (.bool bad) := HA2.out.cell 1
  have c0 : w2.cell? ⟨w.heap.size, 0, none⟩ = some (.string rest) := HA2.out.cell 0
  cases bad
  · by_cases hlt : (rest.size : Int) < n
    · have HE : Hid (qPart st = (⟨#[]⟩, qBad)) := Lib.hid (by rw [HE0.out, if_pos (.inr hlt)]; rfl)
      have f1 : decide ((rest.size : Int) < n) = true := decide_eq_true hlt
      clear HE0 hlt
      go_wp2_with (refine wpList_store_at rfl 148 (.tmp 3) (.tmp 19) rfl B3 (qRd qBad) rfl rfl 148 (qRd ⟨⟨#[]⟩, false⟩) HA3.out size_r21 rfl (qRd_one _) ?_)
      intro w9 HW9
      have HA9 : Hid (At w9 B3 (qRd qBad) 148) := Lib.hid (by rw [HW9.out]; exact HA3.out.row)
      have HB9 : Hid (Below w.heap.size w w9) := Lib.hid (by rw [HW9.out]; exact below_row HB.out _ _ (by have := HLT.out; omega))
      go_wp2_with fail
      refine bodyPost_ret (results_tmp_row rfl _ _ B3 148 (qRd qBad) _ rfl HA9.out Tryz.underlying148 rfl size_r21) rfl ⟨by rw [HE.out]; rfl, HB9.out⟩
    · have HE : Hid (qPart st = (rest.extract 0 n.toNat, ⟨cutS rest n.toNat, false⟩)) := Lib.hid (by rw [HE0.out, if_neg]; rintro (h | h); cases h; exact hlt h)
      have f1 : decide ((rest.size : Int) < n) = false := decide_eq_false hlt
      obtain ⟨N, hN⟩ : ∃ N : Nat, n = (N : Int) := ⟨n.toNat, by omega⟩
      subst hN
      rw [Int.toNat_natCast] at HE
      have hNt : N ≤ rest.size := by omega
      have hNi : (N : Int) ≤ (rest.size : Int) := by omega
      have hcut : rest.extract N rest.size = cutS rest N := rfl
      clear HE0 hlt
      go_upto_region 4 with fail
      refine wp_region_still_tail 10 (by kernel_rfl) (by kernel_rfl) ?_
      simp only [List.take_succ_cons, List.take_zero, List.drop_succ_cons, List.drop_zero]
      still_step
      still_step
      still_step
      still_step
      still_step
      still_step
      still_step
      still_step
      still_step
      still_step
      refine wpStill_nil ?_
      change wpList _ _ _ _ _ w2.drew
      have HA3d : Hid (At w2.drew B3 (qRd ⟨⟨#[]⟩, false⟩) 148) := Lib.hid HA3.out.drew
      have HBd : Hid (Below w.heap.size w w2.drew) := Lib.hid (below_drew HB.out)
      generalize w2.drew = w3 at *
      go_wp2_with (refine wpList_store_at rfl 148 (.tmp 3) (.tmp 28) rfl B3 (qRd ⟨cutS rest N, false⟩) rfl rfl 148 (qRd ⟨⟨#[]⟩, false⟩) HA3d.out size_r21 rfl (qRd_one _) ?_)
      intro w9 HW9
      have HA9 : Hid (At w9 B3 (qRd ⟨cutS rest N, false⟩) 148) := Lib.hid (by rw [HW9.out]; exact HA3d.out.row)
      have HB9 : Hid (Below w.heap.size w w9) := Lib.hid (by rw [HW9.out]; exact below_row HBd.out _ _ (by have := HLT.out; omega))
      go_wp2_with fail
      refine bodyPost_ret (results_tmp_row rfl _ _ B3 148 (qRd ⟨cutS rest N, false⟩) _ rfl HA9.out Tryz.underlying148 rfl size_r21) rfl ⟨by rw [HE.out]; rfl, HB9.out⟩
  · have HE : Hid (qPart st = (⟨#[]⟩, qBad)) := Lib.hid (by rw [HE0.out, if_pos (.inl rfl)]; rfl)
    clear HE0
    go_wp2_with (refine wpList_store_at rfl 148 (.tmp 3) (.tmp 19) rfl B3 (qRd qBad) rfl rfl 148 (qRd ⟨⟨#[]⟩, false⟩) HA3.out size_r21 rfl (qRd_one _) ?_)
    intro w9 HW9
    have HA9 : Hid (At w9 B3 (qRd qBad) 148) := Lib.hid (by rw [HW9.out]; exact HA3.out.row)
    have HB9 : Hid (Below w.heap.size w w9) := Lib.hid (by rw [HW9.out]; exact below_row HB.out _ _ (by have := HLT.out; omega))
    go_wp2_with fail
    refine bodyPost_ret (results_tmp_row rfl _ _ B3 148 (qRd qBad) _ rfl HA9.out Tryz.underlying148 rfl size_r21) rfl ⟨by rw [HE.out]; rfl, HB9.out⟩
end Go.Proofs.YtoojpfcnekpboaaGreat
