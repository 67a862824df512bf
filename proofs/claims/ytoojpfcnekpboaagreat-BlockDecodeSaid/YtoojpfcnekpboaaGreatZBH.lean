/- Walks: a zone that is read (the reference's). -/
import Derived.Test.YtoojpfcnekpboaaGreatZAW
import Derived.Test.YtoojpfcnekpboaaGreatZAX
import Derived.Test.YtoojpfcnekpboaaGreatZAM
import Derived.Test.YtoojpfcnekpboaaGreatZBG
namespace Go.Proofs.YtoojpfcnekpboaaGreat
open Go.RowKit Go.Shelf

def nmC (l : List Int) : Array Value := (l.map (fun n => Value.int .i64 n)).toArray
theorem nmC_set (l : List Int) (k : Nat) (n : Int) : (nmC l).setIfInBounds k (.int .i64 n) = nmC (l.set k n) := by
  unfold nmC
  rw [List.map_set, List.setIfInBounds_toArray]
theorem nmC_get (l : List Int) (k : Nat) (h : k < l.length) : (nmC l)[k]? = some (.int .i64 l[k]) := by
  unfold nmC
  simp [h]
theorem size_arr5 : (Tryz.prog.info? 220).map (·.size) = some 5 := by kernel_rfl
theorem take_set_next {l : List Int} {k : Nat} {n : Int} (h : k < l.length) : (l.set k n).take (k + 1) = l.take k ++ [n] := by
  rw [List.take_set, List.take_succ_eq_append_getElem h, List.set_append_right _ _ (by rw [List.length_take]; omega), List.length_take, Nat.min_eq_left (by omega), Nat.sub_self]
  rfl
/-- What 'Read' answers. -/
def ZRPost (s : ByteArray) (w : World) (e : Ending) (w' : World) : Prop := Below w.heap.size w w' ∧
  ∃ (z : Zn) (n : Int) (ok : Bool), e = .returned (.tuple #[.agg z.cells, .int .i64 n, .bool ok]) ∧ ((ok = true ∧ n = s.size ∧ zD s = (z, 0)) ∨ (¬ (ok = true ∧ n = s.size) ∧ (zD s).2 ≠ 0))
theorem zD_none {s : ByteArray} (h : zP s = none) : (zD s).2 ≠ 0 := by
  unfold zD
  rw [h]
  show (12 : Int) ≠ 0
  decide
theorem five_of {l : List Int} (h : l.length = 5) : ∃ c a b d e, l = [c, a, b, d, e] := by
  match l, h with
  | [c, a, b, d, e], _ => exact ⟨c, a, b, d, e, rfl⟩
/-- What is known of the numbers. -/
structure NB5 (l : List Int) (k : Nat) : Prop where mk ::
  len : l.length = 5
  lo : ∀ j (h : j < l.length), -1152921504606846976 ≤ l[j] ∧ l[j] ≤ 1152921504606846976
  nn : ∀ j (h : j < l.length), j ≠ 3 → 0 ≤ l[j]
  c0 : ∀ h : 0 < l.length, 0 < k → 0 < l[0]
theorem NB5.next {l : List Int} {k : Nat} {n : Int} (h : NB5 l k) (h1 : -1152921504606846976 ≤ n) (h2 : n ≤ 1152921504606846976) (h3 : k ≠ 3 → 0 ≤ n) (h4 : k = 0 → n ≠ 0) (hk : k < 5) : NB5 (l.set k n) (k + 1) := by
  refine ⟨by rw [List.length_set]; exact h.len, fun j hj => ?_, fun j hj hne => ?_, fun hj _ => ?_⟩
  · rw [List.length_set] at hj
    rw [List.getElem_set]
    split
    · exact ⟨h1, h2⟩
    · exact h.lo j hj
  · rw [List.length_set] at hj
    rw [List.getElem_set]
    split
    · rename_i e
      exact h3 (by omega)
    · exact h.nn j hj hne
  · rw [List.length_set] at hj
    rw [List.getElem_set]
    split
    · rename_i e
      have := h3 (by omega)
      have := h4 e
      omega
    · rename_i e
      exact h.c0 hj (by omega)
set_option maxRecDepth 100000 in
set_option maxHeartbeats 8000000 in
theorem zreadR_any (s : ByteArray) (w : World) (hs : s.size ≤ 100000) :
    Calls Tryz.prog 131 #[.string s] w (ZRPost s w) := by
  have HS := Lib.hid hs
  have hsi : (s.size : Int) ≤ 100000 := by omega
  clear hs
  have A0 := At.new w Zn.zero.cells 50
  have HA0 := Lib.hid A0
  have HB0 : Hid (Below w.heap.size w (w.alloc (.cells Zn.zero.cells 50))) := Lib.hid ((Below.refl _ _).alloc (Nat.le_refl _) _)
  clear A0
  go_enter Tryz.func131, Tryz.ntmps131
  go_upto_region 1 with fail
  change Code.wp _ _ _ _ (w.alloc (.cells Zn.zero.cells 50))
  generalize w.alloc (.cells Zn.zero.cells 50) = w0 at *
  have HA1 := Lib.hid (At.new w0 Zn.zero.cells 50)
  go_wp2_with (refine wpList_store_at rfl 50 (.tmp 5) (.tmp 13) rfl w0.heap.size Zn.zero.cells rfl rfl 50 Zn.zero.cells HA1.out size_zone rfl (zn_one _) ?_)
  intro w1 HW1
  have HX1 : Hid (At w1 w0.heap.size Zn.zero.cells 50) := Lib.hid (by rw [HW1.out]; exact HA1.out.row)
  have HBB : Hid (Below w0.heap.size w0 w1) := Lib.hid (by rw [HW1.out]; exact below_row ((Below.refl _ _).alloc (Nat.le_refl _) _) _ _ (Nat.le_refl _))
  have HX0 := Lib.hid (HA0.out.below HBB.out)
  have HB1 := Lib.hid (HB0.out.trans (HBB.out.mono HB0.out.size))
  have HLT : Hid (w.heap.size < w0.heap.size) := Lib.hid HA0.out.lt
  clear HW1 HBB HA1 HA0 HB0
  generalize w0.heap.size = B1 at *
  have HA2 := Lib.hid (At.new w1 (nmC [0, 0, 0, 0, 0]) 220)
  go_wp2_with (refine wpList_store_at rfl 220 (.tmp 7) (.tmp 16) rfl w1.heap.size (nmC [0, 0, 0, 0, 0]) rfl rfl 220 (nmC [0, 0, 0, 0, 0]) HA2.out size_arr5 rfl (by simp [nmC, Value.oneCell']) ?_)
  intro w2 HW2
  have HF : Hid (At w2 w1.heap.size (nmC [0, 0, 0, 0, 0]) 220) := Lib.hid (by rw [HW2.out]; exact HA2.out.row)
  have HBB : Hid (Below w1.heap.size w1 w2) := Lib.hid (by rw [HW2.out]; exact below_row ((Below.refl _ _).alloc (Nat.le_refl _) _) _ _ (Nat.le_refl _))
  replace HLT : Hid (w.heap.size < B1 ∧ B1 < w1.heap.size) := Lib.hid ⟨HLT.out, HX1.out.lt⟩
  replace HX1 := Lib.hid (HX1.out.below HBB.out)
  replace HX0 := Lib.hid (HX0.out.below HBB.out)
  replace HB1 := Lib.hid (HB1.out.trans (HBB.out.mono HB1.out.size))
  clear HW2 HBB HA2
  generalize w1.heap.size = F at *
  go_wp2_with fail
  go_loopw [0, 8] (fun sv i wr => ∃ (k : Nat) (l : List Int) (t : ByteArray), k ≤ 5 ∧ sv = .string t ∧ i = .int .i64 k ∧ Hid (rzF s k = some (l.take k, t)) ∧ Hid (NB5 l k) ∧ Hid (At wr F (nmC l) 220) ∧ Hid (At wr B1 Zn.zero.cells 50) ∧ Hid (At wr w.heap.size Zn.zero.cells 50) ∧ Hid (Below w.heap.size w wr) ∧ Hid (t.size ≤ s.size)) (fun _ i _ => 5 - (intOf i).toNat)
  case atStart => exact ⟨0, [0, 0, 0, 0, 0], s, by decide, rfl, rfl, Lib.hid rfl, Lib.hid ⟨rfl, by decide, by decide, fun _ h => by omega⟩, HF, HX1, HX0, HB1, Lib.hid (Nat.le_refl _)⟩
  case round =>
    clear HF HX1 HX0 HB1
    obtain ⟨k, l, t, hk, rfl, rfl, HZ, HN, HF, HX1, HX0, HB, HT⟩ := hrel
    by_cases hlt : k < 5
    · have hlti : (k : Int) < 5 := by omega
      by_cases hk3 : k = 3
      · have hk3i : ((k : Int) == 3) = true := beq_iff_eq.2 (by omega)
        have H5 : Hid (rd5 k t = rdS t) := Lib.hid (if_pos hk3)
        go_wp2_with fail
        refine (readR_any t wr (by have := HS.out; have := HT.out; omega)).mono ?_
        rintro e w4 ⟨hb, hres⟩
        replace HF := Lib.hid (HF.out.below hb)
        replace HX1 := Lib.hid (HX1.out.below hb)
        replace HX0 := Lib.hid (HX0.out.below hb)
        replace HB := Lib.hid (HB.out.trans (hb.mono HB.out.size))
        obtain ⟨x0, q0, z0, rfl⟩ : ∃ x0 q0 z0, e = .returned (.tuple #[.int .i64 x0, .int .i64 q0, .int .i64 z0]) := by
          rcases hres with ⟨_, rfl⟩ | ⟨_, er, _, rfl⟩
          · exact ⟨_, _, _, rfl⟩
          · exact ⟨_, _, _, rfl⟩
        clear hb hk3 hres
        go_wp2_with fail
        refine (readSR_any t w4 (by have := HS.out; have := HT.out; omega)).mono ?_
        rintro e w5 ⟨hb, hres⟩
        replace HF := Lib.hid (HF.out.below hb)
        replace HX1 := Lib.hid (HX1.out.below hb)
        replace HX0 := Lib.hid (HX0.out.below hb)
        replace HB := Lib.hid (HB.out.trans (hb.mono HB.out.size))
        clear hb
        rcases hres with ⟨h0, rfl⟩ | ⟨h0, er, her, rfl⟩
        · have hok := rd5_ok k t (by rw [H5.out]; exact h0)
          have HSTP := Lib.hid (fun hz => rzF_step HZ.out (by rw [H5.out]; exact h0) hz)
          have HRZ := Lib.hid (fun (hk0 : k = 0) (hx : (rd5 k t).1 = 0) => show zP s = if (cutS t (rd5 k t).2.1.toNat).size = 0 then some Zn.zero else none by
            subst hk0
            exact (zP_rz0 HZ.out (by rw [H5.out]; exact h0) hx).2)
          rw [H5.out] at hok HSTP HRZ
          obtain ⟨⟨x, q, z⟩, hp⟩ : ∃ p, rdS t = p := ⟨_, rfl⟩
          rw [hp] at h0 hok HSTP HRZ
          rw [hp]
          simp only [tripV] at h0 hok HSTP HRZ ⊢
          subst h0
          obtain ⟨x1, x2, x3, q1, q2⟩ := hok
          obtain ⟨Q, hQ⟩ : ∃ Q : Nat, q = (Q : Int) := ⟨q.toNat, by omega⟩
          subst hQ
          rw [Int.toNat_natCast] at HSTP HRZ
          have hQt : Q ≤ t.size := by omega
          have hQi : (Q : Int) ≤ (t.size : Int) := by omega
          have hl5 : k < l.length := by rw [HN.out.len]; exact hlt
          have c5 : w5.cell? ⟨F, k, none⟩ = some (.int .i64 l[k]) := by rw [HF.out.cell, nmC_get l k hl5]
          have g5 : w5.frozen? ⟨F, k, none⟩ = false := HF.out.free k
          have hne : B1 ≠ F := by have := HLT.out; omega
          have hne2 : w.heap.size ≠ F := by have := HLT.out; omega
          have HF2 : Hid (At (w5.setCell ⟨F, k, none⟩ (.int .i64 x)) F (nmC (l.set k x)) 220) := Lib.hid (by rw [← nmC_set]; exact HF.out.set k _)
          have HX12 : Hid (At (w5.setCell ⟨F, k, none⟩ (.int .i64 x)) B1 Zn.zero.cells 50) := Lib.hid (HX1.out.other (a := ⟨F, k, none⟩) _ hne)
          have HX02 : Hid (At (w5.setCell ⟨F, k, none⟩ (.int .i64 x)) w.heap.size Zn.zero.cells 50) := Lib.hid (HX0.out.other (a := ⟨F, k, none⟩) _ hne2)
          have HB2 : Hid (Below w.heap.size w (w5.setCell ⟨F, k, none⟩ (.int .i64 x))) := Lib.hid (HB.out.setCell (p := ⟨F, k, none⟩) (by have := HLT.out; show w.heap.size ≤ F; omega) _)
          have HNX := Lib.hid (fun h4 => HN.out.next (n := x) x1 x2 x3 h4 hlt)
          have HTK : Hid ((l.set k x).take (k + 1) = l.take k ++ [x]) := Lib.hid (take_set_next hl5)
          have HCT : Hid ((cutS t Q).size ≤ s.size ∧ (cutS t Q).size = t.size - Q) := Lib.hid (by rw [cutS_size]; have := HT.out; omega)
          have hkn : (k : Int).toNat = k := by omega
          have hk00 : (0 : Int) ≤ (k : Int) := by omega
          clear hne hne2 x1 x2 x3
          have hcut : t.extract Q t.size = cutS t Q := rfl
          have hcz : ((cutS t Q).size : Int) ≤ (s.size : Int) := by have := HCT.out; omega
          have HW3 : Hid ((w5.setCell ⟨F, k, none⟩ (.int .i64 x)).drew = (w5.setCell ⟨F, k, none⟩ (.int .i64 x)).drewN 1) := Lib.hid rfl
          go_upto_region 11 with fail
          go_region
          generalize cutS t Q = t' at *
          by_cases hzz : k = 0 ∧ x = 0
          · have HZP := Lib.hid (HRZ.out hzz.1 hzz.2)
            have y1 : ((k : Int) == 0) = true := beq_iff_eq.2 (by omega)
            have y2 : (x == 0) = true := beq_iff_eq.2 hzz.2
            obtain ⟨N, hN⟩ : ∃ N : Int, (s.size : Int) - (t'.size : Int) = N := ⟨_, rfl⟩
            have n0 : 0 ≤ N := by omega
            have n1 : N ≤ 100000 := by omega
            have HNN := Lib.hid hN
            have hcz2 := Lib.hid hcz
            clear hzz c5 g5 hcz HSTP HRZ HNX
            have HX13 : Hid (At (w5.setCell ⟨F, k, none⟩ (.int .i64 x)).drew B1 Zn.zero.cells 50) := Lib.hid HX12.out.drew
            have HX03 : Hid (At (w5.setCell ⟨F, k, none⟩ (.int .i64 x)).drew w.heap.size Zn.zero.cells 50) := Lib.hid HX02.out.drew
            have HB3 : Hid (Below w.heap.size w (w5.setCell ⟨F, k, none⟩ (.int .i64 x)).drew) := Lib.hid (below_drew HB2.out)
            generalize (w5.setCell ⟨F, k, none⟩ (.int .i64 x)).drew = w6 at *
            go_wp2_with (first | (refine wpList_load_row rfl 50 (.tmp 5) rfl B1 rfl 50 Zn.zero.cells (0, 0) _ HX13.out.out Tryz.underlying50 rfl size_zone ?_) | (refine wpList_store_at rfl 50 (.tmp 2) (.tmp 50) rfl w.heap.size Zn.zero.cells rfl rfl 50 Zn.zero.cells HX03.out size_zone rfl (zn_one _) ?_))
            intro w9 HW9
            have HA9 : Hid (At w9 w.heap.size Zn.zero.cells 50) := Lib.hid (by rw [HW9.out]; exact HX03.out.row)
            have HB9 : Hid (Below w.heap.size w w9) := Lib.hid (by rw [HW9.out]; exact below_row HB3.out _ _ (Nat.le_refl _))
            go_wp2_with fail
            refine bodyPost_ret (results_row_tmp2 rfl _ _ w.heap.size 50 Zn.zero.cells _ rfl HA9.out Tryz.underlying50 rfl size_zone) rfl ⟨HB9.out, Zn.zero, N, true, rfl, ?_⟩
            by_cases hz0 : t'.size = 0
            · refine .inl ⟨rfl, by rw [← HNN.out]; omega, ?_⟩
              unfold zD
              rw [HZP.out, if_pos hz0]
              rfl
            · refine .inr ⟨?_, zD_none (by rw [HZP.out, if_neg hz0])⟩
              rintro ⟨_, h⟩
              rw [← HNN.out] at h
              omega
          · have HZ2 : Hid (rzF s (k + 1) = some ((l.set k x).take (k + 1), t')) := Lib.hid (by rw [HTK.out]; exact HSTP.out hzz)
            have HN2 := Lib.hid (HNX.out (fun h1 h2 => hzz ⟨h1, h2⟩))
            have HX13 : Hid (At (w5.setCell ⟨F, k, none⟩ (.int .i64 x)).drew B1 Zn.zero.cells 50) := Lib.hid HX12.out.drew
            have HX03 : Hid (At (w5.setCell ⟨F, k, none⟩ (.int .i64 x)).drew w.heap.size Zn.zero.cells 50) := Lib.hid HX02.out.drew
            have HF3 : Hid (At (w5.setCell ⟨F, k, none⟩ (.int .i64 x)).drew F (nmC (l.set k x)) 220) := Lib.hid HF2.out.drew
            have HB3 : Hid (Below w.heap.size w (w5.setCell ⟨F, k, none⟩ (.int .i64 x)).drew) := Lib.hid (below_drew HB2.out)
            have HT2 : Hid (t'.size ≤ s.size) := Lib.hid HCT.out.1
            clear c5 g5 HSTP HRZ HNX HX12 HX02 HF2 HB2 HTK hcz HCT
            generalize (w5.setCell ⟨F, k, none⟩ (.int .i64 x)).drew = w6 at *
            by_cases hk0 : k = 0
            · have y1 : ((k : Int) == 0) = true := beq_iff_eq.2 (by omega)
              have y2 : (x == 0) = false := beq_eq_false_iff_ne.2 (fun h => hzz ⟨hk0, h⟩)
              clear hk0 hzz
              go_wp2_with fail
              go_roundw
              case rel => exact ⟨k + 1, _, t', by omega, rfl, by go_num, HZ2, HN2, HF3, HX13, HX03, HB3, HT2⟩
              case measure => simp [intOf]; omega
            · have y1 : ((k : Int) == 0) = false := beq_eq_false_iff_ne.2 (by omega)
              clear hk0 hzz
              go_wp2_with fail
              go_roundw
              case rel => exact ⟨k + 1, _, t', by omega, rfl, by go_num, HZ2, HN2, HF3, HX13, HX03, HB3, HT2⟩
              case measure => simp [intOf]; omega
        · simp only [tripV]
          have d1 : (er != 0) = true := bne_iff_ne.2 her
          have HZD := Lib.hid (zD_none (zP_no HZ.out (by rw [H5.out]; exact h0) hlt))
          clear her h0
          go_wp2_with (refine wpList_store_at rfl 50 (.tmp 2) (.tmp 37) rfl w.heap.size Zn.zero.cells rfl rfl 50 Zn.zero.cells HX0.out size_zone rfl (zn_one _) ?_)
          intro w9 HW9
          have HA9 : Hid (At w9 w.heap.size Zn.zero.cells 50) := Lib.hid (by rw [HW9.out]; exact HX0.out.row)
          have HB9 : Hid (Below w.heap.size w w9) := Lib.hid (by rw [HW9.out]; exact below_row HB.out _ _ (Nat.le_refl _))
          go_wp2_with fail
          refine bodyPost_ret (results_row_tmp2 rfl _ _ w.heap.size 50 Zn.zero.cells _ rfl HA9.out Tryz.underlying50 rfl size_zone) rfl ⟨HB9.out, Zn.zero, 0, false, rfl, .inr ⟨by simp, HZD.out⟩⟩
      · have hk3i : ((k : Int) == 3) = false := beq_eq_false_iff_ne.2 (by omega)
        have H5 : Hid (rd5 k t = rdG t) := Lib.hid (if_neg hk3)
        go_wp2_with fail
        refine (readR_any t wr (by have := HS.out; have := HT.out; omega)).mono ?_
        rintro e w5 ⟨hb, hres⟩
        replace HF := Lib.hid (HF.out.below hb)
        replace HX1 := Lib.hid (HX1.out.below hb)
        replace HX0 := Lib.hid (HX0.out.below hb)
        replace HB := Lib.hid (HB.out.trans (hb.mono HB.out.size))
        clear hb hk3
        rcases hres with ⟨h0, rfl⟩ | ⟨h0, er, her, rfl⟩
        · have hok := rd5_ok k t (by rw [H5.out]; exact h0)
          have HSTP := Lib.hid (fun hz => rzF_step HZ.out (by rw [H5.out]; exact h0) hz)
          have HRZ := Lib.hid (fun (hk0 : k = 0) (hx : (rd5 k t).1 = 0) => show zP s = if (cutS t (rd5 k t).2.1.toNat).size = 0 then some Zn.zero else none by
            subst hk0
            exact (zP_rz0 HZ.out (by rw [H5.out]; exact h0) hx).2)
          rw [H5.out] at hok HSTP HRZ
          obtain ⟨⟨x, q, z⟩, hp⟩ : ∃ p, rdG t = p := ⟨_, rfl⟩
          rw [hp] at h0 hok HSTP HRZ
          rw [hp]
          simp only [tripV] at h0 hok HSTP HRZ ⊢
          subst h0
          obtain ⟨x1, x2, x3, q1, q2⟩ := hok
          obtain ⟨Q, hQ⟩ : ∃ Q : Nat, q = (Q : Int) := ⟨q.toNat, by omega⟩
          subst hQ
          rw [Int.toNat_natCast] at HSTP HRZ
          have hQt : Q ≤ t.size := by omega
          have hQi : (Q : Int) ≤ (t.size : Int) := by omega
          have hl5 : k < l.length := by rw [HN.out.len]; exact hlt
          have c5 : w5.cell? ⟨F, k, none⟩ = some (.int .i64 l[k]) := by rw [HF.out.cell, nmC_get l k hl5]
          have g5 : w5.frozen? ⟨F, k, none⟩ = false := HF.out.free k
          have hne : B1 ≠ F := by have := HLT.out; omega
          have hne2 : w.heap.size ≠ F := by have := HLT.out; omega
          have HF2 : Hid (At (w5.setCell ⟨F, k, none⟩ (.int .i64 x)) F (nmC (l.set k x)) 220) := Lib.hid (by rw [← nmC_set]; exact HF.out.set k _)
          have HX12 : Hid (At (w5.setCell ⟨F, k, none⟩ (.int .i64 x)) B1 Zn.zero.cells 50) := Lib.hid (HX1.out.other (a := ⟨F, k, none⟩) _ hne)
          have HX02 : Hid (At (w5.setCell ⟨F, k, none⟩ (.int .i64 x)) w.heap.size Zn.zero.cells 50) := Lib.hid (HX0.out.other (a := ⟨F, k, none⟩) _ hne2)
          have HB2 : Hid (Below w.heap.size w (w5.setCell ⟨F, k, none⟩ (.int .i64 x))) := Lib.hid (HB.out.setCell (p := ⟨F, k, none⟩) (by have := HLT.out; show w.heap.size ≤ F; omega) _)
          have HNX := Lib.hid (fun h4 => HN.out.next (n := x) x1 x2 x3 h4 hlt)
          have HTK : Hid ((l.set k x).take (k + 1) = l.take k ++ [x]) := Lib.hid (take_set_next hl5)
          have HCT : Hid ((cutS t Q).size ≤ s.size ∧ (cutS t Q).size = t.size - Q) := Lib.hid (by rw [cutS_size]; have := HT.out; omega)
          have hkn : (k : Int).toNat = k := by omega
          have hk00 : (0 : Int) ≤ (k : Int) := by omega
          clear hne hne2 x1 x2 x3
          have hcut : t.extract Q t.size = cutS t Q := rfl
          have hcz : ((cutS t Q).size : Int) ≤ (s.size : Int) := by have := HCT.out; omega
          have HW3 : Hid ((w5.setCell ⟨F, k, none⟩ (.int .i64 x)).drew = (w5.setCell ⟨F, k, none⟩ (.int .i64 x)).drewN 1) := Lib.hid rfl
          go_upto_region 11 with fail
          go_region
          generalize cutS t Q = t' at *
          by_cases hzz : k = 0 ∧ x = 0
          · have HZP := Lib.hid (HRZ.out hzz.1 hzz.2)
            have y1 : ((k : Int) == 0) = true := beq_iff_eq.2 (by omega)
            have y2 : (x == 0) = true := beq_iff_eq.2 hzz.2
            obtain ⟨N, hN⟩ : ∃ N : Int, (s.size : Int) - (t'.size : Int) = N := ⟨_, rfl⟩
            have n0 : 0 ≤ N := by omega
            have n1 : N ≤ 100000 := by omega
            have HNN := Lib.hid hN
            have hcz2 := Lib.hid hcz
            clear hzz c5 g5 hcz HSTP HRZ HNX
            have HX13 : Hid (At (w5.setCell ⟨F, k, none⟩ (.int .i64 x)).drew B1 Zn.zero.cells 50) := Lib.hid HX12.out.drew
            have HX03 : Hid (At (w5.setCell ⟨F, k, none⟩ (.int .i64 x)).drew w.heap.size Zn.zero.cells 50) := Lib.hid HX02.out.drew
            have HB3 : Hid (Below w.heap.size w (w5.setCell ⟨F, k, none⟩ (.int .i64 x)).drew) := Lib.hid (below_drew HB2.out)
            generalize (w5.setCell ⟨F, k, none⟩ (.int .i64 x)).drew = w6 at *
            go_wp2_with (first | (refine wpList_load_row rfl 50 (.tmp 5) rfl B1 rfl 50 Zn.zero.cells (0, 0) _ HX13.out.out Tryz.underlying50 rfl size_zone ?_) | (refine wpList_store_at rfl 50 (.tmp 2) (.tmp 50) rfl w.heap.size Zn.zero.cells rfl rfl 50 Zn.zero.cells HX03.out size_zone rfl (zn_one _) ?_))
            intro w9 HW9
            have HA9 : Hid (At w9 w.heap.size Zn.zero.cells 50) := Lib.hid (by rw [HW9.out]; exact HX03.out.row)
            have HB9 : Hid (Below w.heap.size w w9) := Lib.hid (by rw [HW9.out]; exact below_row HB3.out _ _ (Nat.le_refl _))
            go_wp2_with fail
            refine bodyPost_ret (results_row_tmp2 rfl _ _ w.heap.size 50 Zn.zero.cells _ rfl HA9.out Tryz.underlying50 rfl size_zone) rfl ⟨HB9.out, Zn.zero, N, true, rfl, ?_⟩
            by_cases hz0 : t'.size = 0
            · refine .inl ⟨rfl, by rw [← HNN.out]; omega, ?_⟩
              unfold zD
              rw [HZP.out, if_pos hz0]
              rfl
            · refine .inr ⟨?_, zD_none (by rw [HZP.out, if_neg hz0])⟩
              rintro ⟨_, h⟩
              rw [← HNN.out] at h
              omega
          · have HZ2 : Hid (rzF s (k + 1) = some ((l.set k x).take (k + 1), t')) := Lib.hid (by rw [HTK.out]; exact HSTP.out hzz)
            have HN2 := Lib.hid (HNX.out (fun h1 h2 => hzz ⟨h1, h2⟩))
            have HX13 : Hid (At (w5.setCell ⟨F, k, none⟩ (.int .i64 x)).drew B1 Zn.zero.cells 50) := Lib.hid HX12.out.drew
            have HX03 : Hid (At (w5.setCell ⟨F, k, none⟩ (.int .i64 x)).drew w.heap.size Zn.zero.cells 50) := Lib.hid HX02.out.drew
            have HF3 : Hid (At (w5.setCell ⟨F, k, none⟩ (.int .i64 x)).drew F (nmC (l.set k x)) 220) := Lib.hid HF2.out.drew
            have HB3 : Hid (Below w.heap.size w (w5.setCell ⟨F, k, none⟩ (.int .i64 x)).drew) := Lib.hid (below_drew HB2.out)
            have HT2 : Hid (t'.size ≤ s.size) := Lib.hid HCT.out.1
            clear c5 g5 HSTP HRZ HNX HX12 HX02 HF2 HB2 HTK hcz HCT
            generalize (w5.setCell ⟨F, k, none⟩ (.int .i64 x)).drew = w6 at *
            by_cases hk0 : k = 0
            · have y1 : ((k : Int) == 0) = true := beq_iff_eq.2 (by omega)
              have y2 : (x == 0) = false := beq_eq_false_iff_ne.2 (fun h => hzz ⟨hk0, h⟩)
              clear hk0 hzz
              go_wp2_with fail
              go_roundw
              case rel => exact ⟨k + 1, _, t', by omega, rfl, by go_num, HZ2, HN2, HF3, HX13, HX03, HB3, HT2⟩
              case measure => simp [intOf]; omega
            · have y1 : ((k : Int) == 0) = false := beq_eq_false_iff_ne.2 (by omega)
              clear hk0 hzz
              go_wp2_with fail
              go_roundw
              case rel => exact ⟨k + 1, _, t', by omega, rfl, by go_num, HZ2, HN2, HF3, HX13, HX03, HB3, HT2⟩
              case measure => simp [intOf]; omega
        · simp only [tripV]
          have d1 : (er != 0) = true := bne_iff_ne.2 her
          have HZD := Lib.hid (zD_none (zP_no HZ.out (by rw [H5.out]; exact h0) hlt))
          clear her h0
          go_wp2_with (refine wpList_store_at rfl 50 (.tmp 2) (.tmp 37) rfl w.heap.size Zn.zero.cells rfl rfl 50 Zn.zero.cells HX0.out size_zone rfl (zn_one _) ?_)
          intro w9 HW9
          have HA9 : Hid (At w9 w.heap.size Zn.zero.cells 50) := Lib.hid (by rw [HW9.out]; exact HX0.out.row)
          have HB9 : Hid (Below w.heap.size w w9) := Lib.hid (by rw [HW9.out]; exact below_row HB.out _ _ (Nat.le_refl _))
          go_wp2_with fail
          refine bodyPost_ret (results_row_tmp2 rfl _ _ w.heap.size 50 Zn.zero.cells _ rfl HA9.out Tryz.underlying50 rfl size_zone) rfl ⟨HB9.out, Zn.zero, 0, false, rfl, .inr ⟨by simp, HZD.out⟩⟩
    · have hk5 : k = 5 := by omega
      subst hk5
      obtain ⟨c, a, b, d, e, rfl⟩ := five_of HN.out.len
      have HZ5 : Hid (rzF s 5 = some ([c, a, b, d, e], t)) := Lib.hid HZ.out
      have HP5 := Lib.hid (zP_five HZ5.out)
      have HWD := Lib.hid (fun hd => zP_wide HZ5.out (HN.out.c0 (by simp) (by decide)) hd)
      have na := HN.out.nn 1 (by simp) (by decide)
      have nb := HN.out.nn 2 (by simp) (by decide)
      have ne := HN.out.nn 4 (by simp) (by decide)
      have nd := HN.out.lo 3 (by simp)
      simp only [List.getElem_cons_succ, List.getElem_cons_zero] at na nb ne nd
      have c0 : wr.cell? ⟨F, 0, none⟩ = some (.int .i64 c) := HF.out.cell 0
      have c1 : wr.cell? ⟨F, 1, none⟩ = some (.int .i64 a) := HF.out.cell 1
      have c2 : wr.cell? ⟨F, 2, none⟩ = some (.int .i64 b) := HF.out.cell 2
      have c3 : wr.cell? ⟨F, 3, none⟩ = some (.int .i64 d) := HF.out.cell 3
      have c4 : wr.cell? ⟨F, 4, none⟩ = some (.int .i64 e) := HF.out.cell 4
      have hlti : ¬ (((5 : Nat) : Int) < 5) := by decide
      have htl : (t.size : Int) ≤ 100000 := by have := HT.out; omega
      clear HZ HN HZ5
      by_cases h32 : t.size < 32
      · have f1 : decide ((t.size : Int) < 32) = true := decide_eq_true (by omega)
        have HZD : Hid ((zD s).2 ≠ 0) := Lib.hid (zD_none (by rw [HP5.out, if_neg (by omega)]))
        clear h32
        go_wp2_with (refine wpList_store_at rfl 50 (.tmp 2) (.tmp 73) rfl w.heap.size Zn.zero.cells rfl rfl 50 Zn.zero.cells HX0.out size_zone rfl (zn_one _) ?_)
        intro w9 HW9
        have HA9 : Hid (At w9 w.heap.size Zn.zero.cells 50) := Lib.hid (by rw [HW9.out]; exact HX0.out.row)
        have HB9 : Hid (Below w.heap.size w w9) := Lib.hid (by rw [HW9.out]; exact below_row HB.out _ _ (Nat.le_refl _))
        go_wp2_with fail
        refine bodyPost_ret (results_row_tmp2 rfl _ _ w.heap.size 50 Zn.zero.cells _ rfl HA9.out Tryz.underlying50 rfl size_zone) rfl ⟨HB9.out, Zn.zero, 0, false, rfl, .inr ⟨by simp, HZD.out⟩⟩
      have f1 : decide ((t.size : Int) < 32) = false := decide_eq_false (by omega)
      by_cases ha : 1099511627776 < a
      · have f2 : decide ((1099511627776 : Int) < a) = true := decide_eq_true ha
        have HZD := Lib.hid (HWD.out (.inl ha))
        clear ha h32
        go_wp2_with (refine wpList_store_at rfl 50 (.tmp 2) (.tmp 73) rfl w.heap.size Zn.zero.cells rfl rfl 50 Zn.zero.cells HX0.out size_zone rfl (zn_one _) ?_)
        intro w9 HW9
        have HA9 : Hid (At w9 w.heap.size Zn.zero.cells 50) := Lib.hid (by rw [HW9.out]; exact HX0.out.row)
        have HB9 : Hid (Below w.heap.size w w9) := Lib.hid (by rw [HW9.out]; exact below_row HB.out _ _ (Nat.le_refl _))
        go_wp2_with fail
        refine bodyPost_ret (results_row_tmp2 rfl _ _ w.heap.size 50 Zn.zero.cells _ rfl HA9.out Tryz.underlying50 rfl size_zone) rfl ⟨HB9.out, Zn.zero, 0, false, rfl, .inr ⟨by simp, HZD.out⟩⟩
      have f2 : decide ((1099511627776 : Int) < a) = false := decide_eq_false ha
      by_cases hb : 1099511627776 < b
      · have f3 : decide ((1099511627776 : Int) < b) = true := decide_eq_true hb
        have HZD := Lib.hid (HWD.out (.inr (.inl hb)))
        clear ha hb h32
        go_wp2_with (refine wpList_store_at rfl 50 (.tmp 2) (.tmp 73) rfl w.heap.size Zn.zero.cells rfl rfl 50 Zn.zero.cells HX0.out size_zone rfl (zn_one _) ?_)
        intro w9 HW9
        have HA9 : Hid (At w9 w.heap.size Zn.zero.cells 50) := Lib.hid (by rw [HW9.out]; exact HX0.out.row)
        have HB9 : Hid (Below w.heap.size w w9) := Lib.hid (by rw [HW9.out]; exact below_row HB.out _ _ (Nat.le_refl _))
        go_wp2_with fail
        refine bodyPost_ret (results_row_tmp2 rfl _ _ w.heap.size 50 Zn.zero.cells _ rfl HA9.out Tryz.underlying50 rfl size_zone) rfl ⟨HB9.out, Zn.zero, 0, false, rfl, .inr ⟨by simp, HZD.out⟩⟩
      have f3 : decide ((1099511627776 : Int) < b) = false := decide_eq_false hb
      by_cases he : 2199023255552 < e
      · have f4 : decide ((2199023255552 : Int) < e) = true := decide_eq_true he
        have HZD := Lib.hid (HWD.out (.inr (.inr he)))
        clear ha hb he h32
        go_wp2_with (refine wpList_store_at rfl 50 (.tmp 2) (.tmp 73) rfl w.heap.size Zn.zero.cells rfl rfl 50 Zn.zero.cells HX0.out size_zone rfl (zn_one _) ?_)
        intro w9 HW9
        have HA9 : Hid (At w9 w.heap.size Zn.zero.cells 50) := Lib.hid (by rw [HW9.out]; exact HX0.out.row)
        have HB9 : Hid (Below w.heap.size w w9) := Lib.hid (by rw [HW9.out]; exact below_row HB.out _ _ (Nat.le_refl _))
        go_wp2_with fail
        refine bodyPost_ret (results_row_tmp2 rfl _ _ w.heap.size 50 Zn.zero.cells _ rfl HA9.out Tryz.underlying50 rfl size_zone) rfl ⟨HB9.out, Zn.zero, 0, false, rfl, .inr ⟨by simp, HZD.out⟩⟩
      have f4 : decide ((2199023255552 : Int) < e) = false := decide_eq_false he
      obtain ⟨g1, hg1⟩ : ∃ g, a + b = g := ⟨_, rfl⟩
      obtain ⟨g3, hg3⟩ : ∃ g, d + e = g := ⟨_, rfl⟩
      rw [hg1, hg3] at HP5
      have b1 : 0 ≤ g1 := by omega
      have b2 : g1 ≤ 2199023255552 := by omega
      have b3 : -1152921504606846976 ≤ g3 := by omega
      have b4 : g3 ≤ 1152923703630102528 := by omega
      go_upto_region 16 with fail
      clear f1 f2 f3 f4 ha hb he na nb ne nd
      go_wp2_with (refine wpList_store_at rfl 50 (.tmp 5) (.tmp 90) rfl B1 (zAt c a g1 d g3 (bs t) 0).cells rfl rfl 50 Zn.zero.cells HX1.out size_zone rfl (zn_one _) ?_)
      intro w7 HW7
      have HY1 : Hid (At w7 B1 (zAt c a g1 d g3 (bs t) 0).cells 50) := Lib.hid (by rw [HW7.out]; exact HX1.out.row)
      have HY0 : Hid (At w7 w.heap.size Zn.zero.cells 50) := Lib.hid (by rw [HW7.out]; exact HX0.out.rowOther (by have := HLT.out; omega))
      have HYB : Hid (Below w.heap.size w w7) := Lib.hid (by rw [HW7.out]; exact below_row HB.out _ _ (by have := HLT.out; omega))
      have HTZ : Hid (32 ≤ t.size) := Lib.hid (by omega)
      clear HW7 HX1 HX0 HB HF c0 c1 c2 c3 c4 hg1 hg3 b1 b2 b3 b4 h32 HWD hlti
      go_wp2_with fail
      go_loopw [12] (fun i wi => ∃ k : Nat, k ≤ 32 ∧ i = .int .i64 k ∧ Hid (At wi B1 (zAt c a g1 d g3 (bs t) k).cells 50) ∧ Hid (At wi w.heap.size Zn.zero.cells 50) ∧ Hid (Below w.heap.size w wi)) (fun i _ => 32 - (intOf i).toNat)
      case atStart => exact ⟨0, by decide, rfl, HY1, HY0, HYB⟩
      case round =>
        clear HY1 HY0 HYB
        obtain ⟨k, hk, rfl, HY1, HY0, HYB⟩ := hrel
        by_cases hlt : k < 32
        · have hlt0 : (k : Int) < 32 := by omega
          have hlt2 : (k : Int) < (t.size : Int) := by have := HTZ.out; omega
          have hlt3 : k < t.size := by have := HTZ.out; omega
          have hc := t[k].toNat_lt
          have HGD : Hid (((bs t).getD k 0) = t[k]) := Lib.hid (by rw [List.getD_eq_getElem?_getD, List.getElem?_eq_getElem (by rw [bs_length]; exact hlt3)]; rfl)
          obtain ⟨ch, hcx⟩ : ∃ c, t[k] = c := ⟨_, rfl⟩
          rw [hcx] at hc HGD
          have HCG := Lib.hid (zAt_get c a g1 d g3 (bs t) k hlt)
          have HCS := Lib.hid (zAt_set c a g1 d g3 (bs t) k hlt)
          have HWS := Lib.hid (wn_step (bs t) k)
          have HWL := Lib.hid (wn_lt (bs t) k)
          have HWB := Lib.hid (wn_32 (bs t) (k + 1) (k / 4))
          obtain ⟨j, hj⟩ : ∃ j, k / 4 = j := ⟨_, rfl⟩
          rw [hj] at HCG HCS HWS HWL HWB
          rw [HGD.out] at HWS
          have h4 : IntKind.i64.wrap ((k : Int) / 4) = (j : Int) := by rw [IntKind.wrap_i64]; omega
          have hj8 : (j : Int) < 8 := by omega
          have hj0 : (0 : Int) ≤ (j : Int) := by omega
          have hsh : Op.shift BinOp.shl IntKind.u32 (IntKind.u32.wrap (ch.toNat : Int)) IntKind.i64 (IntKind.i64.wrap (8 * (k : Int).tmod 4)) = pure (.int .u32 ((ch.toNat * 256 ^ (k % 4) : Nat) : Int)) := by rw [Int.mul_comm]; exact sh_byte k ch
          have hor : binOp BinOp.or 47 (.int .u32 (wn (bs t) k j)) (.int .u32 ((ch.toNat * 256 ^ (k % 4) : Nat) : Int)) = pure (.int .u32 (wn (bs t) (k + 1) j)) := by
            rw [HWS.out]
            exact or_byte _ _ _ HWL.out hc (by omega)
          obtain ⟨z, hz2⟩ : ∃ z, z = Value.int IntKind.u32 ((ch.toNat * 256 ^ (k % 4) : Nat) : Int) := ⟨_, rfl⟩
          rw [← hz2] at hsh hor
          clear hz2
          obtain ⟨wi, hwi⟩ : ∃ wi, wi = wr := ⟨_, rfl⟩
          rw [← hwi] at HY1 HY0 HYB ⊢
          clear hwi
          have cz : wi.cell? ⟨B1, 5 + j, none⟩ = some (.int .u32 (wn (bs t) k j)) := by rw [HY1.out.cell]; exact HCG.out
          have fz : wi.frozen? ⟨B1, 5 + j, none⟩ = false := HY1.out.free _
          go_upto_region 20 with fail
          refine wp_region_still_tail 18 (by kernel_rfl) (by kernel_rfl) ?_
          simp only [List.take_succ_cons, List.take_zero, List.drop_succ_cons, List.drop_zero]
          still_step
          still_step
          still_step
          still_step
          still_step
          still_step
          still_step
          still_step
          still_step
          still_step
          still_step
          still_step
          still_step
          still_step
          still_step
          still_step
          still_step
          still_step
          refine wpStill_nil ?_
          change wpList _ _ _ _ _ wi.drew
          have HY1' : Hid (At ((wi.setCell ⟨B1, 5 + j, none⟩ (.int .u32 (wn (bs t) (k + 1) j))).drew) B1 (zAt c a g1 d g3 (bs t) (k + 1)).cells 50) := Lib.hid (by rw [← HCS.out]; exact (HY1.out.set (5 + j) _).drew)
          have HY0' : Hid (At ((wi.setCell ⟨B1, 5 + j, none⟩ (.int .u32 (wn (bs t) (k + 1) j))).drew) w.heap.size Zn.zero.cells 50) := Lib.hid ((HY0.out.other _ (by have := HLT.out; show w.heap.size ≠ B1; omega)).drew)
          have HYB' : Hid (Below w.heap.size w ((wi.setCell ⟨B1, 5 + j, none⟩ (.int .u32 (wn (bs t) (k + 1) j))).drew)) := Lib.hid (bN (HYB.out.setCell (p := ⟨B1, 5 + j, none⟩) (by have := HLT.out; show w.heap.size ≤ B1; omega) _) 1)
          go_wp2_with fail
          generalize (wi.setCell ⟨B1, 5 + j, none⟩ (.int .u32 (wn (bs t) (k + 1) j))).drew = w8 at *
          go_roundw
          case rel => exact ⟨k + 1, hlt, by go_num, HY1', HY0', HYB'⟩
          case measure => simp [intOf]; omega
        · have hk32 : k = 32 := by omega
          subst hk32
          have hlt0 : ¬ ((32 : Nat) : Int) < 32 := by decide
          obtain ⟨z, hz⟩ : ∃ z, zAt c a g1 d g3 (bs t) 32 = z := ⟨_, rfl⟩
          rw [hz] at HY1 HP5
          clear hz
          go_wp2_with (refine wpList_load_row rfl 50 (.tmp 5) rfl B1 rfl 50 z.cells (0, 0) _ HY1.out.out Tryz.underlying50 rfl size_zone ?_)
          refine (zcheck16_any z _).mono ?_
          rintro e1 w8 ⟨rfl, hb⟩
          replace HY1 := Lib.hid (HY1.out.below hb)
          replace HY0 := Lib.hid (HY0.out.below hb)
          replace HYB := Lib.hid (HYB.out.trans (hb.mono HYB.out.size))
          clear hb
          by_cases hzc : zchk z = 0
          · have HZC := Lib.hid hzc
            rw [hzc]
            obtain ⟨N, hN⟩ : ∃ N : Int, (s.size : Int) - (t.size : Int) = N := ⟨_, rfl⟩
            have n0 : 0 ≤ N := by have := HT.out; omega
            have n1 : N ≤ 100000 := by omega
            obtain ⟨M, hM⟩ : ∃ M : Int, N + 32 = M := ⟨_, rfl⟩
            have HNM : Hid (M = (s.size : Int) - t.size + 32) := Lib.hid (by omega)
            have m0 : 0 ≤ M := by omega
            have m1 : M ≤ 100032 := by omega
            clear hzc
            go_wp2_with (first | (refine wpList_load_row rfl 50 (.tmp 5) rfl B1 rfl 50 z.cells (0, 0) _ HY1.out.out Tryz.underlying50 rfl size_zone ?_) | (refine wpList_store_at rfl 50 (.tmp 2) (.tmp 117) rfl w.heap.size z.cells rfl rfl 50 Zn.zero.cells HY0.out size_zone rfl (zn_one _) ?_))
            intro w9 HW9
            have HA9 : Hid (At w9 w.heap.size z.cells 50) := Lib.hid (by rw [HW9.out]; exact HY0.out.row)
            have HB9 : Hid (Below w.heap.size w w9) := Lib.hid (by rw [HW9.out]; exact below_row HYB.out _ _ (Nat.le_refl _))
            go_wp2_with fail
            refine bodyPost_ret (results_row_tmp2 rfl _ _ w.heap.size 50 z.cells _ rfl HA9.out Tryz.underlying50 rfl size_zone) rfl ⟨HB9.out, z, M, true, rfl, ?_⟩
            by_cases h32 : t.size = 32
            · refine .inl ⟨rfl, by rw [HNM.out]; omega, ?_⟩
              unfold zD
              rw [HP5.out, if_pos h32]
              simp only
              rw [if_pos HZC.out]
            · refine .inr ⟨?_, zD_none (by rw [HP5.out, if_neg h32])⟩
              rintro ⟨_, h⟩
              rw [HNM.out] at h
              omega
          · have d1 : (zchk z != 0) = true := bne_iff_ne.2 hzc
            have HZD : Hid ((zD s).2 ≠ 0) := Lib.hid (by
              unfold zD
              rw [HP5.out]
              by_cases h32 : t.size = 32
              · rw [if_pos h32]
                simp only
                rw [if_neg hzc]
                show (12 : Int) ≠ 0
                decide
              · rw [if_neg h32]
                show (12 : Int) ≠ 0
                decide)
            obtain ⟨er, her⟩ : ∃ er, zchk z = er := ⟨_, rfl⟩
            rw [her] at d1
            rw [her]
            clear hzc her
            go_wp2_with (refine wpList_store_at rfl 50 (.tmp 2) (.tmp 116) rfl w.heap.size Zn.zero.cells rfl rfl 50 Zn.zero.cells HY0.out size_zone rfl (zn_one _) ?_)
            intro w9 HW9
            have HA9 : Hid (At w9 w.heap.size Zn.zero.cells 50) := Lib.hid (by rw [HW9.out]; exact HY0.out.row)
            have HB9 : Hid (Below w.heap.size w w9) := Lib.hid (by rw [HW9.out]; exact below_row HYB.out _ _ (Nat.le_refl _))
            go_wp2_with fail
            refine bodyPost_ret (results_row_tmp2 rfl _ _ w.heap.size 50 Zn.zero.cells _ rfl HA9.out Tryz.underlying50 rfl size_zone) rfl ⟨HB9.out, Zn.zero, 0, false, rfl, .inr ⟨by simp, HZD.out⟩⟩
end Go.Proofs.YtoojpfcnekpboaaGreat
