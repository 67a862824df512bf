/- Walks: a file that is opened (the program's). -/
import Derived.Test.YtoojpfcnekpboaaGreatZBG
namespace Go.Proofs.YtoojpfcnekpboaaGreat
open Go.RowKit Go.Shelf

theorem parE_len (s : ByteArray) : (parE s).1.length ≤ s.size := by
  unfold parE
  split
  · exact Nat.zero_le _
  · rename_i ls hl
    have h1 := (parL_some _ _ hl).1
    split
    · have h2 := congrArg List.length h1
      rw [bs_length] at h2
      rw [h2]
      cases ls with
      | nil => exact Nat.zero_le _
      | cons x r =>
        have h3 := fmtMore_lenP r
        have h4 := fmtX_posP x
        unfold fmtL fmtIn
        simp only [List.length_cons, List.length_append, List.length_nil]
        omega
    · exact Nat.zero_le _
theorem rItm_labs (a : Int) (st : RS) : (rItm a st).1.labs.length ≤ st.rest.size := by
  have := rRaw_bounds st
  unfold rItm
  simp only
  split
  · exact Nat.zero_le _
  · exact Nat.le_trans (parE_len _) this.2.2.2.1
theorem rLoop_labs (count : Int) (B : Nat) : ∀ (f : Nat) (a : Int) (st : RS) (acc : List Itm), st.rest.size ≤ B → (∀ x ∈ acc, x.labs.length ≤ B) → ∀ x ∈ (rLoop count f a st acc).1, x.labs.length ≤ B
  | 0, _, _, _, _, h => h
  | f + 1, a, st, acc, hs, h => by
    unfold rLoop
    split
    · refine rLoop_labs count B f _ _ _ (Nat.le_trans (rItm_bounds a st).2.2.1 hs) (fun x hx => ?_)
      rcases List.mem_append.1 hx with hx | hx
      · exact h x hx
      · rw [List.mem_singleton] at hx
        rw [hx]
        exact Nat.le_trans (rItm_labs a st) hs
    · exact h
theorem rBlk2_labs (a : RS) (B : Nat) (h : a.rest.size ≤ B) : ∀ x ∈ (rBlk2 a).items, x.labs.length ≤ B := by
  have h1 := (rNum_bounds a).2.2
  have h2 := (rNum_bounds (rNum a).2).2.2
  have h3 := (rNum_bounds (rNum (rNum a).2).2).2.2
  have h4 := (rNum_bounds (rNum (rNum (rNum a).2).2).2).2.2
  unfold rBlk2
  refine rLoop_labs _ B _ _ _ _ ?_ (fun x hx => by simp at hx)
  split
  · show (rNum (rNum (rNum (rNum a).2).2).2).2.rest.size ≤ B
    omega
  · omega
theorem opR_labs (s D : ByteArray) (h : opR s = rBlk ⟨D, false⟩) (hD : D.size ≤ 1000000) : ∀ x ∈ (opR s).blk.chunks, x.labs.length ≤ 9223372036854775807 := by
  rw [h, rBlk_eq]
  intro x hx
  unfold RB.blk at hx
  obtain ⟨y, hy, rfl⟩ := List.mem_map.1 hx
  have hb := (rByt_bounds 4 ⟨D, false⟩).2
  have := rBlk2_labs _ D.size (by split <;> exact hb) y hy
  show y.labs.length ≤ _
  omega
set_option maxRecDepth 100000 in
set_option maxHeartbeats 4000000 in
theorem open_any (s : ByteArray) (w : World) (hs : s.size ≤ 100000) :
    Calls Tryz.prog 34 #[.string s] w (OPost s w) := by
  have HX := Lib.hid (At.new w (blC ⟨0, 0, 0, []⟩ none 0) 25)
  have HB : Hid (Below w.heap.size w (w.alloc (.cells (blC ⟨0, 0, 0, []⟩ none 0) 25))) := Lib.hid ((Below.refl _ _).alloc (Nat.le_refl _) _)
  have HO : Hid (opE s = if s.size < 8 then 11 else if CR.Whole (endS s) then (if szS s < 4 ∨ s.size - 8 < szS s then 11 else if CR.Whole (dirS s) then
      (if (opR s).st.bad = true ∨ (opR s).st.rest.size ≠ 0 ∨ (opR s).total ≠ ((s.size - 8 - szS s : Nat) : Int) ∨ bchk (opR s).blk ≠ 0 then 12 else 0) else 13) else 13) := Lib.hid rfl
  have HS := Lib.hid hs
  by_cases h8 : s.size < 8
  · have HE : Hid (opE s = 11) := Lib.hid (by rw [HO.out, if_pos h8])
    have h8' : (s.size : Int) < 8 := by omega
    clear h8 hs HO
    go_enter Tryz.func34, Tryz.ntmps34
    go_upto_region 1 with fail
    change Code.wp _ _ _ _ (w.alloc (.cells (blC ⟨0, 0, 0, []⟩ none 0) 25))
    generalize w.alloc (.cells (blC ⟨0, 0, 0, []⟩ none 0) 25) = w0 at *
    go_wp2_with (refine wpList_store_at rfl 25 (.tmp 2) (.tmp 17) rfl w.heap.size (blC ⟨0, 0, 0, []⟩ none 0) rfl rfl 25 _ HX.out size_blk rfl (blC_one _ _ _) ?_)
    intro w9 HW9
    have HX9 : Hid (At w9 w.heap.size (blC ⟨0, 0, 0, []⟩ none 0) 25) := Lib.hid (by rw [HW9.out]; exact HX.out.row)
    have HB9 : Hid (Below w.heap.size w w9) := Lib.hid (by rw [HW9.out]; exact below_row HB.out _ _ (Nat.le_refl _))
    go_wp2_with fail
    refine bodyPost_ret (results_row_tmp3 rfl _ _ w.heap.size 25 _ _ rfl HX9.out Tryz.underlying25 rfl size_blk) rfl ⟨HB9.out, .inr ⟨by rw [HE.out]; decide, by rw [HE.out]; rfl⟩⟩
  · have hes := endS_size h8
    have hbe := bend_size h8
    have HES := Lib.hid hes
    have HLT : Hid ((CR.body (endS s)).size = 4) := Lib.hid hbe
    have HSZ : Hid (szS s = le32 (bs (CR.body (endS s)))) := Lib.hid rfl
    obtain ⟨P, hP⟩ : ∃ P, s.size - 8 = P := ⟨_, rfl⟩
    have hPs : s.size = P + 8 := by omega
    have HEN : Hid (s.extract P s.size = endS s) := Lib.hid (by rw [← hP]; rfl)
    have HDR : Hid (∀ n, szS s = n → s.extract (P - n) P = dirS s) := Lib.hid (fun n h => by unfold dirS; rw [hP, h])
    rw [hP] at HO
    have h8' : ¬ (s.size : Int) < 8 := by omega
    have hsub : (s.size : Int) - 8 = (P : Int) := by omega
    have hpl : (P : Int) ≤ (s.size : Int) := by omega
    have hsl : (s.size : Int) ≤ 100000 := by omega
    have HPS := Lib.hid hPs
    clear h8 hs hP hes hbe hPs
    go_enter Tryz.func34, Tryz.ntmps34
    go_upto_region 1 with fail
    change Code.wp _ _ _ _ (w.alloc (.cells (blC ⟨0, 0, 0, []⟩ none 0) 25))
    generalize w.alloc (.cells (blC ⟨0, 0, 0, []⟩ none 0) 25) = w0 at *
    go_upto_region 4 with fail
    clear hsub
    by_cases hw1 : CR.Whole (endS s)
    · have HC1 := Lib.hid (CR.open_good (endS s) (by rw [HES.out]; decide) (by rw [HES.out]; decide) hw1 w0)
      have HO1 := HO
      rw [if_neg (by have := HPS.out; omega), if_pos hw1] at HO1
      clear HO hw1
      have hex := HEN.out
      go_wp2_with fail
      refine HC1.out.mono ?_
      rintro e w1 ⟨rfl, hb⟩
      replace HX := Lib.hid (HX.out.below hb)
      replace HB := Lib.hid (HB.out.trans (hb.mono HB.out.size))
      clear hb HC1 hex
      obtain ⟨E, hE⟩ : ∃ E, CR.body (endS s) = E := ⟨_, rfl⟩
      rw [hE] at HLT HSZ
      rw [hE]
      have h4 : E.size = 4 := HLT.out
      obtain ⟨b0, hb0⟩ : ∃ b, E[0] = b := ⟨_, rfl⟩
      obtain ⟨b1, hb1⟩ : ∃ b, E[1] = b := ⟨_, rfl⟩
      obtain ⟨b2, hb2⟩ : ∃ b, E[2] = b := ⟨_, rfl⟩
      obtain ⟨b3, hb3⟩ : ∃ b, E[3] = b := ⟨_, rfl⟩
      have HLE : Hid (le32 (bs E) = b0.toNat + b1.toNat * 256 + b2.toNat * 65536 + b3.toNat * 16777216) := Lib.hid (by
        have hg : ∀ k (h : k < E.size), (bs E).getD k 0 = E[k] := fun k h => by rw [List.getD_eq_getElem?_getD, List.getElem?_eq_getElem (by rw [bs_length]; exact h)]; rfl
        unfold le32
        rw [hg 0 (by omega), hg 1 (by omega), hg 2 (by omega), hg 3 (by omega), hb0, hb1, hb2, hb3])
      have hbb0 := b0.toNat_lt
      have hbb1 := b1.toNat_lt
      have hbb2 := b2.toNat_lt
      have hbb3 := b3.toNat_lt
      obtain ⟨N, hN⟩ : ∃ N, b0.toNat + b1.toNat * 256 + b2.toNat * 65536 + b3.toNat * 16777216 = N := ⟨_, rfl⟩
      have HZN : Hid (szS s = N) := Lib.hid (by rw [HSZ.out, HLE.out, hN])
      have HV : Hid (bits BinOp.or .i64 (bits BinOp.or .i64 (bits BinOp.or .i64 (b0.toNat : Int) ((b1.toNat : Int) * 256)) ((b2.toNat : Int) * 65536)) ((b3.toNat : Int) * 16777216) = (N : Int)) := Lib.hid (by
        have hor1 := or_bits b0.toNat b1.toNat 8 256 rfl (by omega) hbb1 (by decide)
        have hor2 := or_bits (b0.toNat + b1.toNat * 256) b2.toNat 16 65536 rfl (by omega) hbb2 (by decide)
        have hor3 := or_bits (b0.toNat + b1.toNat * 256 + b2.toNat * 65536) b3.toNat 24 16777216 rfl (by omega) hbb3 (by decide)
        rw [hN] at hor3
        exact (congrArg (fun x => bits BinOp.or .i64 (bits BinOp.or .i64 x ((b2.toNat : Int) * 65536)) ((b3.toNat : Int) * 16777216)) hor1).trans ((congrArg (fun x => bits BinOp.or .i64 x ((b3.toNat : Int) * 16777216)) hor2).trans hor3))
      have hNl : (N : Int) ≤ 4294967295 := by omega
      clear hN HSZ HLE
      have i0 : 0 < E.size := by omega
      have i1 : 1 < E.size := by omega
      have i2 : 2 < E.size := by omega
      have i3 : 3 < E.size := by omega
      go_upto_region 7 with fail
      go_quiet (fail)
      rw [HV.out]
      clear hb0 hb1 hb2 hb3 i0 i1 i2 i3 h4 HV hbb0 hbb1 hbb2 hbb3
      replace HX := Lib.hid (HX.out.drewN nq)
      replace HB := Lib.hid (bN HB.out nq)
      generalize w1.drewN nq = w2 at *
      have hN0 : (0 : Int) ≤ (N : Int) := by omega
      by_cases hlo : N < 4
      · have HE : Hid (opE s = 11) := Lib.hid (by rw [HO1.out, HZN.out, if_pos (.inl hlo)])
        have hlo' : (N : Int) < 4 := by omega
        clear hlo
        go_wp2_with (refine wpList_store_at rfl 25 (.tmp 2) (.tmp 61) rfl w.heap.size (blC ⟨0, 0, 0, []⟩ none 0) rfl rfl 25 _ HX.out size_blk rfl (blC_one _ _ _) ?_)
        intro w9 HW9
        have HX9 : Hid (At w9 w.heap.size (blC ⟨0, 0, 0, []⟩ none 0) 25) := Lib.hid (by rw [HW9.out]; exact HX.out.row)
        have HB9 : Hid (Below w.heap.size w w9) := Lib.hid (by rw [HW9.out]; exact below_row HB.out _ _ (Nat.le_refl _))
        go_wp2_with fail
        refine bodyPost_ret (results_row_tmp3 rfl _ _ w.heap.size 25 _ _ rfl HX9.out Tryz.underlying25 rfl size_blk) rfl ⟨HB9.out, .inr ⟨by rw [HE.out]; decide, by rw [HE.out]; rfl⟩⟩
      · by_cases hhi : P < N
        · have HE : Hid (opE s = 11) := Lib.hid (by rw [HO1.out, HZN.out, if_pos (.inr hhi)])
          have hhi' : (P : Int) < (N : Int) := by omega
          have hlo' : ¬ (N : Int) < 4 := by omega
          clear hhi hlo
          go_wp2_with (refine wpList_store_at rfl 25 (.tmp 2) (.tmp 61) rfl w.heap.size (blC ⟨0, 0, 0, []⟩ none 0) rfl rfl 25 _ HX.out size_blk rfl (blC_one _ _ _) ?_)
          intro w9 HW9
          have HX9 : Hid (At w9 w.heap.size (blC ⟨0, 0, 0, []⟩ none 0) 25) := Lib.hid (by rw [HW9.out]; exact HX.out.row)
          have HB9 : Hid (Below w.heap.size w w9) := Lib.hid (by rw [HW9.out]; exact below_row HB.out _ _ (Nat.le_refl _))
          go_wp2_with fail
          refine bodyPost_ret (results_row_tmp3 rfl _ _ w.heap.size 25 _ _ rfl HX9.out Tryz.underlying25 rfl size_blk) rfl ⟨HB9.out, .inr ⟨by rw [HE.out]; decide, by rw [HE.out]; rfl⟩⟩
        · have hlo' : ¬ (N : Int) < 4 := by omega
          have hhi' : ¬ (P : Int) < (N : Int) := by omega
          obtain ⟨Q, hQ⟩ : ∃ Q, P - N = Q := ⟨_, rfl⟩
          have hsub : (P : Int) - (N : Int) = (Q : Int) := by omega
          have hQP : (Q : Int) ≤ (P : Int) := by omega
          have HQN : Hid (P = Q + N) := Lib.hid (by omega)
          have hex2 : s.extract Q P = dirS s := by rw [← hQ]; exact HDR.out N HZN.out
          have HDS : Hid ((dirS s).size = N) := Lib.hid (by rw [← hex2, ByteArray.size_extract]; have := HPS.out; omega)
          have hN4 : 4 ≤ N := by omega
          have hN5 : N ≤ 100000 := by have := HPS.out; have := HS.out; omega
          have HN4 := Lib.hid (And.intro hN4 hN5)
          have HO2 := HO1
          rw [HZN.out, if_neg (by omega), hQ] at HO2
          clear HO1 hlo hhi hQ hN4 hN5
          go_upto_region 10 with fail
          by_cases hw2 : CR.Whole (dirS s)
          · have HC2 := Lib.hid (CR.open_good (dirS s) (by rw [HDS.out]; exact HN4.out.2) (by rw [HDS.out]; exact HN4.out.1) hw2 w2)
            have HO3 := HO2
            rw [if_pos hw2] at HO3
            clear HO2 hw2
            go_wp2_with fail
            refine HC2.out.mono ?_
            rintro e w3 ⟨rfl, hb⟩
            replace HX := Lib.hid (HX.out.below hb)
            replace HB := Lib.hid (HB.out.trans (hb.mono HB.out.size))
            have HDB : Hid ((CR.body (dirS s)).size ≤ 1000000) := Lib.hid (by rw [CR.body_size, HDS.out]; have := HN4.out.2; omega)
            have HRR : Hid (opR s = rBlk ⟨CR.body (dirS s), false⟩) := Lib.hid rfl
            obtain ⟨D, hD⟩ : ∃ D, CR.body (dirS s) = D := ⟨_, rfl⟩
            rw [hD] at HDB HRR
            rw [hD]
            clear hb HC2 hex2 hsub hD
            have HRN : Hid (w.heap.size < w3.heap.size) := Lib.hid HX.out.lt
            have HRX := Lib.hid (At.new w3 (rsC ⟨⟨#[]⟩, false⟩) 115)
            go_wp2_with (refine wpList_store_at rfl 115 (.tmp 10) (.tmp 76) rfl w3.heap.size (rsC ⟨D, false⟩) rfl rfl 115 _ HRX.out size_reader rfl (rsC_one _) ?_)
            intro w4 HW4
            have HR4 : Hid (At w4 w3.heap.size (rsC ⟨D, false⟩) 115) := Lib.hid (by rw [HW4.out]; exact HRX.out.row)
            have HBB : Hid (Below w3.heap.size w3 w4) := Lib.hid (by rw [HW4.out]; exact below_row ((Below.refl _ _).alloc (Nat.le_refl _) _) _ _ (Nat.le_refl _))
            replace HX := Lib.hid (HX.out.below HBB.out)
            replace HB := Lib.hid (HB.out.trans (HBB.out.mono HB.out.size))
            go_wp2_with fail
            refine (rblock_any w3.heap.size ⟨D, false⟩ w4 HR4.out HDB.out).mono ?_
            unfold BkPost
            rw [← HRR.out]
            have HLB := Lib.hid (opR_labs s D HRR.out HDB.out)
            have HBE : Hid ((opR s).blk.chunks.length = (opR s).items.length) := Lib.hid (by unfold RB.blk; simp)
            obtain ⟨r, hr⟩ : ∃ r, opR s = r := ⟨_, rfl⟩
            rw [hr] at HLB HBE HO3
            rw [hr]
            have HRE := Lib.hid hr
            clear hr
            rintro e w5 ⟨⟨A, c, A2, c2, rfl, hI, hIc, hC, hCc, hA2⟩, hR5, hK5⟩
            replace HX := Lib.hid (HX.out.keep hK5 (by have := HRN.out; omega))
            replace HB := Lib.hid (HB.out.trans (hK5.toBelow (by have := HRN.out; omega) HB.out.size))
            have HA2 : Hid (∀ k, A2.map (·.block) = some k → w.heap.size ≤ k) := Lib.hid (fun k h => by have h1 := hA2 k h; have h2 := HRN.out; have h3 := HBB.out.size; omega)
            have HI := Lib.hid hI
            have HIC := Lib.hid hIc
            have HC := Lib.hid hC
            have HCC := Lib.hid hCc
            have HR5 := Lib.hid hR5
            have HBX := Lib.hid (At.new w5 #[.int .i64 0, .int .i64 0, .int .i64 0, .slice none 0 0] 25)
            obtain ⟨V, hV⟩ : ∃ V, V = blC r.blk A2 c2 := ⟨_, rfl⟩
            have hcs : V.size = 4 := by rw [hV]; rfl
            have HV1 : Hid ((V.all fun v => v.oneCell') = true) := Lib.hid (by rw [hV]; exact blC_one _ _ _)
            have HV := Lib.hid hV
            rw [← hV]
            clear hV
            clear hI hIc hC hCc hR5 hK5 hA2 HR4 HBB HRR HW4 HRX HDB
            go_wp2_with (refine wpList_store_at rfl 25 (.tmp 11) (.tmp 79) rfl w5.heap.size V rfl rfl 25 _ HBX.out (by rw [hcs]; exact size_blk) hcs.symm HV1.out ?_)
            intro w6 HW6
            have HRR : Hid (Below w5.heap.size w5 w6) := Lib.hid (by rw [HW6.out]; exact below_row ((Below.refl _ _).alloc (Nat.le_refl _) _) _ _ (Nat.le_refl _))
            have HBX6 : Hid (At w6 w5.heap.size V 25) := Lib.hid (by rw [HW6.out]; exact HBX.out.row)
            replace HX := Lib.hid (HX.out.below HRR.out)
            replace HB := Lib.hid (HB.out.trans (HRR.out.mono HB.out.size))
            replace HR5 := Lib.hid (HR5.out.below HRR.out)
            replace HI := Lib.hid (HI.out.kt (KT.below HRR.out) (KT.below HRR.out))
            replace HC := Lib.hid (HC.out.kt (KT.below HRR.out) (KT.below HRR.out))
            clear HW6 HBX HRR
            have hsub : (P : Int) - (N : Int) = (Q : Int) := by have := HQN.out; omega
            have k1 : w6.cell? ⟨w3.heap.size, 1, none⟩ = some (.bool r.st.bad) := HR5.out.cell 1
            have k0 : w6.cell? ⟨w3.heap.size, 0, none⟩ = some (.string r.st.rest) := HR5.out.cell 0
            obtain ⟨rs, rb⟩ : ∃ q, q = r.st := ⟨_, rfl⟩
            rw [← rb] at k0 k1 HO3
            obtain ⟨rest, bad⟩ := rs
            simp only at k0 k1 HO3
            clear HR5 rb
            cases bad
            · by_cases hz : rest.size = 0
              · have z1 := str_eq hz
                by_cases ht : r.total = (Q : Int)
                · have t1 : (r.total != (Q : Int)) = false := by rw [ht]; simp
                  have HCK := Lib.hid (check_any r.blk A2 c2 w6 HC.out.rd (by rw [HBE.out]; exact HCC.out) HLB.out)
                  have HO4 : Hid (opE s = if bchk r.blk ≠ 0 then 12 else 0) := Lib.hid (by
                    rw [HO3.out]
                    by_cases hq : bchk r.blk = 0
                    · rw [if_neg (by rintro (h | h | h | h); cases h; exact h hz; exact h ht; exact h hq), if_neg (fun h => h hq)]
                    · rw [if_pos (.inr (.inr (.inr hq))), if_pos hq])
                  clear HO3 hz
                  obtain ⟨tot, htot⟩ : ∃ t, r.total = t := ⟨_, rfl⟩
                  rw [htot] at t1
                  have HTT := Lib.hid htot
                  rw [htot]
                  clear ht htot
                  go_wp2_with (refine wpList_load_atG rfl 25 (.tmp 11) rfl w5.heap.size rfl 25 V _ HBX6.out Tryz.underlying25 rfl (by rw [hcs]; exact size_blk) ?_)
                  rw [HV.out]
                  refine HCK.out.mono ?_
                  rintro e w7 ⟨rfl, hb⟩
                  replace HX := Lib.hid (HX.out.below hb)
                  replace HB := Lib.hid (HB.out.trans (hb.mono HB.out.size))
                  replace HBX6 := Lib.hid (HBX6.out.below hb)
                  replace HI := Lib.hid (HI.out.kt (KT.below hb) (KT.below hb))
                  replace HC := Lib.hid (HC.out.kt (KT.below hb) (KT.below hb))
                  clear hb HCK k0 k1
                  by_cases hq : bchk r.blk = 0
                  · have HE : Hid (opE s = 0) := Lib.hid (by rw [HO4.out, if_neg (fun h => h hq)])
                    rw [hq]
                    clear hq HO4
                    have HKI := Lib.hid (KT.row (E := 52) HX.out (by decide) V)
                    have HKC := Lib.hid (KT.row (E := 58) HX.out (by decide) V)
                    have HKL := Lib.hid (KT.row (E := 66) HX.out (by decide) V)
                    go_wp2_with (first | (refine wpList_load_row rfl 25 (.tmp 11) rfl w5.heap.size rfl 25 V (0, 0) _ HBX6.out.out Tryz.underlying25 rfl (by rw [hcs]; exact size_blk) ?_) | (refine wpList_store_at rfl 25 (.tmp 2) (.tmp 102) rfl w.heap.size V rfl rfl 25 _ HX.out (by rw [hcs]; exact size_blk) (by rw [hcs]; rfl) HV1.out ?_))
                    intro w9 HW9
                    have HX9 : Hid (At w9 w.heap.size (blC r.blk A2 c2) 25) := Lib.hid (by rw [HW9.out, ← HV.out]; exact HX.out.row)
                    have HB9 : Hid (Below w.heap.size w w9) := Lib.hid (by rw [HW9.out]; exact below_row HB.out _ _ (Nat.le_refl _))
                    rw [← HW9.out] at HKI HKC HKL
                    have HI9 := Lib.hid (HI.out.kt HKL.out HKI.out)
                    have HC9 := Lib.hid (HC.out.kt HKL.out HKC.out)
                    go_wp2_with fail
                    refine bodyPost_ret (results_row_tmp3 rfl _ _ w.heap.size 25 _ _ rfl HX9.out Tryz.underlying25 rfl size_blk) rfl (by
                      unfold OPost
                      rw [HRE.out]
                      exact ⟨HB9.out, .inl ⟨HE.out, A, c, A2, c2, rfl, HI9.out, HIC.out, HC9.out, HCC.out, HA2.out⟩⟩)
                  · have HE : Hid (opE s = 12) := Lib.hid (by rw [HO4.out, if_pos hq])
                    have q1 : (bchk r.blk != 0) = true := bne_iff_ne.2 hq
                    clear hq HO4
                    go_wp2_with (refine wpList_store_at rfl 25 (.tmp 2) (.tmp 101) rfl w.heap.size (blC ⟨0, 0, 0, []⟩ none 0) rfl rfl 25 _ HX.out size_blk rfl (blC_one _ _ _) ?_)
                    intro w9 HW9
                    have HX9 : Hid (At w9 w.heap.size (blC ⟨0, 0, 0, []⟩ none 0) 25) := Lib.hid (by rw [HW9.out]; exact HX.out.row)
                    have HB9 : Hid (Below w.heap.size w w9) := Lib.hid (by rw [HW9.out]; exact below_row HB.out _ _ (Nat.le_refl _))
                    go_wp2_with fail
                    refine bodyPost_ret (results_row_tmp3 rfl _ _ w.heap.size 25 _ _ rfl HX9.out Tryz.underlying25 rfl size_blk) rfl ⟨HB9.out, .inr ⟨by rw [HE.out]; decide, by rw [HE.out]; rfl⟩⟩
                · have t1 : (r.total != (Q : Int)) = true := bne_iff_ne.2 ht
                  have HE : Hid (opE s = 12) := Lib.hid (by rw [HO3.out, if_pos (.inr (.inr (.inl ht)))])
                  clear HO3 hz
                  obtain ⟨tot, htot⟩ : ∃ t, r.total = t := ⟨_, rfl⟩
                  rw [htot] at t1
                  rw [htot]
                  clear ht htot
                  go_wp2_with (refine wpList_store_at rfl 25 (.tmp 2) (.tmp 101) rfl w.heap.size (blC ⟨0, 0, 0, []⟩ none 0) rfl rfl 25 _ HX.out size_blk rfl (blC_one _ _ _) ?_)
                  intro w9 HW9
                  have HX9 : Hid (At w9 w.heap.size (blC ⟨0, 0, 0, []⟩ none 0) 25) := Lib.hid (by rw [HW9.out]; exact HX.out.row)
                  have HB9 : Hid (Below w.heap.size w w9) := Lib.hid (by rw [HW9.out]; exact below_row HB.out _ _ (Nat.le_refl _))
                  go_wp2_with fail
                  refine bodyPost_ret (results_row_tmp3 rfl _ _ w.heap.size 25 _ _ rfl HX9.out Tryz.underlying25 rfl size_blk) rfl ⟨HB9.out, .inr ⟨by rw [HE.out]; decide, by rw [HE.out]; rfl⟩⟩
              · have z1 := str_ne hz
                have HE : Hid (opE s = 12) := Lib.hid (by rw [HO3.out, if_pos (.inr (.inl hz))])
                clear HO3 hz
                go_wp2_with (refine wpList_store_at rfl 25 (.tmp 2) (.tmp 101) rfl w.heap.size (blC ⟨0, 0, 0, []⟩ none 0) rfl rfl 25 _ HX.out size_blk rfl (blC_one _ _ _) ?_)
                intro w9 HW9
                have HX9 : Hid (At w9 w.heap.size (blC ⟨0, 0, 0, []⟩ none 0) 25) := Lib.hid (by rw [HW9.out]; exact HX.out.row)
                have HB9 : Hid (Below w.heap.size w w9) := Lib.hid (by rw [HW9.out]; exact below_row HB.out _ _ (Nat.le_refl _))
                go_wp2_with fail
                refine bodyPost_ret (results_row_tmp3 rfl _ _ w.heap.size 25 _ _ rfl HX9.out Tryz.underlying25 rfl size_blk) rfl ⟨HB9.out, .inr ⟨by rw [HE.out]; decide, by rw [HE.out]; rfl⟩⟩
            · have HE : Hid (opE s = 12) := Lib.hid (by rw [HO3.out, if_pos (.inl rfl)])
              clear HO3
              go_wp2_with (refine wpList_store_at rfl 25 (.tmp 2) (.tmp 101) rfl w.heap.size (blC ⟨0, 0, 0, []⟩ none 0) rfl rfl 25 _ HX.out size_blk rfl (blC_one _ _ _) ?_)
              intro w9 HW9
              have HX9 : Hid (At w9 w.heap.size (blC ⟨0, 0, 0, []⟩ none 0) 25) := Lib.hid (by rw [HW9.out]; exact HX.out.row)
              have HB9 : Hid (Below w.heap.size w w9) := Lib.hid (by rw [HW9.out]; exact below_row HB.out _ _ (Nat.le_refl _))
              go_wp2_with fail
              refine bodyPost_ret (results_row_tmp3 rfl _ _ w.heap.size 25 _ _ rfl HX9.out Tryz.underlying25 rfl size_blk) rfl ⟨HB9.out, .inr ⟨by rw [HE.out]; decide, by rw [HE.out]; rfl⟩⟩
          · have hw3 := CR.open_bad (dirS s) (by rw [HDS.out]; exact HN4.out.2) (by rw [HDS.out]; exact HN4.out.1) hw2 w2
            have HC2 := Lib.hid hw3
            have HE : Hid (opE s = 13) := Lib.hid (by rw [HO2.out, if_neg hw2])
            clear HO2 hw2 hw3
            go_wp2_with fail
            refine HC2.out.mono ?_
            rintro e w3 ⟨rfl, hb⟩
            replace HX := Lib.hid (HX.out.below hb)
            replace HB := Lib.hid (HB.out.trans (hb.mono HB.out.size))
            clear hb HC2 hex2 hsub
            go_wp2_with (refine wpList_store_at rfl 25 (.tmp 2) (.tmp 74) rfl w.heap.size (blC ⟨0, 0, 0, []⟩ none 0) rfl rfl 25 _ HX.out size_blk rfl (blC_one _ _ _) ?_)
            intro w9 HW9
            have HX9 : Hid (At w9 w.heap.size (blC ⟨0, 0, 0, []⟩ none 0) 25) := Lib.hid (by rw [HW9.out]; exact HX.out.row)
            have HB9 : Hid (Below w.heap.size w w9) := Lib.hid (by rw [HW9.out]; exact below_row HB.out _ _ (Nat.le_refl _))
            go_wp2_with fail
            refine bodyPost_ret (results_row_tmp3 rfl _ _ w.heap.size 25 _ _ rfl HX9.out Tryz.underlying25 rfl size_blk) rfl ⟨HB9.out, .inr ⟨by rw [HE.out]; decide, by rw [HE.out]; rfl⟩⟩
    · have HC1 := Lib.hid (CR.open_bad (endS s) (by rw [HES.out]; decide) (by rw [HES.out]; decide) hw1 w0)
      have HE : Hid (opE s = 13) := Lib.hid (by rw [HO.out, if_neg (by have := HPS.out; omega), if_neg hw1])
      clear HO hw1
      have hex := HEN.out
      go_wp2_with fail
      refine HC1.out.mono ?_
      rintro e w1 ⟨rfl, hb⟩
      replace HX := Lib.hid (HX.out.below hb)
      replace HB := Lib.hid (HB.out.trans (hb.mono HB.out.size))
      clear hb HC1 hex
      go_wp2_with (refine wpList_store_at rfl 25 (.tmp 2) (.tmp 35) rfl w.heap.size (blC ⟨0, 0, 0, []⟩ none 0) rfl rfl 25 _ HX.out size_blk rfl (blC_one _ _ _) ?_)
      intro w9 HW9
      have HX9 : Hid (At w9 w.heap.size (blC ⟨0, 0, 0, []⟩ none 0) 25) := Lib.hid (by rw [HW9.out]; exact HX.out.row)
      have HB9 : Hid (Below w.heap.size w w9) := Lib.hid (by rw [HW9.out]; exact below_row HB.out _ _ (Nat.le_refl _))
      go_wp2_with fail
      refine bodyPost_ret (results_row_tmp3 rfl _ _ w.heap.size 25 _ _ rfl HX9.out Tryz.underlying25 rfl size_blk) rfl ⟨HB9.out, .inr ⟨by rw [HE.out]; decide, by rw [HE.out]; rfl⟩⟩
end Go.Proofs.YtoojpfcnekpboaaGreat
