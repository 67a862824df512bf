/- Walks: a directory that is read (the reference's). -/
import Derived.Test.YtoojpfcnekpboaaGreatZBS
namespace Go.Proofs.YtoojpfcnekpboaaGreat
open Go.RowKit Go.Shelf

theorem be_bare {w W : World} {n : Nat} (h : Below n w W) : Below (bareW w).heap.size (bareW w) W := ⟨h.os, h.tape, h.output, Nat.zero_le _, fun k hk => absurd hk (Nat.not_lt_zero k)⟩
theorem QB.gro {w W W' : World} {B4 B7 B9 : Nat} {st : RS} {A A' : Option Addr} {E : TypeId} (h : QB w B4 B7 B9 st W) (g : Gro W W' A A') (hT : TyO E W A) (h1 : 25 ≠ E) (h2 : 148 ≠ E) (hA : ∀ k, A.map (·.block) = some k → w.heap.size ≤ k) : QB w B4 B7 B9 st W' :=
  ⟨g.at_ h.r4 (hT.ne h.r4 h1), g.at_ h.r7 (hT.ne h.r7 h1), g.at_ h.r9 (hT.ne h.r9 h2), g.below h.be hA, h.ord⟩
theorem QB.cellN {w W : World} {B4 B7 B9 : Nat} {st : RS} (h : QB w B4 B7 B9 st W) {g : Nat} (i : Nat) (hg : B9 < g) (v : Value) : QB w B4 B7 B9 st (W.setCell ⟨g, i, none⟩ v) := by
  obtain ⟨o1, o2, o3⟩ := h.ord
  exact ⟨h.r4.other (a := ⟨g, i, none⟩) v (by show B4 ≠ g; omega), h.r7.other (a := ⟨g, i, none⟩) v (by show B7 ≠ g; omega), h.r9.other (a := ⟨g, i, none⟩) v (by show B9 ≠ g; omega), h.be.setCell (p := ⟨g, i, none⟩) (by show _ ≤ g; omega) v, h.ord⟩
theorem QX.cells {w wr : World} {B4 B7 B9 BX : Nat} {st : RS} : ∀ (vs : List Value) (o : Nat) {X : Array Value} {W : World}, QX w wr B4 B7 B9 BX st X W → QX w wr B4 B7 B9 BX st (setL X o vs) (W.setCells BX o vs)
  | [], _, _, _, h => h
  | v :: r, o, _, _, h => QX.cells r (o + 1) (h.cell o v)
theorem Keep.cellsP {p : Nat} {w : World} {a : World} (o : Nat) (v : Value) (o2 : Nat) (vs : List Value) (h : Keep p a w) : Keep p a ((w.setCell ⟨p, o, none⟩ v).setCells p o2 vs) := Keep.setCellsP vs o2 _ (h.set o v)

set_option maxRecDepth 100000 in
set_option maxHeartbeats 16000000 in
theorem qitems_any (d : ByteArray) (size : Int) (w : World) (hd : d.size ≤ 100000) (hz0 : 0 ≤ size) (hz1 : size ≤ 1000000) :
    Calls Tryz.prog 68 #[.string d, .int .i64 size] w (QIPost d size w) := by
  have HD := Lib.hid hd
  have HZ := Lib.hid (And.intro hz0 hz1)
  have hdi : (d.size : Int) ≤ 100000 := by omega
  have A4 := Lib.hid (At.new w zB 25)
  have HB : Hid (Below w.heap.size w (w.alloc (.cells zB 25))) := Lib.hid ((Below.refl _ _).alloc (Nat.le_refl _) _)
  clear hd hz0 hz1
  go_enter Tryz.func68, Tryz.ntmps68
  go_upto_region 1 with fail
  change Code.wp _ _ _ _ (w.alloc (.cells zB 25))
  obtain ⟨B4, hB4⟩ : ∃ B, w.heap.size = B := ⟨_, rfl⟩
  rw [hB4] at A4
  have HO4 : Hid (w.heap.size ≤ B4) := Lib.hid (by omega)
  generalize w.alloc (.cells zB 25) = w0 at *
  have A7 := Lib.hid (At.new w0 zB 25)
  have HB47 : Hid (B4 < w0.heap.size) := Lib.hid A4.out.lt
  go_wp2_with (refine wpList_store_at rfl 25 (.tmp 7) (.tmp 25) rfl w0.heap.size zB rfl rfl 25 zB A7.out size_zB rfl zB_one ?_)
  intro w1 HW1
  have HRR : Hid (Below w0.heap.size w0 w1) := Lib.hid (by rw [HW1.out]; exact below_row ((Below.refl _ _).alloc (Nat.le_refl _) _) _ _ (Nat.le_refl _))
  have H7 : Hid (At w1 w0.heap.size zB 25) := Lib.hid (by rw [HW1.out]; exact A7.out.row)
  replace A4 := Lib.hid (A4.out.below HRR.out)
  replace HB := Lib.hid (HB.out.trans (HRR.out.mono HB.out.size))
  clear HW1 HRR A7
  obtain ⟨B7, hB7⟩ : ∃ B, w0.heap.size = B := ⟨_, rfl⟩
  rw [hB7] at H7 HB47
  rw [hB7]
  clear hB4 hB7
  have hm : (str magicB).toList = [76, 75, 66, 49] := by rw [toList_bs, bs_str]; rfl
  by_cases h4 : d.size < 4
  · have HNA := Lib.hid (no_head (d := d) (size := size) (by omega) HZ.out.2)
    have f1 : decide ((d.size : Int) < 4) = true := decide_eq_true (by omega)
    clear h4 hm
    go_wp2_with (first | (refine wpList_load_row rfl 25 (.tmp 7) rfl B7 rfl 25 zB (0, 0) _ H7.out.out Tryz.underlying25 rfl size_zB ?_) | (refine wpList_store_at rfl 25 (.tmp 4) (.tmp 34) rfl B4 zB rfl rfl 25 zB A4.out size_zB rfl zB_one ?_))
    intro w9 HW9
    have HA9 : Hid (At w9 B4 zB 25) := Lib.hid (by rw [HW9.out]; exact A4.out.row)
    have HB9 : Hid (Below w.heap.size w w9) := Lib.hid (by rw [HW9.out]; exact below_row HB.out _ _ HO4.out)
    go_wp2_with fail
    refine bodyPost_ret (results_row_tmp3 rfl _ _ B4 25 zB _ rfl HA9.out Tryz.underlying25 rfl size_zB) rfl ⟨HB9.out, .inr ⟨HNA.out, rfl⟩⟩
  have f1 : decide ((d.size : Int) < 4) = false := decide_eq_false (by omega)
  have h44 : 4 ≤ d.size := by omega
  have h44i : (4 : Int) ≤ (d.size : Int) := by omega
  by_cases hmg : d.extract 0 4 = str magicB
  · have f2 : (d.extract 0 4).toList = [76, 75, 66, 49] := by rw [hmg]; exact hm
    clear hm hmg h4
    have hq0 := qnumber_any ⟨cutS d 4, false⟩
    have HC1 := Lib.hid (fun W => qnumber_any ⟨cutS d 4, false⟩ W (by show (cutS d 4).size ≤ 100000; rw [cutS_size]; have := HD.out; omega))
    have HS0 : Hid ((⟨cutS d 4, false⟩ : RS).rest.size ≤ 100000) := Lib.hid (by show (cutS d 4).size ≤ 100000; rw [cutS_size]; have := HD.out; omega)
    have hcut : d.extract 4 d.size = cutS d 4 := rfl
    clear hq0
    go_upto_region 4 with fail
    go_wp2_with fail
    refine (HC1.out w1).mono ?_
    rintro e w2 ⟨rfl, hb⟩
    replace A4 := Lib.hid (A4.out.below hb)
    replace H7 := Lib.hid (H7.out.below hb)
    replace HB := Lib.hid (HB.out.trans (hb.mono HB.out.size))
    have HBD1 := Lib.hid (qNum_bounds ⟨cutS d 4, false⟩)
    obtain ⟨⟨v1, s1⟩, h1⟩ : ∃ p, qNum ⟨cutS d 4, false⟩ = p := ⟨_, rfl⟩
    rw [h1] at HBD1
    rw [h1]
    have HE1 := Lib.hid h1
    simp only at HBD1 ⊢
    have HSs1 : Hid (s1.rest.size ≤ 100000) := Lib.hid (by have := HBD1.out.2.2; have := HS0.out; omega)
    obtain ⟨T1, hT⟩ : ∃ U, U = qRd s1 := ⟨_, rfl⟩
    rw [← hT]
    have hts1 : T1.size = 2 := by rw [hT]; rfl
    have HT1 := Lib.hid hT
    have HTO1 : Hid ((T1.all fun v => v.oneCell') = true) := Lib.hid (by rw [hT]; exact qRd_one _)
    have A9 := Lib.hid (At.new w2 (qRd ⟨⟨#[]⟩, false⟩) 148)
    have HB79 : Hid (B7 < w2.heap.size) := Lib.hid H7.out.lt
    clear hb h1 hT HC1 HS0 hcut f1 f2 h44 h44i
    go_wp2_with (refine wpList_store_at rfl 148 (.tmp 9) (.tmp 41) rfl w2.heap.size T1 rfl rfl 148 (qRd ⟨⟨#[]⟩, false⟩) A9.out (by rw [hts1]; exact size_r21) (by rw [hts1]; rfl) HTO1.out ?_)
    intro wc HWC
    have HRR : Hid (Below w2.heap.size w2 wc) := Lib.hid (by rw [HWC.out]; exact below_row ((Below.refl _ _).alloc (Nat.le_refl _) _) _ _ (Nat.le_refl _))
    have HQ : Hid (QB w B4 B7 w2.heap.size s1 wc) := Lib.hid ⟨A4.out.below HRR.out, H7.out.below HRR.out, by rw [HWC.out, HT1.out]; exact A9.out.row, HB.out.trans (HRR.out.mono HB.out.size), HO4.out, HB47.out, HB79.out⟩
    clear HWC HRR A9 A4 H7 HB HT1 HTO1 hts1 HO4 HB47 HB79
    generalize w2.heap.size = B9 at *
    obtain ⟨Us2, hU⟩ : ∃ U, U = qRd s1 := ⟨_, rfl⟩
    have huss2 : Us2.size = 2 := by rw [hU]; rfl
    have HCs2 := Lib.hid (fun W => qnumber_any s1 W HSs1.out)
    have HRs2 : Hid (At wc B9 Us2 148) := Lib.hid (by rw [hU]; exact HQ.out.r9)
    rw [← hU] at HCs2
    clear hU
    go_wp2_with (refine wpList_load_row rfl 148 (.tmp 9) rfl B9 rfl 148 Us2 (0, 0) _ HRs2.out.out Tryz.underlying148 rfl (by rw [huss2]; exact size_r21) ?_)
    refine (HCs2.out _).mono ?_
    rintro e wd ⟨rfl, hb⟩
    replace HQ := Lib.hid (HQ.out.below hb)
    have HQEs2 : Hid ((qNum s1).2.rest.size ≤ 100000) := Lib.hid (by have := (qNum_bounds s1).2.2; have := HSs1.out; omega)
    have HBDs2 := Lib.hid (qNum_bounds s1)
    obtain ⟨⟨v2, s2⟩, hs2⟩ : ∃ p, qNum s1 = p := ⟨_, rfl⟩
    rw [hs2] at HQEs2 HBDs2
    rw [hs2]
    have HEs2 := Lib.hid hs2
    simp only at HQEs2 HBDs2 ⊢
    have HSs2 : Hid (s2.rest.size ≤ 100000) := HQEs2
    obtain ⟨Ts2, hT⟩ : ∃ U, U = qRd s2 := ⟨_, rfl⟩
    rw [← hT]
    have htss2 : Ts2.size = 2 := by rw [hT]; rfl
    have HTs2 := Lib.hid hT
    have HTOs2 : Hid ((Ts2.all fun v => v.oneCell') = true) := Lib.hid (by rw [hT]; exact qRd_one _)
    clear hb hs2 hT HQEs2 HCs2 HRs2 huss2
    go_wp2_with (refine wpList_store_at rfl 148 (.tmp 9) (.tmp 46) rfl B9 Ts2 rfl rfl 148 (qRd s1) HQ.out.r9 (by rw [htss2]; exact size_r21) (by rw [htss2]; rfl) HTOs2.out ?_)
    intro wc HWC
    replace HQ : Hid (QB w B4 B7 B9 s2 wc) := Lib.hid (by rw [HWC.out, HTs2.out]; exact HQ.out.put s2)
    clear HWC HTs2 HTOs2 htss2
    obtain ⟨Us3, hU⟩ : ∃ U, U = qRd s2 := ⟨_, rfl⟩
    have huss3 : Us3.size = 2 := by rw [hU]; rfl
    have HCs3 := Lib.hid (fun W => qnumber_any s2 W HSs2.out)
    have HRs3 : Hid (At wc B9 Us3 148) := Lib.hid (by rw [hU]; exact HQ.out.r9)
    rw [← hU] at HCs3
    clear hU
    go_wp2_with (refine wpList_load_row rfl 148 (.tmp 9) rfl B9 rfl 148 Us3 (0, 0) _ HRs3.out.out Tryz.underlying148 rfl (by rw [huss3]; exact size_r21) ?_)
    refine (HCs3.out _).mono ?_
    rintro e wd ⟨rfl, hb⟩
    replace HQ := Lib.hid (HQ.out.below hb)
    have HQEs3 : Hid ((qNum s2).2.rest.size ≤ 100000) := Lib.hid (by have := (qNum_bounds s2).2.2; have := HSs2.out; omega)
    have HBDs3 := Lib.hid (qNum_bounds s2)
    obtain ⟨⟨v3, s3⟩, hs3⟩ : ∃ p, qNum s2 = p := ⟨_, rfl⟩
    rw [hs3] at HQEs3 HBDs3
    rw [hs3]
    have HEs3 := Lib.hid hs3
    simp only at HQEs3 HBDs3 ⊢
    have HSs3 : Hid (s3.rest.size ≤ 100000) := HQEs3
    obtain ⟨Ts3, hT⟩ : ∃ U, U = qRd s3 := ⟨_, rfl⟩
    rw [← hT]
    have htss3 : Ts3.size = 2 := by rw [hT]; rfl
    have HTs3 := Lib.hid hT
    have HTOs3 : Hid ((Ts3.all fun v => v.oneCell') = true) := Lib.hid (by rw [hT]; exact qRd_one _)
    clear hb hs3 hT HQEs3 HCs3 HRs3 huss3
    go_wp2_with (refine wpList_store_at rfl 148 (.tmp 9) (.tmp 51) rfl B9 Ts3 rfl rfl 148 (qRd s2) HQ.out.r9 (by rw [htss3]; exact size_r21) (by rw [htss3]; rfl) HTOs3.out ?_)
    intro wc HWC
    replace HQ : Hid (QB w B4 B7 B9 s3 wc) := Lib.hid (by rw [HWC.out, HTs3.out]; exact HQ.out.put s3)
    clear HWC HTs3 HTOs3 htss3
    obtain ⟨Us4, hU⟩ : ∃ U, U = qRd s3 := ⟨_, rfl⟩
    have huss4 : Us4.size = 2 := by rw [hU]; rfl
    have HCs4 := Lib.hid (fun W => qnumber_any s3 W HSs3.out)
    have HRs4 : Hid (At wc B9 Us4 148) := Lib.hid (by rw [hU]; exact HQ.out.r9)
    rw [← hU] at HCs4
    clear hU
    go_wp2_with (refine wpList_load_row rfl 148 (.tmp 9) rfl B9 rfl 148 Us4 (0, 0) _ HRs4.out.out Tryz.underlying148 rfl (by rw [huss4]; exact size_r21) ?_)
    refine (HCs4.out _).mono ?_
    rintro e wd ⟨rfl, hb⟩
    replace HQ := Lib.hid (HQ.out.below hb)
    have HQEs4 : Hid ((qNum s3).2.rest.size ≤ 100000) := Lib.hid (by have := (qNum_bounds s3).2.2; have := HSs3.out; omega)
    have HBDs4 := Lib.hid (qNum_bounds s3)
    obtain ⟨⟨v4, s4⟩, hs4⟩ : ∃ p, qNum s3 = p := ⟨_, rfl⟩
    rw [hs4] at HQEs4 HBDs4
    rw [hs4]
    have HEs4 := Lib.hid hs4
    simp only at HQEs4 HBDs4 ⊢
    have HSs4 : Hid (s4.rest.size ≤ 100000) := HQEs4
    obtain ⟨Ts4, hT⟩ : ∃ U, U = qRd s4 := ⟨_, rfl⟩
    rw [← hT]
    have htss4 : Ts4.size = 2 := by rw [hT]; rfl
    have HTs4 := Lib.hid hT
    have HTOs4 : Hid ((Ts4.all fun v => v.oneCell') = true) := Lib.hid (by rw [hT]; exact qRd_one _)
    clear hb hs4 hT HQEs4 HCs4 HRs4 huss4
    go_wp2_with (refine wpList_store_at rfl 148 (.tmp 9) (.tmp 56) rfl B9 Ts4 rfl rfl 148 (qRd s3) HQ.out.r9 (by rw [htss4]; exact size_r21) (by rw [htss4]; rfl) HTOs4.out ?_)
    intro wc HWC
    replace HQ : Hid (QB w B4 B7 B9 s4 wc) := Lib.hid (by rw [HWC.out, HTs4.out]; exact HQ.out.put s4)
    clear HWC HTs4 HTOs4 htss4
    have HQV := Lib.hid (QV.of HZ.out.2 HE1.out HEs2.out HEs3.out HEs4.out)
    clear HE1 HEs2 HEs3 HEs4 HSs1 HSs2 HSs3
    go_upto_region 8 with fail
    have A13 := Lib.hid (At.new wc zB 25)
    obtain ⟨V13, hV⟩ : ∃ V, V = (#[.int .i64 v1, .int .i64 v2, .int .i64 v3, .slice none 0 0] : Array Value) := ⟨_, rfl⟩
    have hvs13 : V13.size = 4 := by rw [hV]; rfl
    have HV13 := Lib.hid hV
    have HVO : Hid ((V13.all fun v => v.oneCell') = true) := Lib.hid (by rw [hV]; simp [Value.oneCell'])
    clear hV
    go_wp2_with (refine wpList_store_at rfl 25 (.tmp 13) (.tmp 60) rfl wc.heap.size #[.int .i64 v1, .int .i64 v2, .int .i64 v3, .slice none 0 0] rfl rfl 25 zB A13.out size_blk rfl (by simp [Value.oneCell']) ?_)
    intro we HWE
    have HRR : Hid (Below wc.heap.size wc we) := Lib.hid (by rw [HWE.out]; exact below_row ((Below.refl _ _).alloc (Nat.le_refl _) _) _ _ (Nat.le_refl _))
    have H13 : Hid (At we wc.heap.size #[.int .i64 v1, .int .i64 v2, .int .i64 v3, .slice none 0 0] 25) := Lib.hid (by rw [HWE.out]; exact A13.out.row)
    have HO13 : Hid (w.heap.size ≤ wc.heap.size) := Lib.hid HQ.out.be.size
    have HO9 : Hid (B9 < wc.heap.size) := Lib.hid HQ.out.r9.lt
    replace HQ := Lib.hid (HQ.out.below HRR.out)
    clear HWE HRR A13 HV13 HVO hvs13
    generalize wc.heap.size = B13 at *
    have HSI0 : Hid (SR (bareW w) 52 17 (some ⟨we.heap.size, 0, none⟩) 0 0 [] (we.alloc (.cells #[] 52))) := Lib.hid (SR.empty _ _ (by have h := HQ.out.be; exact ⟨h.os, h.tape, h.output, Nat.zero_le _, fun k hk => absurd hk (Nat.not_lt_zero k)⟩))
    have HSC0 : Hid (SR (bareW w) 58 16 none 0 0 [] (we.alloc (.cells #[] 52))) := Lib.hid (SR.nil _ _ HSI0.out.below)
    have HQ0 : Hid (QB w B4 B7 B9 s4 (we.alloc (.cells #[] 52))) := Lib.hid (HQ.out.below ((Below.refl _ _).alloc (Nat.le_refl _) _))
    have H130 : Hid (At (we.alloc (.cells #[] 52)) B13 #[.int .i64 v1, .int .i64 v2, .int .i64 v3, .slice none 0 0] 25) := Lib.hid (H13.out.alloc _)
    have HOW : Hid (w.heap.size ≤ we.heap.size) := Lib.hid HQ.out.be.size
    go_upto_region 10 with fail
    clear HQ H13
    generalize we.alloc (.cells #[] 52) = wf at *
    generalize we.heap.size = Bo at *
    obtain ⟨i0, hi, hy0, hy1, hy2⟩ := info_parts info_itemS
    obtain ⟨i1, hi1, hw0, hw1, hw2⟩ := info_parts info_chunkS
    have hv40 : 0 ≤ v4 := HBDs4.out.1
    have hv41 : v4 ≤ 1152921504606846976 := HBDs4.out.2.1
    have HNB : Hid ((0 ≤ v1 ∧ v1 ≤ 1152921504606846976) ∧ (0 ≤ v2 ∧ v2 ≤ 1152921504606846976) ∧ (0 ≤ v3 ∧ v3 ≤ 1152921504606846976)) := Lib.hid ⟨⟨HBD1.out.1, HBD1.out.2.1⟩, ⟨HBDs2.out.1, HBDs2.out.2.1⟩, ⟨HBDs3.out.1, HBDs3.out.2.1⟩⟩
    go_upto_region 12 with fail
    go_loopw [14, 15, 16] (fun o at_ i wr => ∃ (k : Nat) (A : Option Addr) (n c : Nat) (A2 : Option Addr) (n2 c2 : Nat) (acc : List Itm) (rs : ByteArray) (bd : Bool) (vs vs2 : List (Array Value)), o = .slice A n c ∧ at_ = .int .i64 (sizes acc) ∧ i = .int .i64 k ∧ Hid ((k : Int) ≤ v4) ∧ Hid (k ≤ 4000) ∧ Hid (qF s4 k = some (acc, ⟨rs, bd⟩)) ∧ Hid (QB w B4 B7 B9 ⟨rs, bd⟩ wr) ∧ Hid (At wr B13 #[.int .i64 v1, .int .i64 v2, .int .i64 v3, .slice A2 n2 c2] 25) ∧ Hid (SR (bareW w) 52 17 A n c vs wr) ∧ Hid (SR (bareW w) 58 16 A2 n2 c2 vs2 wr) ∧ Hid (ItTs wr vs acc) ∧ Hid (ChTs wr vs2 (acc.map chkOf)) ∧ Hid ((∀ k, A.map (·.block) = some k → w.heap.size ≤ k) ∧ ∀ k, A2.map (·.block) = some k → w.heap.size ≤ k)) (fun _ _ i _ => 4001 - (intOf i).toNat)
    case atStart => exact ⟨0, _, 0, 0, none, 0, 0, [], s4.rest, s4.bad, [], [], rfl, rfl, rfl, Lib.hid (by simpa using hv40), Lib.hid (by decide), Lib.hid rfl, HQ0, H130, HSI0, HSC0, Lib.hid (ItTs.nil _), Lib.hid (ChTs.nil _), Lib.hid ⟨fun k h => by injection h with h; rw [← h]; exact HOW.out, fun k h => by cases h⟩⟩
    case round =>
      clear HQ0 H130 HSI0 HSC0 HOW
      obtain ⟨k, A, n, c, A2, n2, c2, acc, rs, bd, vs, vs2, rfl, rfl, rfl, HK, HK4, HF, HQ, H13, HSI, HSC, HIT, HCT, HAN⟩ := hrel
      have hqf := qF_ok s4 k acc ⟨rs, bd⟩ HF.out
      have HAL := Lib.hid hqf.1
      have HQI := Lib.hid hqf.2.1
      have HRS : Hid (rs.size ≤ 100000) := Lib.hid (by have h1 := hqf.2.2; have h2 := HSs4.out; exact Nat.le_trans h1 h2)
      have HNK : Hid (n = k) := Lib.hid (by rw [← HSI.out.len, HIT.out.1]; exact hqf.1)
      have HNL : Hid (acc.length = n ∧ n = n2) := Lib.hid ⟨by rw [HNK.out]; exact hqf.1, by rw [← HSC.out.len, HCT.out.1, List.length_map, hqf.1]; exact HNK.out⟩
      have hki : (k : Int) ≤ 4000 := by have := HK4.out; omega
      clear hqf
      have c91 : wr.cell? ⟨B9, 1, none⟩ = some (.bool bd) := HQ.out.r9.cell 1
      obtain ⟨hn1, hn2⟩ := HNL.out
      subst hn2
      have hn3 := hn1.symm
      subst hn3
      clear hn1 HNL HNK
      by_cases hlt : (k : Int) < v4
      · have g1 : decide ((k : Int) < v4) = true := decide_eq_true hlt
        cases bd
        case true =>
          have HNA := Lib.hid (HQV.out.bad HF.out HK.out rfl)
          clear hlt
          go_wp2_with (first | (refine wpList_load_row rfl 25 (.tmp 7) rfl B7 rfl 25 zB (0, 0) _ HQ.out.r7.out Tryz.underlying25 rfl size_zB ?_) | (refine wpList_store_at rfl 25 (.tmp 4) (.tmp 181) rfl B4 zB rfl rfl 25 zB HQ.out.r4 size_zB rfl zB_one ?_))
          intro w9 HW9
          have HA9 : Hid (At w9 B4 zB 25) := Lib.hid (by rw [HW9.out]; exact HQ.out.r4.row)
          have HB9 : Hid (Below w.heap.size w w9) := Lib.hid (by rw [HW9.out]; exact below_row HQ.out.be _ _ HQ.out.ord.1)
          go_wp2_with fail
          refine bodyPost_ret (results_row_tmp3 rfl _ _ B4 25 zB _ rfl HA9.out Tryz.underlying25 rfl size_zB) rfl ⟨HB9.out, .inr ⟨HNA.out, rfl⟩⟩
        by_cases hmany : v4 ≤ 4000
        · have g2 : decide (v4 ≤ 4000) = true := decide_eq_true hmany
          have HMN := Lib.hid hmany
          clear hmany
          have HGO := Lib.hid hlt
          clear hlt
          go_upto_region 14 with fail
          clear c91
          have HXA := Lib.hid (At.new wr (itC 0 none 0 0 Zn.zero 0 0) 52)
          go_wp2_with (refine wpList_store_at rfl 52 (.tmp 17) (.tmp 76) rfl wr.heap.size (itC 0 none 0 0 Zn.zero 0 0) rfl rfl 52 _ HXA.out size_item rfl (itC_one _ _ _ _ _ _ _) ?_)
          intro wc HWC
          have HRR : Hid (Below wr.heap.size wr wc) := Lib.hid (by rw [HWC.out]; exact below_row ((Below.refl _ _).alloc (Nat.le_refl _) _) _ _ (Nat.le_refl _))
          obtain ⟨u0, hu0⟩ : ∃ s : RS, s = ⟨rs, false⟩ := ⟨_, rfl⟩
          rw [← hu0] at HF HQ
          have HSu0 : Hid (u0.rest.size ≤ 100000) := Lib.hid (by rw [hu0]; exact HRS.out)
          have HX : Hid (QX w wr B4 B7 B9 wr.heap.size u0 (itC 0 none 0 0 Zn.zero 0 0) wc) := Lib.hid ⟨HQ.out.below HRR.out, by rw [HWC.out]; exact HXA.out.row, Keep.below HRR.out, Nat.le_refl _, HQ.out.r9.lt, HQ.out.be.size⟩
          have HR9 : Hid (At wr B9 (qRd u0) 148) := Lib.hid HQ.out.r9
          clear HWC HRR HXA hu0 HRS HQ
          generalize wr.heap.size = BX at *
          obtain ⟨Uu1, hU⟩ : ∃ U, U = qRd u0 := ⟨_, rfl⟩
          have husu1 : Uu1.size = 2 := by rw [hU]; rfl
          have HCu1 := Lib.hid (fun W => qnumber_any u0 W HSu0.out)
          have HRu1 : Hid (At wc B9 Uu1 148) := Lib.hid (by rw [hU]; exact HX.out.qb.r9)
          rw [← hU] at HCu1
          clear hU
          go_wp2_with (refine wpList_load_row rfl 148 (.tmp 9) rfl B9 rfl 148 Uu1 (0, 0) _ HRu1.out.out Tryz.underlying148 rfl (by rw [husu1]; exact size_r21) ?_)
          refine (HCu1.out _).mono ?_
          rintro e wd ⟨rfl, hb⟩
          replace HX := Lib.hid (HX.out.below hb)
          have HQEu1 : Hid ((qNum u0).2.rest.size ≤ 100000) := Lib.hid (by have := (qNum_bounds u0).2.2; have := HSu0.out; omega)
          have HBDu1 := Lib.hid (qNum_bounds u0)
          obtain ⟨⟨x1, u1⟩, hu1⟩ : ∃ p, qNum u0 = p := ⟨_, rfl⟩
          rw [hu1] at HQEu1 HBDu1
          rw [hu1]
          have HEu1 := Lib.hid hu1
          simp only at HQEu1 HBDu1 ⊢
          have HSu1 : Hid (u1.rest.size ≤ 100000) := HQEu1
          obtain ⟨Tu1, hT⟩ : ∃ U, U = qRd u1 := ⟨_, rfl⟩
          rw [← hT]
          have htsu1 : Tu1.size = 2 := by rw [hT]; rfl
          have HTu1 := Lib.hid hT
          have HTOu1 : Hid ((Tu1.all fun v => v.oneCell') = true) := Lib.hid (by rw [hT]; exact qRd_one _)
          have cx : wd.cell? ⟨BX, 0, none⟩ = some (.int .i64 0) := HX.out.x.cell 0
          have fx : wd.frozen? ⟨BX, 0, none⟩ = false := HX.out.x.free 0
          replace HX : Hid (QX w wr B4 B7 B9 BX u0 (itC x1 none 0 0 Zn.zero 0 0) (wd.setCell ⟨BX, 0, none⟩ (.int .i64 x1))) := Lib.hid (HX.out.cell 0 (.int .i64 x1))
          clear hb hu1 hT HQEu1 HCu1 HRu1 husu1
          go_wp2_with (refine wpList_store_at rfl 148 (.tmp 9) (.tmp 81) rfl B9 Tu1 rfl rfl 148 (qRd u0) HX.out.qb.r9 (by rw [htsu1]; exact size_r21) (by rw [htsu1]; rfl) HTOu1.out ?_)
          intro wc HWC
          replace HX : Hid (QX w wr B4 B7 B9 BX u1 (itC x1 none 0 0 Zn.zero 0 0) wc) := Lib.hid (by rw [HWC.out, HTu1.out]; exact HX.out.put u1)
          clear HWC HTu1 HTOu1 htsu1 cx fx
          obtain ⟨Uu2, hU⟩ : ∃ U, U = qRd u1 := ⟨_, rfl⟩
          have husu2 : Uu2.size = 2 := by rw [hU]; rfl
          have HCu2 := Lib.hid (fun W => qpart_any u1 W HSu1.out)
          have HRu2 : Hid (At wc B9 Uu2 148) := Lib.hid (by rw [hU]; exact HX.out.qb.r9)
          rw [← hU] at HCu2
          clear hU
          go_wp2_with (refine wpList_load_row rfl 148 (.tmp 9) rfl B9 rfl 148 Uu2 (0, 0) _ HRu2.out.out Tryz.underlying148 rfl (by rw [husu2]; exact size_r21) ?_)
          refine (HCu2.out _).mono ?_
          rintro e wd ⟨rfl, hb⟩
          replace HX := Lib.hid (HX.out.below hb)
          have HQEu2 : Hid ((qPart u1).1.size ≤ 100000 ∧ (qPart u1).2.rest.size ≤ 100000) := Lib.hid (by have h1 := qPart_bounds u1; have h2 := HSu1.out; exact ⟨Nat.le_trans h1.1 h2, Nat.le_trans h1.2 h2⟩)
          obtain ⟨⟨tx, u2⟩, hu2⟩ : ∃ p, qPart u1 = p := ⟨_, rfl⟩
          rw [hu2] at HQEu2
          rw [hu2]
          have HEu2 := Lib.hid hu2
          simp only at HQEu2 ⊢
          have HSu2 : Hid (u2.rest.size ≤ 100000) := Lib.hid HQEu2.out.2
          have HZu2 : Hid (tx.size ≤ 100000) := Lib.hid HQEu2.out.1
          obtain ⟨Tu2, hT⟩ : ∃ U, U = qRd u2 := ⟨_, rfl⟩
          rw [← hT]
          have htsu2 : Tu2.size = 2 := by rw [hT]; rfl
          have HTu2 := Lib.hid hT
          have HTOu2 : Hid ((Tu2.all fun v => v.oneCell') = true) := Lib.hid (by rw [hT]; exact qRd_one _)
          clear hb hu2 hT HQEu2 HCu2 HRu2 husu2
          go_wp2_with (refine wpList_store_at rfl 148 (.tmp 9) (.tmp 87) rfl B9 Tu2 rfl rfl 148 (qRd u1) HX.out.qb.r9 (by rw [htsu2]; exact size_r21) (by rw [htsu2]; rfl) HTOu2.out ?_)
          intro wc HWC
          replace HX := Lib.hid (HX.out.put u2)
          rw [← HTu2.out, ← HWC.out] at HX
          clear HWC HTu2 HTOu2 htsu2
          obtain ⟨Uu3, hU⟩ : ∃ U, U = qRd u2 := ⟨_, rfl⟩
          have husu3 : Uu3.size = 2 := by rw [hU]; rfl
          have HCu3 := Lib.hid (fun W => qpart_any u2 W HSu2.out)
          have HRu3 : Hid (At wc B9 Uu3 148) := Lib.hid (by rw [hU]; exact HX.out.qb.r9)
          rw [← hU] at HCu3
          clear hU
          go_wp2_with (refine wpList_load_row rfl 148 (.tmp 9) rfl B9 rfl 148 Uu3 (0, 0) _ HRu3.out.out Tryz.underlying148 rfl (by rw [husu3]; exact size_r21) ?_)
          refine (HCu3.out _).mono ?_
          rintro e wd ⟨rfl, hb⟩
          replace HX := Lib.hid (HX.out.below hb)
          have HQEu3 : Hid ((qPart u2).1.size ≤ 100000 ∧ (qPart u2).2.rest.size ≤ 100000) := Lib.hid (by have h1 := qPart_bounds u2; have h2 := HSu2.out; exact ⟨Nat.le_trans h1.1 h2, Nat.le_trans h1.2 h2⟩)
          obtain ⟨⟨zt, u3⟩, hu3⟩ : ∃ p, qPart u2 = p := ⟨_, rfl⟩
          rw [hu3] at HQEu3
          rw [hu3]
          have HEu3 := Lib.hid hu3
          simp only at HQEu3 ⊢
          have HSu3 : Hid (u3.rest.size ≤ 100000) := Lib.hid HQEu3.out.2
          have HZu3 : Hid (zt.size ≤ 100000) := Lib.hid HQEu3.out.1
          obtain ⟨Tu3, hT⟩ : ∃ U, U = qRd u3 := ⟨_, rfl⟩
          rw [← hT]
          have htsu3 : Tu3.size = 2 := by rw [hT]; rfl
          have HTu3 := Lib.hid hT
          have HTOu3 : Hid ((Tu3.all fun v => v.oneCell') = true) := Lib.hid (by rw [hT]; exact qRd_one _)
          clear hb hu3 hT HQEu3 HCu3 HRu3 husu3
          go_wp2_with (refine wpList_store_at rfl 148 (.tmp 9) (.tmp 92) rfl B9 Tu3 rfl rfl 148 (qRd u2) HX.out.qb.r9 (by rw [htsu3]; exact size_r21) (by rw [htsu3]; rfl) HTOu3.out ?_)
          intro wc HWC
          replace HX := Lib.hid (HX.out.put u3)
          rw [← HTu3.out, ← HWC.out] at HX
          clear HWC HTu3 HTOu3 htsu3
          obtain ⟨Uu4, hU⟩ : ∃ U, U = qRd u3 := ⟨_, rfl⟩
          have husu4 : Uu4.size = 2 := by rw [hU]; rfl
          have HCu4 := Lib.hid (fun W => qnumber_any u3 W HSu3.out)
          have HRu4 : Hid (At wc B9 Uu4 148) := Lib.hid (by rw [hU]; exact HX.out.qb.r9)
          rw [← hU] at HCu4
          clear hU
          go_wp2_with (refine wpList_load_row rfl 148 (.tmp 9) rfl B9 rfl 148 Uu4 (0, 0) _ HRu4.out.out Tryz.underlying148 rfl (by rw [husu4]; exact size_r21) ?_)
          refine (HCu4.out _).mono ?_
          rintro e wd ⟨rfl, hb⟩
          replace HX := Lib.hid (HX.out.below hb)
          have HQEu4 : Hid ((qNum u3).2.rest.size ≤ 100000) := Lib.hid (by have := (qNum_bounds u3).2.2; have := HSu3.out; omega)
          have HBDu4 := Lib.hid (qNum_bounds u3)
          obtain ⟨⟨x4, u4⟩, hu4⟩ : ∃ p, qNum u3 = p := ⟨_, rfl⟩
          rw [hu4] at HQEu4 HBDu4
          rw [hu4]
          have HEu4 := Lib.hid hu4
          simp only at HQEu4 HBDu4 ⊢
          have HSu4 : Hid (u4.rest.size ≤ 100000) := HQEu4
          obtain ⟨Tu4, hT⟩ : ∃ U, U = qRd u4 := ⟨_, rfl⟩
          rw [← hT]
          have htsu4 : Tu4.size = 2 := by rw [hT]; rfl
          have HTu4 := Lib.hid hT
          have HTOu4 : Hid ((Tu4.all fun v => v.oneCell') = true) := Lib.hid (by rw [hT]; exact qRd_one _)
          have cx : wd.cell? ⟨BX, 15, none⟩ = some (.int .i64 0) := HX.out.x.cell 15
          have fx : wd.frozen? ⟨BX, 15, none⟩ = false := HX.out.x.free 15
          replace HX : Hid (QX w wr B4 B7 B9 BX u3 (itC x1 none 0 0 Zn.zero x4 0) (wd.setCell ⟨BX, 15, none⟩ (.int .i64 x4))) := Lib.hid (HX.out.cell 15 (.int .i64 x4))
          clear hb hu4 hT HQEu4 HCu4 HRu4 husu4
          go_wp2_with (refine wpList_store_at rfl 148 (.tmp 9) (.tmp 97) rfl B9 Tu4 rfl rfl 148 (qRd u3) HX.out.qb.r9 (by rw [htsu4]; exact size_r21) (by rw [htsu4]; rfl) HTOu4.out ?_)
          intro wc HWC
          replace HX : Hid (QX w wr B4 B7 B9 BX u4 (itC x1 none 0 0 Zn.zero x4 0) wc) := Lib.hid (by rw [HWC.out, HTu4.out]; exact HX.out.put u4)
          clear HWC HTu4 HTOu4 htsu4 cx fx
          obtain ⟨Uu5, hU⟩ : ∃ U, U = qRd u4 := ⟨_, rfl⟩
          have husu5 : Uu5.size = 2 := by rw [hU]; rfl
          have HCu5 := Lib.hid (fun W => qnumber_any u4 W HSu4.out)
          have HRu5 : Hid (At wc B9 Uu5 148) := Lib.hid (by rw [hU]; exact HX.out.qb.r9)
          rw [← hU] at HCu5
          clear hU
          go_wp2_with (refine wpList_load_row rfl 148 (.tmp 9) rfl B9 rfl 148 Uu5 (0, 0) _ HRu5.out.out Tryz.underlying148 rfl (by rw [husu5]; exact size_r21) ?_)
          refine (HCu5.out _).mono ?_
          rintro e wd ⟨rfl, hb⟩
          replace HX := Lib.hid (HX.out.below hb)
          have HQEu5 : Hid ((qNum u4).2.rest.size ≤ 100000) := Lib.hid (by have := (qNum_bounds u4).2.2; have := HSu4.out; omega)
          have HBDu5 := Lib.hid (qNum_bounds u4)
          obtain ⟨⟨x5, u5⟩, hu5⟩ : ∃ p, qNum u4 = p := ⟨_, rfl⟩
          rw [hu5] at HQEu5 HBDu5
          rw [hu5]
          have HEu5 := Lib.hid hu5
          simp only at HQEu5 HBDu5 ⊢
          have HSu5 : Hid (u5.rest.size ≤ 100000) := HQEu5
          obtain ⟨Tu5, hT⟩ : ∃ U, U = qRd u5 := ⟨_, rfl⟩
          rw [← hT]
          have htsu5 : Tu5.size = 2 := by rw [hT]; rfl
          have HTu5 := Lib.hid hT
          have HTOu5 : Hid ((Tu5.all fun v => v.oneCell') = true) := Lib.hid (by rw [hT]; exact qRd_one _)
          have cx : wd.cell? ⟨BX, 16, none⟩ = some (.int .i64 0) := HX.out.x.cell 16
          have fx : wd.frozen? ⟨BX, 16, none⟩ = false := HX.out.x.free 16
          replace HX : Hid (QX w wr B4 B7 B9 BX u4 (itC x1 none 0 0 Zn.zero x4 x5) (wd.setCell ⟨BX, 16, none⟩ (.int .i64 x5))) := Lib.hid (HX.out.cell 16 (.int .i64 x5))
          clear hb hu5 hT HQEu5 HCu5 HRu5 husu5
          go_wp2_with (refine wpList_store_at rfl 148 (.tmp 9) (.tmp 103) rfl B9 Tu5 rfl rfl 148 (qRd u4) HX.out.qb.r9 (by rw [htsu5]; exact size_r21) (by rw [htsu5]; rfl) HTOu5.out ?_)
          intro wc HWC
          replace HX : Hid (QX w wr B4 B7 B9 BX u5 (itC x1 none 0 0 Zn.zero x4 x5) wc) := Lib.hid (by rw [HWC.out, HTu5.out]; exact HX.out.put u5)
          clear HWC HTu5 HTOu5 htsu5 cx fx
          have HRW : Hid (qRaw u0 = ⟨x1, tx, zt, x4, x5, u5⟩) := Lib.hid (by unfold qRaw; simp only [HEu1.out, HEu2.out, HEu3.out, HEu4.out, HEu5.out])
          have HBX := Lib.hid (And.intro HBDu1.out (And.intro HBDu4.out HBDu5.out))
          clear HEu1 HEu2 HEu3 HEu4 HEu5 HBDu1 HBDu4 HBDu5 HSu0 HSu1 HSu2 HSu3 HSu4 
          have HP := Lib.hid (parseR_any tx wc (by have := HZu2.out; omega))
          have HDZ := Lib.hid (fun W => zdecodeR_any zt W HZu3.out)
          clear HZu2 HZu3
          go_wp2_with fail
          refine HP.out.mono ?_
          rintro e wd ⟨hb, h⟩
          replace HX := Lib.hid (HX.out.below hb)
          clear hb HP
          rcases h with ⟨hp0, A', c', rfl, hcl, hlt, hao⟩ | ⟨hp0, A', n', c', er, her, rfl⟩
          · have HPZ := Lib.hid hp0
            have HCL := Lib.hid hcl
            have HLT := Lib.hid hlt
            have HLN := Lib.hid ((chkL_small (parE_ok tx (parE tx).1 (by rw [← hp0])).2).1)
            have HEL := Lib.hid (parE tx).1.length.le_refl
            clear hp0 hcl hlt hao
            obtain ⟨LS, hLS⟩ : ∃ LS, (parE tx).1 = LS := ⟨_, rfl⟩
            rw [hLS] at HCL HLT HLN
            rw [hLS]
            have HLS := Lib.hid hLS
            clear hLS HEL
            go_wp2_with fail
            refine (HDZ.out _).mono ?_
            rintro e we ⟨hb, hz⟩
            replace HX := Lib.hid (HX.out.below hb)
            replace HLT := Lib.hid (HLT.out.below hb)
            clear hb HDZ
            have HZA := Lib.hid (At.new we Zn.zero.cells 50)
            rcases hz with ⟨hz, rfl⟩ | ⟨hz, rfl⟩
            · obtain ⟨Z, hZ⟩ : ∃ Z, (zD zt).1 = Z := ⟨_, rfl⟩
              rw [hZ]
              have HZE := Lib.hid hZ
              have HZ0 := Lib.hid hz
              clear hZ hz
              obtain ⟨ZC, hZC⟩ : ∃ c, c = Z.cells := ⟨_, rfl⟩
              rw [← hZC]
              have hzs : ZC.size = 13 := by rw [hZC]; rfl
              have HZO : Hid ((ZC.all fun v => v.oneCell') = true) := Lib.hid (by rw [hZC]; exact zn_one _)
              have HZC := Lib.hid hZC
              clear hZC
              go_wp2_with (refine wpList_store_at rfl 50 (.tmp 22) (.tmp 113) rfl we.heap.size ZC rfl rfl 50 Zn.zero.cells HZA.out (by rw [hzs]; exact size_zone) (by rw [hzs]; rfl) HZO.out ?_)
              intro wc HWC
              have HRR : Hid (Below we.heap.size we wc) := Lib.hid (by rw [HWC.out]; exact below_row ((Below.refl _ _).alloc (Nat.le_refl _) _) _ _ (Nat.le_refl _))
              replace HX := Lib.hid (HX.out.below HRR.out)
              replace HLT := Lib.hid (HLT.out.below HRR.out)
              have HY : Hid (At wc we.heap.size ZC 50) := Lib.hid (by rw [HWC.out]; exact HZA.out.row)
              clear HWC HRR HZA
              have c16 : wc.cell? ⟨BX, 16, none⟩ = some (.int .i64 x5) := HX.out.x.cell 16
              obtain ⟨b50, b51⟩ := HBX.out.2.2
              by_cases hlo : x5 < 4
              · have HNA := Lib.hid (HQV.out.stop HF.out HGO.out (fun h => by rw [HRW.out] at h; have := h.2.2.1; simp only at this; omega))
                have g5 : decide (x5 < 4) = true := decide_eq_true hlo
                have HQ := Lib.hid HX.out.qb
                clear hlo b51
                go_wp2_with (first | (refine wpList_load_row rfl 25 (.tmp 7) rfl B7 rfl 25 zB (0, 0) _ HQ.out.r7.out Tryz.underlying25 rfl size_zB ?_) | (refine wpList_store_at rfl 25 (.tmp 4) (.tmp 131) rfl B4 zB rfl rfl 25 zB HQ.out.r4 size_zB rfl zB_one ?_))
                intro w9 HW9
                have HA9 : Hid (At w9 B4 zB 25) := Lib.hid (by rw [HW9.out]; exact HQ.out.r4.row)
                have HB9 : Hid (Below w.heap.size w w9) := Lib.hid (by rw [HW9.out]; exact below_row HQ.out.be _ _ HQ.out.ord.1)
                go_wp2_with fail
                refine bodyPost_ret (results_row_tmp3 rfl _ _ B4 25 zB _ rfl HA9.out Tryz.underlying25 rfl size_zB) rfl ⟨HB9.out, .inr ⟨HNA.out, rfl⟩⟩
              by_cases hhi : 262148 < x5
              · have HNA := Lib.hid (HQV.out.stop HF.out HGO.out (fun h => by rw [HRW.out] at h; have := h.2.2.2; simp only at this; omega))
                have g5 : decide (x5 < 4) = false := decide_eq_false hlo
                have g6 : decide (262148 < x5) = true := decide_eq_true hhi
                have HQ := Lib.hid HX.out.qb
                clear hlo hhi b51
                go_wp2_with (first | (refine wpList_load_row rfl 25 (.tmp 7) rfl B7 rfl 25 zB (0, 0) _ HQ.out.r7.out Tryz.underlying25 rfl size_zB ?_) | (refine wpList_store_at rfl 25 (.tmp 4) (.tmp 131) rfl B4 zB rfl rfl 25 zB HQ.out.r4 size_zB rfl zB_one ?_))
                intro w9 HW9
                have HA9 : Hid (At w9 B4 zB 25) := Lib.hid (by rw [HW9.out]; exact HQ.out.r4.row)
                have HB9 : Hid (Below w.heap.size w w9) := Lib.hid (by rw [HW9.out]; exact below_row HQ.out.be _ _ HQ.out.ord.1)
                go_wp2_with fail
                refine bodyPost_ret (results_row_tmp3 rfl _ _ B4 25 zB _ rfl HA9.out Tryz.underlying25 rfl size_zB) rfl ⟨HB9.out, .inr ⟨HNA.out, rfl⟩⟩
              have g5 : decide (x5 < 4) = false := decide_eq_false hlo
              have g6 : decide (262148 < x5) = false := decide_eq_false hhi
              have HOK : Hid (qOk (qRaw u0)) := Lib.hid (by
                rw [HRW.out]
                exact ⟨HPZ.out, HZ0.out, (by show 4 ≤ x5; omega), (by show x5 ≤ 262148; omega)⟩)
              have HQFN := Lib.hid (qF_step HF.out HOK.out)
              have HXF : Hid (4 ≤ x5 ∧ x5 ≤ 262148) := Lib.hid (by omega)
              obtain ⟨x, hx⟩ : ∃ x, x = qOf (qRaw u0) := ⟨_, rfl⟩
              have hxe : x = ⟨x1, LS, Z, x4, x5⟩ := by rw [hx, HRW.out]; unfold qOf; simp only [HLS.out, HZE.out]
              rw [← hx, HRW.out] at HQFN
              have HXE := Lib.hid hxe
              clear hx hxe
              have hXY : BX ≠ we.heap.size := ne_of_types HX.out.x HY.out (by decide)
              have HXY := Lib.hid hXY
              generalize we.heap.size = BZ at *
              obtain ⟨wq, hwq⟩ : ∃ W, W = wc := ⟨_, rfl⟩
              rw [← hwq] at HX HY HLT c16
              rw [← hwq]
              clear hwq
              go_upto_region 25 with fail
              replace HX := Lib.hid (HX.out.below (bN (Below.refl _ _) 1))
              replace HY := Lib.hid (HY.out.drew)
              replace HLT := Lib.hid (HLT.out.below (bN (Below.refl _ _) 1))
              have cq : wq.drew.cell? ⟨BX, 1, none⟩ = some (.slice none 0 0) := HX.out.x.cell 1
              have fq : wq.drew.frozen? ⟨BX, 1, none⟩ = false := HX.out.x.free 1
              have hL1 : (loadVar 50 ⟨BZ, 0, none⟩).run Tryz.prog wq.drew = .ok (.agg ZC) wq.drew := run_loadVar_row _ BZ 50 50 ZC (0, 0) _ HY.out.out Tryz.underlying50 rfl (by rw [hzs]; exact size_zone)
              have HX1 : Hid (QX w wr B4 B7 B9 BX u5 (itC x1 A' LS.length c' Zn.zero x4 x5) (wq.drew.setCell ⟨BX, 1, none⟩ (.slice A' LS.length c'))) := Lib.hid (HX.out.cell 1 (.slice A' LS.length c'))
              have HY1 := Lib.hid (HY.out.other (a := ⟨BX, 1, none⟩) (.slice A' LS.length c') (Ne.symm hXY))
              have hL2 : (loadVar 50 ⟨BZ, 0, none⟩).run Tryz.prog (wq.drew.setCell ⟨BX, 1, none⟩ (.slice A' LS.length c')) = .ok (.agg ZC) (wq.drew.setCell ⟨BX, 1, none⟩ (.slice A' LS.length c')) := run_loadVar_row _ BZ 50 50 ZC (0, 0) _ HY1.out.out Tryz.underlying50 rfl (by rw [hzs]; exact size_zone)
              have hS : (storeVar 50 ⟨BX, 2, none⟩ (.agg ZC)).run Tryz.prog (wq.drew.setCell ⟨BX, 1, none⟩ (.slice A' LS.length c')) = .ok () ((wq.drew.setCell ⟨BX, 1, none⟩ (.slice A' LS.length c')).setCells BX 2 ZC.toList) := run_storeVar_mid _ _ _ _ _ (HX1.out.x.there 2 ZC.size (by rw [hzs]; show 2 + 13 ≤ 17; decide)) (by rw [hzs]; exact size_zone) HZO.out
              have HX2 : Hid (QX w wr B4 B7 B9 BX u5 (itC x1 A' LS.length c' Z x4 x5) ((wq.drew.setCell ⟨BX, 1, none⟩ (.slice A' LS.length c')).setCells BX 2 ZC.toList)) := Lib.hid (by have h := HX1.out.cells ZC.toList 2; rw [HZC.out, item_zone] at h; rw [HZC.out]; exact h)
              have HY2 : Hid (At ((wq.drew.setCell ⟨BX, 1, none⟩ (.slice A' LS.length c')).setCells BX 2 ZC.toList) BZ ZC 50) := Lib.hid (At.otherCells (Ne.symm hXY) _ _ _ HY1.out)
              have HLT2 : Hid (LabT ((wq.drew.setCell ⟨BX, 1, none⟩ (.slice A' LS.length c')).setCells BX 2 ZC.toList) A' LS) := Lib.hid (HLT.out.keepP (Keep.cellsP 1 (.slice A' LS.length c') 2 ZC.toList (Keep.refl BX _)) (HLT.out.ty.ne HX.out.x (by decide)))
              have HTH1 : Hid (wq.drew.there BX 1 1) := Lib.hid (HX.out.x.there 1 1 (by show 1 + 1 ≤ 17; decide))
              have HTH2 : Hid ((wq.drew.setCell ⟨BX, 1, none⟩ (.slice A' LS.length c')).there BX 2 ZC.size) := Lib.hid (HX1.out.x.there 2 ZC.size (by rw [hzs]; show 2 + 13 ≤ 17; decide))
              obtain ⟨w2, hw2⟩ : ∃ W, W = (wq.drew.setCell ⟨BX, 1, none⟩ (.slice A' LS.length c')).setCells BX 2 ZC.toList := ⟨_, rfl⟩
              rw [← hw2] at HX2 HY2 HLT2
              clear hS
              refine region_pair 132 133 134 135 17 20 22 46 50 BX BZ 1 2 A' LS.length c' ZC (wq.drew.setCell ⟨BX, 1, none⟩ (.slice A' LS.length c'))
                rfl rfl rfl rfl rfl rfl rfl rfl rfl rfl rfl rfl rfl rfl rfl rfl
                (fun b W h => by simp [Act.eval] at h; unfold execOp; simp [go_sem, h]) (fun b W h => by simp [Act.eval] at h; unfold execOp; simp [go_sem, h]) (by decide) (Nat.le_of_ble_eq_true (by kernel_rfl))
                (by kernel_rfl) (by kernel_rfl) (by kernel_rfl) (by kernel_rfl) (by kernel_rfl) (by kernel_rfl) (by kernel_rfl) (by kernel_rfl) (by kernel_rfl) (by kernel_rfl) (by kernel_rfl) (by kernel_rfl)
                (fun _ _ _ d _ h => by cases d <;> exact h) (by kernel_rfl) (by kernel_rfl) (by kernel_rfl) rfl hL1 hL2 HTH1.out size_labs HTH2.out (by rw [hzs]; exact size_zone) HZO.out ?_
              rw [← hw2]
              clear hw2 HTH1 HTH2
              clear hL1 hL2 cq fq HX HX1 HY HY1 HLT c16 hXY
              have HKI := Lib.hid (KT.keep (E := 52) HX2.out.kp HR9.out (by decide))
              have HKC := Lib.hid (KT.keep (E := 58) HX2.out.kp HR9.out (by decide))
              have HKL := Lib.hid (KT.keep (E := 66) HX2.out.kp HR9.out (by decide))
              have HBE := Lib.hid (be_bare HX2.out.qb.be)
              have HSI2 := Lib.hid (HSI.out.kt HKI.out HBE.out)
              have HSC2 := Lib.hid (HSC.out.kt HKC.out HBE.out)
              have HIT2 := Lib.hid (HIT.out.kt HKL.out)
              have HCT2 := Lib.hid (HCT.out.kt HKL.out)
              have H132 := Lib.hid (H13.out.keep HX2.out.kp (by have := HO9.out; omega))
              have HAX : Hid (A.map (·.block) ≠ some BX) := Lib.hid (fun e => by have h1 := (HSI.out.lt _ e).2; have h2 := HX2.out.ord.1; omega)
              have HAX2 : Hid (A2.map (·.block) ≠ some BX) := Lib.hid (fun e => by have h1 := (HSC.out.lt _ e).2; have h2 := HX2.out.ord.1; omega)
              have HQ2 := Lib.hid HX2.out.qb
              have c16 : w2.cell? ⟨BX, 16, none⟩ = some (.int .i64 x5) := HX2.out.x.cell 16
              have HXx := Lib.hid HX2.out.x
              obtain ⟨V, hV⟩ : ∃ V, V = itC x1 A' LS.length c' Z x4 x5 := ⟨_, rfl⟩
              rw [← hV] at HXx
              have hcs : V.size = 17 := by rw [hV]; rfl
              have HV1 : Hid ((V.all fun v => v.oneCell') = true) := Lib.hid (by rw [hV]; exact itC_one _ _ _ _ _ _ _)
              have HV := Lib.hid hV
              clear hV
              have hsz := sizes_le acc HQI.out
              have hat1 : 0 ≤ sizes acc := hsz.1
              have hat2 : sizes acc ≤ 1048592000 := by have h1 := hsz.2; have h2 := HAL.out; have h3 := HK4.out; omega
              obtain ⟨hx51, hx52⟩ := HXF.out
              have hnl : acc.length + 1 ≤ 1000000 := by have h2 := HAL.out; have h3 := HK4.out; omega
              clear HSI HSC HIT HCT H13 HX2 HKI HKC HKL hsz HR9 HBE hlo hhi g5 g6 b50 b51 hzs HZO
              go_upto_region 27 with fail
              go_wp2_with (first | (refine wpList_load_row rfl 52 (.tmp 17) rfl BX rfl 52 V (0, 0) _ HXx.out.out Tryz.underlying52 rfl (by rw [hcs]; exact size_item) ?_) | (refine wpList_bsItem rfl (.tmp 141) rfl V _ _ _ _ _ _ _ HV.out rfl ?_) | (at_builtin; (refine wpList_elem rfl (.tmp 140) (.tmp 142) 29 52 i0 _ 17 120 Tryz.underlying29 hi hy0 hy1 hy2 zero_itemS (by decide) rfl HSI2.out V hcs HV1.out rfl rfl hnl (by decide) ?_)))
              intro A3 n3 c3 l3 w3 HE3 hS3 hG3
              have HS3 := Lib.hid hS3
              have HKL3 := Lib.hid (hG3.kt (E := 66) HSI2.out (by decide))
              have HKC3 := Lib.hid (hG3.kt (E := 58) HSI2.out (by decide))
              have HQ3 := Lib.hid (HQ2.out.gro hG3 HSI2.out.ty (by decide) (by decide) HAN.out.1)
              have HX3 := Lib.hid (hG3.at_ HXx.out HAX.out)
              have HY3 := Lib.hid (hG3.at_ HY2.out (HSI2.out.ty.ne HY2.out (by decide)))
              have H133 := Lib.hid (hG3.at_ H132.out (HSI2.out.ty.ne H132.out (by decide)))
              have HSC3 := Lib.hid (HSC2.out.kt HKC3.out (be_bare HQ3.out.be))
              have HCT3 := Lib.hid (HCT2.out.kt HKL3.out)
              have HL3 := Lib.hid (HLT2.out.kt HKL3.out)
              have HIT3 : Hid (ItTs w3 l3 (acc ++ [x])) := Lib.hid (by rw [HE3.out, HXE.out]; exact (HIT2.out.kt HKL3.out).snoc ⟨A', c', HV.out, HL3.out, HCL.out⟩)
              have HAN3 : Hid (∀ k, A3.map (·.block) = some k → w.heap.size ≤ k) := Lib.hid (fun k e => by
                rcases hG3.own with h | ⟨g, h, hge⟩
                · rw [h] at e; exact HAN.out.1 k e
                · rw [h] at e
                  injection e with e
                  have := HQ2.out.be.size
                  omega)
              rw [HV.out] at HX3
              rw [HZC.out] at HY3
              have e0 : w3.cell? ⟨BX, 0, none⟩ = some (.int .i64 x1) := HX3.out.cell 0
              have e3 : w3.cell? ⟨B13, 3, none⟩ = some (.slice A2 acc.length c2) := H133.out.cell 3
              have HYL : Hid (At w3 BZ #[.int .i64 Z.count, .int .i64 Z.minT, .int .i64 Z.maxT, .int .i64 Z.minV, .int .i64 Z.maxV, .int .u32 Z.b0, .int .u32 Z.b1, .int .u32 Z.b2, .int .u32 Z.b3, .int .u32 Z.b4, .int .u32 Z.b5, .int .u32 Z.b6, .int .u32 Z.b7] 50) := Lib.hid HY3.out
              clear hS3 hG3 HSI2 HSC2 HIT2 HCT2 HLT2 HY2 HY3 H132 HQ2 HXx HAX HKC3 c16 HV1 hcs
              go_upto_region 28 with fail
              go_wp2_with (first | (refine wpList_load_row rfl 50 (.tmp 22) rfl BZ rfl 50 _ (0, 0) _ HYL.out.out Tryz.underlying50 rfl size_zone ?_) | (at_builtin; (refine wpList_elem rfl (.tmp 145) (.tmp 151) 23 58 i1 _ 16 120 Tryz.underlying23 hi1 hw0 hw1 hw2 rfl (by decide) rfl HSC3.out (chC x1 A' LS.length c' Z ⟨#[]⟩) rfl (chC_one _ _ _ _ _ _) rfl rfl hnl (by decide) ?_)))
              intro A4 n4 c4 l4 w4 HE4 hS4 hG4
              have HKL4 := Lib.hid (hG4.kt (E := 66) HSC3.out (by decide))
              have HKI4 := Lib.hid (hG4.kt (E := 52) HSC3.out (by decide))
              have HQ4 := Lib.hid (HQ3.out.gro hG4 HSC3.out.ty (by decide) (by decide) HAN.out.2)
              have H134 := Lib.hid (hG4.at_ H133.out (HSC3.out.ty.ne H133.out (by decide)))
              have HCT4 : Hid (ChTs w4 l4 ((acc ++ [x]).map chkOf)) := Lib.hid (by rw [HE4.out, List.map_append, HXE.out]; exact (HCT3.out.kt HKL4.out).snoc ⟨A', c', rfl, HL3.out.kt HKL4.out, HCL.out⟩)
              have HIT4 := Lib.hid (HIT3.out.kt HKL4.out)
              have HAN4 : Hid (∀ k, A4.map (·.block) = some k → w.heap.size ≤ k) := Lib.hid (fun k e => by
                rcases hG4.own with h | ⟨g, h, hge⟩
                · rw [h] at e; exact HAN.out.2 k e
                · rw [h] at e
                  injection e with e
                  have := HQ3.out.be.size
                  omega)
              have e3 : w4.cell? ⟨B13, 3, none⟩ = some (.slice A2 acc.length c2) := H134.out.cell 3
              have g3 : w4.frozen? ⟨B13, 3, none⟩ = false := H134.out.free 3
              have H135 : Hid (At (w4.setCell ⟨B13, 3, none⟩ (.slice A4 n4 c4)) B13 #[.int .i64 v1, .int .i64 v2, .int .i64 v3, .slice A4 n4 c4] 25) := Lib.hid (H134.out.set 3 _)
              have HQ5 := Lib.hid (HQ4.out.cellN 3 HO9.out (.slice A4 n4 c4))
              have HSI5 := Lib.hid (HS3.out.kt (HKI4.out.trans (KT.set H134.out (by decide) 3 (.slice A4 n4 c4))) (be_bare HQ5.out.be))
              have HSC5 := Lib.hid (hS4.kt (KT.set H134.out (by decide) 3 (.slice A4 n4 c4)) (be_bare HQ5.out.be))
              have HIT5 := Lib.hid (HIT4.out.kt (KT.set H134.out (by decide) 3 (.slice A4 n4 c4)))
              have HCT5 := Lib.hid (HCT4.out.kt (KT.set H134.out (by decide) 3 (.slice A4 n4 c4)))
              clear hS4 hG4 HKL4 HKI4 HQ4 H134 HCT4 HIT4 HS3 HKL3 HX3 HQ3 H133 HSC3 HCT3 HL3 HIT3 HYL e0 HAX2
              have hm : 4001 - (k + 1) < 4001 - k := by have := HK4.out; omega
              have HGO2 : Hid (((k + 1 : Nat) : Int) ≤ v4 ∧ k + 1 ≤ 4000) := Lib.hid (by have h1 := HGO.out; have h2 := HMN.out; omega)
              go_wp2_with fail
              go_roundw
              case rel => exact ⟨k + 1, A3, n3, c3, A4, n4, c4, acc ++ [x], u5.rest, u5.bad, l3, l4, rfl, by rw [sizes_snoc, HXE.out], by go_num, Lib.hid HGO2.out.1, Lib.hid HGO2.out.2, HQFN, HQ5, H135, HSI5, HSC5, HIT5, HCT5, Lib.hid ⟨HAN3.out, HAN4.out⟩⟩
              case measure => simp [intOf]; omega
            · have HNA := Lib.hid (HQV.out.stop HF.out HGO.out (fun h => hz (by rw [HRW.out] at h; exact h.2.1)))
              clear hz
              go_wp2_with (refine wpList_store_at rfl 50 (.tmp 22) (.tmp 113) rfl we.heap.size Zn.zero.cells rfl rfl 50 Zn.zero.cells HZA.out size_zone rfl (zn_one _) ?_)
              intro wc HWC
              have HRR : Hid (Below we.heap.size we wc) := Lib.hid (by rw [HWC.out]; exact below_row ((Below.refl _ _).alloc (Nat.le_refl _) _) _ _ (Nat.le_refl _))
              have HQ := Lib.hid (HX.out.below HRR.out).qb
              clear HWC HRR HZA
              go_wp2_with (first | (refine wpList_load_row rfl 25 (.tmp 7) rfl B7 rfl 25 zB (0, 0) _ HQ.out.r7.out Tryz.underlying25 rfl size_zB ?_) | (refine wpList_store_at rfl 25 (.tmp 4) (.tmp 131) rfl B4 zB rfl rfl 25 zB HQ.out.r4 size_zB rfl zB_one ?_))
              intro w9 HW9
              have HA9 : Hid (At w9 B4 zB 25) := Lib.hid (by rw [HW9.out]; exact HQ.out.r4.row)
              have HB9 : Hid (Below w.heap.size w w9) := Lib.hid (by rw [HW9.out]; exact below_row HQ.out.be _ _ HQ.out.ord.1)
              go_wp2_with fail
              refine bodyPost_ret (results_row_tmp3 rfl _ _ B4 25 zB _ rfl HA9.out Tryz.underlying25 rfl size_zB) rfl ⟨HB9.out, .inr ⟨HNA.out, rfl⟩⟩
          · have HNA := Lib.hid (HQV.out.stop HF.out HGO.out (fun h => hp0 (by rw [HRW.out] at h; exact h.1)))
            have g6 : (er != 0) = true := bne_iff_ne.2 her
            clear hp0 her
            go_wp2_with fail
            refine (HDZ.out _).mono ?_
            rintro e we ⟨hb, hz⟩
            obtain ⟨Z, ez, rfl⟩ : ∃ (Z : Zn) (ez : Int), e = .returned (.tuple #[.agg Z.cells, .int .i64 ez]) := by
              rcases hz with ⟨_, rfl⟩ | ⟨_, rfl⟩
              · exact ⟨_, _, rfl⟩
              · exact ⟨_, _, rfl⟩
            replace HX := Lib.hid (HX.out.below hb)
            clear hb hz HDZ
            have HZA := Lib.hid (At.new we Zn.zero.cells 50)
            go_wp2_with (refine wpList_store_at rfl 50 (.tmp 22) (.tmp 113) rfl we.heap.size Z.cells rfl rfl 50 Zn.zero.cells HZA.out size_zone rfl (zn_one _) ?_)
            intro wc HWC
            have HRR : Hid (Below we.heap.size we wc) := Lib.hid (by rw [HWC.out]; exact below_row ((Below.refl _ _).alloc (Nat.le_refl _) _) _ _ (Nat.le_refl _))
            have HQ := Lib.hid (HX.out.below HRR.out).qb
            clear HWC HRR HZA
            go_wp2_with (first | (refine wpList_load_row rfl 25 (.tmp 7) rfl B7 rfl 25 zB (0, 0) _ HQ.out.r7.out Tryz.underlying25 rfl size_zB ?_) | (refine wpList_store_at rfl 25 (.tmp 4) (.tmp 131) rfl B4 zB rfl rfl 25 zB HQ.out.r4 size_zB rfl zB_one ?_))
            intro w9 HW9
            have HA9 : Hid (At w9 B4 zB 25) := Lib.hid (by rw [HW9.out]; exact HQ.out.r4.row)
            have HB9 : Hid (Below w.heap.size w w9) := Lib.hid (by rw [HW9.out]; exact below_row HQ.out.be _ _ HQ.out.ord.1)
            go_wp2_with fail
            refine bodyPost_ret (results_row_tmp3 rfl _ _ B4 25 zB _ rfl HA9.out Tryz.underlying25 rfl size_zB) rfl ⟨HB9.out, .inr ⟨HNA.out, rfl⟩⟩
        · have g2 : decide (v4 ≤ 4000) = false := decide_eq_false hmany
          have HNA := Lib.hid (HQV.out.many (by omega))
          have g4 : ((acc.length : Int) != v4) = true := bne_iff_ne.2 (by rw [HAL.out]; omega)
          clear hlt hmany
          by_cases hat : sizes acc = size
          · have g3 : (sizes acc != size) = false := by rw [bne_eq_false_iff_eq]; exact hat
            clear hat
            go_wp2_with (first | (refine wpList_load_row rfl 25 (.tmp 7) rfl B7 rfl 25 zB (0, 0) _ HQ.out.r7.out Tryz.underlying25 rfl size_zB ?_) | (refine wpList_store_at rfl 25 (.tmp 4) (.tmp 181) rfl B4 zB rfl rfl 25 zB HQ.out.r4 size_zB rfl zB_one ?_))
            intro w9 HW9
            have HA9 : Hid (At w9 B4 zB 25) := Lib.hid (by rw [HW9.out]; exact HQ.out.r4.row)
            have HB9 : Hid (Below w.heap.size w w9) := Lib.hid (by rw [HW9.out]; exact below_row HQ.out.be _ _ HQ.out.ord.1)
            go_wp2_with fail
            refine bodyPost_ret (results_row_tmp3 rfl _ _ B4 25 zB _ rfl HA9.out Tryz.underlying25 rfl size_zB) rfl ⟨HB9.out, .inr ⟨HNA.out, rfl⟩⟩
          · have g3 : (sizes acc != size) = true := bne_iff_ne.2 hat
            clear hat
            go_wp2_with (first | (refine wpList_load_row rfl 25 (.tmp 7) rfl B7 rfl 25 zB (0, 0) _ HQ.out.r7.out Tryz.underlying25 rfl size_zB ?_) | (refine wpList_store_at rfl 25 (.tmp 4) (.tmp 181) rfl B4 zB rfl rfl 25 zB HQ.out.r4 size_zB rfl zB_one ?_))
            intro w9 HW9
            have HA9 : Hid (At w9 B4 zB 25) := Lib.hid (by rw [HW9.out]; exact HQ.out.r4.row)
            have HB9 : Hid (Below w.heap.size w w9) := Lib.hid (by rw [HW9.out]; exact below_row HQ.out.be _ _ HQ.out.ord.1)
            go_wp2_with fail
            refine bodyPost_ret (results_row_tmp3 rfl _ _ B4 25 zB _ rfl HA9.out Tryz.underlying25 rfl size_zB) rfl ⟨HB9.out, .inr ⟨HNA.out, rfl⟩⟩
      · have hkv : (k : Int) = v4 := by have := HK.out; omega
        have HNOT := Lib.hid (fun hn => HQV.out.not HF.out hkv hn)
        have g1 : decide ((k : Int) < v4) = false := decide_eq_false hlt
        cases bd
        case true =>
          have HNA := Lib.hid (HQV.out.bad HF.out HK.out rfl)
          clear hlt hkv
          go_wp2_with (first | (refine wpList_load_row rfl 25 (.tmp 7) rfl B7 rfl 25 zB (0, 0) _ HQ.out.r7.out Tryz.underlying25 rfl size_zB ?_) | (refine wpList_store_at rfl 25 (.tmp 4) (.tmp 181) rfl B4 zB rfl rfl 25 zB HQ.out.r4 size_zB rfl zB_one ?_))
          intro w9 HW9
          have HA9 : Hid (At w9 B4 zB 25) := Lib.hid (by rw [HW9.out]; exact HQ.out.r4.row)
          have HB9 : Hid (Below w.heap.size w w9) := Lib.hid (by rw [HW9.out]; exact below_row HQ.out.be _ _ HQ.out.ord.1)
          go_wp2_with fail
          refine bodyPost_ret (results_row_tmp3 rfl _ _ B4 25 zB _ rfl HA9.out Tryz.underlying25 rfl size_zB) rfl ⟨HB9.out, .inr ⟨HNA.out, rfl⟩⟩
        have HKV := Lib.hid hkv
        by_cases hat : sizes acc = size
        · have g2 : (sizes acc != size) = false := by rw [bne_eq_false_iff_eq]; exact hat
          have g3 : ((acc.length : Int) != v4) = false := by rw [bne_eq_false_iff_eq, HAL.out]; exact hkv
          have HAT := Lib.hid hat
          have HCB := (HSC.out.chRow HCT.out).rd
          have HCK := Lib.hid (checkR_any ⟨v1, v2, v3, acc.map chkOf⟩ A2 c2 wr HCB (by rw [List.length_map]; exact HSC.out.cap) (fun y hy => by
            obtain ⟨x, hx, rfl⟩ := List.mem_map.1 hy
            have h := chkL_small (HQI.out x hx).labs
            exact ⟨by show x.labs.length ≤ _; omega, fun z hz => by have := h.2 z hz; omega⟩))
          have hV : (#[.int .i64 v1, .int .i64 v2, .int .i64 v3, .slice A2 acc.length c2] : Array Value) = blC ⟨v1, v2, v3, acc.map chkOf⟩ A2 c2 := by unfold blC; simp only [List.length_map]
          rw [hV] at H13
          obtain ⟨V, hV2⟩ : ∃ V, V = blC ⟨v1, v2, v3, acc.map chkOf⟩ A2 c2 := ⟨_, rfl⟩
          rw [← hV2] at H13 HCK
          have hvs : V.size = 4 := by rw [hV2]; rfl
          have HDR := Lib.hid (fun (W : World) (h : Below wr.heap.size wr W) => directoryR_any v1 v2 v3 A c acc W ((ItmsT.rd ⟨vs, HSI.out.rd, HSI.out.ty, HIT.out⟩ : ItmsIn wr.heap.size wr A acc).below h |>.mono h.size) HSI.out.cap (fun x hx => (HQI.out x hx).ok) (by have := HAL.out; have := HK4.out; omega) HNB.out.1 HNB.out.2.1 HNB.out.2.2)
          clear hV hV2 hkv hlt hat HCB
          go_wp2_with (refine wpList_load_atG rfl 25 (.tmp 13) rfl B13 rfl 25 V _ H13.out Tryz.underlying25 rfl (by rw [hvs]; exact size_blk) ?_)
          refine HCK.out.mono ?_
          rintro e w5 ⟨rfl, hb5⟩
          replace HQ := Lib.hid (HQ.out.below hb5)
          by_cases hck : bchk ⟨v1, v2, v3, acc.map chkOf⟩ = 0
          · have HCZ := Lib.hid hck
            rw [hck]
            have HDR2 := Lib.hid (HDR.out w5 hb5)
            have HB5 := Lib.hid hb5
            obtain ⟨S, hS⟩ : ∃ S, str (dirB v1 v2 v3 acc) = S := ⟨_, rfl⟩
            rw [hS] at HDR2
            have HSE := Lib.hid hS
            clear hck hb5 HDR HCK hS
            go_wp2_with fail
            refine HDR2.out.mono ?_
            rintro e w6 ⟨rfl, hb6⟩
            replace HQ := Lib.hid (HQ.out.below hb6)
            have HB6 := Lib.hid (HB5.out.trans (hb6.mono HB5.out.size))
            clear hb6 HDR2 HB5
            by_cases hde : S = d
            · have g4 : (S.toList == d.toList) = true := by rw [hde]; exact beq_self_eq_true _
              have HDD : Hid (bs d = dirB v1 v2 v3 acc) := Lib.hid (by rw [← hde, ← HSE.out, bs_str])
              clear hde HSE
              replace HSI := Lib.hid (HSI.out.kt (KT.below HB6.out) (be_bare HQ.out.be))
              replace HIT := Lib.hid (HIT.out.kt (KT.below HB6.out))
              have HIN : Hid (ItmsIn w6.heap.size w6 A acc) := Lib.hid (ItmsT.rd ⟨vs, HSI.out.rd, HSI.out.ty, HIT.out⟩)
              have hal : acc.length ≤ 4000 := by have h1 := HAL.out; have h2 := HK4.out; omega
              clear HSC HCT H13 HB6
              go_upto_region 33 with fail
              go_loopw [15, 24] (fun at_ i wl => ∃ j : Nat, j ≤ acc.length ∧ at_ = .int .i64 (sizes (acc.take j)) ∧ i = .int .i64 j ∧ Hid (ChainI 0 (acc.take j)) ∧ Hid (wl = w6)) (fun _ i _ => acc.length + 1 - (intOf i).toNat)
              case atStart => exact ⟨0, Nat.zero_le _, rfl, rfl, Lib.hid trivial, Lib.hid rfl⟩
              case round =>
                obtain ⟨j, hj, rfl, rfl, HCJ, hwe⟩ := hrel
                have h2 := hwe.out.symm
                clear hwe
                subst h2
                by_cases hjl : j < acc.length
                · obtain ⟨g, o, A5, c5, rfl, hg, HRG, HLB, HCL⟩ := HIN.out.get j hjl
                  have HQX := Lib.hid (HQI.out _ (List.getElem_mem hjl))
                  have HCA := Lib.hid (fun h => chain_at acc 0 j hjl h)
                  have HTK := Lib.hid (List.take_succ_eq_append_getElem hjl)
                  obtain ⟨y, hy⟩ : ∃ y, acc[j] = y := ⟨_, rfl⟩
                  rw [hy] at HRG HQX HCA HTK
                  have e15 : w6.cell? ⟨g, o + j * 17 + 15, none⟩ = some (.int .i64 y.off) := HRG.out 15 _ rfl
                  have e16 : w6.cell? ⟨g, o + j * 17 + 16, none⟩ = some (.int .i64 y.size) := HRG.out 16 _ rfl
                  have i1 : (0 : Int) ≤ (j : Int) := by omega
                  have i2 : (j : Int) < (acc.length : Int) := by omega
                  have hsz := sizes_le (acc.take j) (fun z hz => HQI.out z (List.mem_of_mem_take hz))
                  have hs1 : 0 ≤ sizes (acc.take j) := hsz.1
                  have hs2 : sizes (acc.take j) ≤ 1048592000 := by have h1 := hsz.2; rw [List.length_take] at h1; omega
                  obtain ⟨hq1, hq2⟩ := HQX.out.size
                  clear hsz hy HRG HLB HCL
                  by_cases ho : y.off = sizes (acc.take j)
                  · have g5 : (y.off != sizes (acc.take j)) = false := by rw [bne_eq_false_iff_eq]; exact ho
                    have HHO := Lib.hid ho
                    clear ho
                    go_wp2_with fail
                    go_roundw
                    case rel => exact ⟨j + 1, hjl, by rw [HTK.out, sizes_snoc], by go_num, Lib.hid (by rw [HTK.out]; exact chain_snoc _ _ _ HCJ.out (by rw [HHO.out]; omega)), by first | exact Lib.hid rfl | exact Lib.hid trivial⟩
                    case measure => simp [intOf]; omega
                  · have HNA := Lib.hid (HNOT.out (fun h => ho (by have := HCA.out h.chain; omega)))
                    have g5 : (y.off != sizes (acc.take j)) = true := bne_iff_ne.2 ho
                    clear ho
                    go_wp2_with (first | (refine wpList_load_row rfl 25 (.tmp 7) rfl B7 rfl 25 zB (0, 0) _ HQ.out.r7.out Tryz.underlying25 rfl size_zB ?_) | (refine wpList_store_at rfl 25 (.tmp 4) (.tmp 195) rfl B4 zB rfl rfl 25 zB HQ.out.r4 size_zB rfl zB_one ?_))
                    intro w9 HW9
                    have HA9 : Hid (At w9 B4 zB 25) := Lib.hid (by rw [HW9.out]; exact HQ.out.r4.row)
                    have HB9 : Hid (Below w.heap.size w w9) := Lib.hid (by rw [HW9.out]; exact below_row HQ.out.be _ _ HQ.out.ord.1)
                    go_wp2_with fail
                    refine bodyPost_ret (results_row_tmp3 rfl _ _ B4 25 zB _ rfl HA9.out Tryz.underlying25 rfl size_zB) rfl ⟨HB9.out, .inr ⟨HNA.out, rfl⟩⟩
                · have HCH : Hid (ChainI 0 acc) := Lib.hid (by have h := HCJ.out; rw [List.take_of_length_le (by omega)] at h; exact h)
                  have hjn : ¬ (j : Int) < (acc.length : Int) := by omega
                  have HKI := Lib.hid (KT.row (E := 52) HQ.out.r4 (by decide) #[.int .i64 v1, .int .i64 v2, .int .i64 v3, .slice none 0 0])
                  have HKL := Lib.hid (KT.row (E := 66) HQ.out.r4 (by decide) #[.int .i64 v1, .int .i64 v2, .int .i64 v3, .slice none 0 0])
                  clear hjl HCJ HIN
                  go_wp2_with (refine wpList_store_at rfl 25 (.tmp 4) (.tmp 206) rfl B4 #[.int .i64 v1, .int .i64 v2, .int .i64 v3, .slice none 0 0] rfl rfl 25 zB HQ.out.r4 size_blk rfl (by simp [Value.oneCell']) ?_)
                  intro w9 HW9
                  have HA9 : Hid (At w9 B4 (blC ⟨v1, v2, v3, []⟩ none 0) 25) := Lib.hid (by rw [HW9.out]; exact HQ.out.r4.row)
                  have HB9 : Hid (Below w.heap.size w w9) := Lib.hid (by rw [HW9.out]; exact below_row HQ.out.be _ _ HQ.out.ord.1)
                  rw [← HW9.out] at HKI HKL
                  have HSI9 := Lib.hid (HSI.out.kt HKI.out (be_bare HB9.out))
                  have HIT9 := Lib.hid (HIT.out.kt HKL.out)
                  go_wp2_with fail
                  refine bodyPost_ret (results_row_tmp3 rfl _ _ B4 25 (blC ⟨v1, v2, v3, []⟩ none 0) _ rfl HA9.out Tryz.underlying25 rfl size_blk) rfl ⟨HB9.out, .inl ⟨v1, v2, v3, acc, A, c, ⟨HDD.out, HCH.out, HAT.out, fun x hx => ⟨(HQI.out x hx).size, (HQI.out x hx).labs, (HQI.out x hx).zone, (HQI.out x hx).word⟩, HCZ.out⟩, rfl, ⟨vs, HSI9.out.rd, HSI9.out.ty, HIT9.out⟩, HSI9.out.cap⟩⟩
            · have HNA := Lib.hid (HNOT.out (fun h => hde (bs_inj (by rw [h.dir, ← HSE.out, bs_str]))))
              have g4 : (S.toList == d.toList) = false := beq_eq_false_iff_ne.2 (fun h => hde (CR.str_eq h))
              clear hde HSE
              go_wp2_with (first | (refine wpList_load_row rfl 25 (.tmp 7) rfl B7 rfl 25 zB (0, 0) _ HQ.out.r7.out Tryz.underlying25 rfl size_zB ?_) | (refine wpList_store_at rfl 25 (.tmp 4) (.tmp 181) rfl B4 zB rfl rfl 25 zB HQ.out.r4 size_zB rfl zB_one ?_))
              intro w9 HW9
              have HA9 : Hid (At w9 B4 zB 25) := Lib.hid (by rw [HW9.out]; exact HQ.out.r4.row)
              have HB9 : Hid (Below w.heap.size w w9) := Lib.hid (by rw [HW9.out]; exact below_row HQ.out.be _ _ HQ.out.ord.1)
              go_wp2_with fail
              refine bodyPost_ret (results_row_tmp3 rfl _ _ B4 25 zB _ rfl HA9.out Tryz.underlying25 rfl size_zB) rfl ⟨HB9.out, .inr ⟨HNA.out, rfl⟩⟩
          · have HNA := Lib.hid (HNOT.out (fun h => hck h.chk))
            have g4 : (bchk ⟨v1, v2, v3, acc.map chkOf⟩ != 0) = true := bne_iff_ne.2 hck
            obtain ⟨er, her⟩ : ∃ er, bchk ⟨v1, v2, v3, acc.map chkOf⟩ = er := ⟨_, rfl⟩
            rw [her] at g4
            rw [her]
            clear hck her hb5 HDR HCK
            go_wp2_with (first | (refine wpList_load_row rfl 25 (.tmp 7) rfl B7 rfl 25 zB (0, 0) _ HQ.out.r7.out Tryz.underlying25 rfl size_zB ?_) | (refine wpList_store_at rfl 25 (.tmp 4) (.tmp 181) rfl B4 zB rfl rfl 25 zB HQ.out.r4 size_zB rfl zB_one ?_))
            intro w9 HW9
            have HA9 : Hid (At w9 B4 zB 25) := Lib.hid (by rw [HW9.out]; exact HQ.out.r4.row)
            have HB9 : Hid (Below w.heap.size w w9) := Lib.hid (by rw [HW9.out]; exact below_row HQ.out.be _ _ HQ.out.ord.1)
            go_wp2_with fail
            refine bodyPost_ret (results_row_tmp3 rfl _ _ B4 25 zB _ rfl HA9.out Tryz.underlying25 rfl size_zB) rfl ⟨HB9.out, .inr ⟨HNA.out, rfl⟩⟩
        · have HNA := Lib.hid (HNOT.out (fun h => hat h.tot))
          have g2 : (sizes acc != size) = true := bne_iff_ne.2 hat
          clear hlt hkv hat
          go_wp2_with (first | (refine wpList_load_row rfl 25 (.tmp 7) rfl B7 rfl 25 zB (0, 0) _ HQ.out.r7.out Tryz.underlying25 rfl size_zB ?_) | (refine wpList_store_at rfl 25 (.tmp 4) (.tmp 181) rfl B4 zB rfl rfl 25 zB HQ.out.r4 size_zB rfl zB_one ?_))
          intro w9 HW9
          have HA9 : Hid (At w9 B4 zB 25) := Lib.hid (by rw [HW9.out]; exact HQ.out.r4.row)
          have HB9 : Hid (Below w.heap.size w w9) := Lib.hid (by rw [HW9.out]; exact below_row HQ.out.be _ _ HQ.out.ord.1)
          go_wp2_with fail
          refine bodyPost_ret (results_row_tmp3 rfl _ _ B4 25 zB _ rfl HA9.out Tryz.underlying25 rfl size_zB) rfl ⟨HB9.out, .inr ⟨HNA.out, rfl⟩⟩
  · have HNA := Lib.hid (no_head (d := d) (size := size) (fun h => hmg h.2) HZ.out.2)
    have f2 : ((d.extract 0 4).toList == [76, 75, 66, 49]) = false := beq_eq_false_iff_ne.2 (fun h => hmg (CR.str_eq (h.trans hm.symm)))
    clear hm hmg h4
    go_wp2_with (first | (refine wpList_load_row rfl 25 (.tmp 7) rfl B7 rfl 25 zB (0, 0) _ H7.out.out Tryz.underlying25 rfl size_zB ?_) | (refine wpList_store_at rfl 25 (.tmp 4) (.tmp 34) rfl B4 zB rfl rfl 25 zB A4.out size_zB rfl zB_one ?_))
    intro w9 HW9
    have HA9 : Hid (At w9 B4 zB 25) := Lib.hid (by rw [HW9.out]; exact A4.out.row)
    have HB9 : Hid (Below w.heap.size w w9) := Lib.hid (by rw [HW9.out]; exact below_row HB.out _ _ HO4.out)
    go_wp2_with fail
    refine bodyPost_ret (results_row_tmp3 rfl _ _ B4 25 zB _ rfl HA9.out Tryz.underlying25 rfl size_zB) rfl ⟨HB9.out, .inr ⟨HNA.out, rfl⟩⟩
end Go.Proofs.YtoojpfcnekpboaaGreat
