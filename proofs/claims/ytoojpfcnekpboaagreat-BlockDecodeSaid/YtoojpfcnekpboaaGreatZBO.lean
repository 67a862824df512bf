/- Walks: a file that is decoded (the program's). -/
import Derived.Test.YtoojpfcnekpboaaGreatZBN
namespace Go.Proofs.YtoojpfcnekpboaaGreat
open Go.RowKit Go.Shelf

theorem decR_good (s : ByteArray) (h : decE s = 0) : decR s = ⟨(opR s).id, (opR s).width, (opR s).fr, (opR s).items.map (fullOf s)⟩ := by
  unfold decR
  rw [if_pos h]
theorem blk_len (r : RB) : r.blk.chunks.length = r.items.length := by unfold RB.blk; simp
theorem blC_blk (r : RB) (A : Option Addr) (c : Nat) : blC r.blk A c = #[.int .i64 r.id, .int .i64 r.width, .int .i64 r.fr, .slice A r.items.length c] := by unfold blC RB.blk; simp
theorem decE_of {s : ByteArray} (h : opE s = 0) : decE s = itE s (opR s).items := by
  unfold decE
  rw [if_pos h]
theorem decE_no {s : ByteArray} (h : opE s ≠ 0) : decE s = opE s := by
  unfold decE
  rw [if_neg h]
theorem row_zero {w : World} {A : Option Addr} {s : ByteArray} {r : RB} (h : ChRow w A r.blk.chunks) : ChRow w A (cksAt s r.items 0) := by
  rw [cksAt_zero]
  exact h
theorem ItmsT.get {w : World} {A : Option Addr} {xs : List Itm} (h : ItmsT w A xs) (k : Nat) (hk : k < xs.length) : ∃ b o A' c', A = some ⟨b, o, none⟩ ∧ w.rangeAt b (o + k * 17) (itC (xs[k]).sig A' (xs[k]).labs.length c' (xs[k]).zone (xs[k]).off (xs[k]).size).toList ∧ LabT w A' (xs[k]).labs ∧ (xs[k]).labs.length ≤ c' := by
  obtain ⟨vs, h1, _, h3, h4⟩ := h.out
  obtain ⟨b, o, e, _, hc⟩ := h1 k (by omega)
  obtain ⟨A', c', e2, h5, h6⟩ := h4 k (by omega) hk
  refine ⟨b, o, A', c', e, fun j v hj => ?_, h5, h6⟩
  have hj' : j < 17 := by
    have := (List.getElem?_eq_some_iff.1 hj).1
    rw [Array.length_toList, itC_size] at this
    exact this
  rw [hc j hj', e2]
  simpa using hj
theorem ne_of_types {w : World} {a b : Nat} {c d : Array Value} {t u : TypeId} (h : At w a c t) (k : At w b d u) (ht : t ≠ u) : a ≠ b := fun e => by
  subst e
  have h1 := h.out
  rw [k.out] at h1
  injection h1 with h1
  injection h1 with _ h1 _
  exact ht h1.symm
theorem rLoop_len (count : Int) : ∀ (f : Nat) (a : Int) (st : RS) (acc : List Itm), (rLoop count f a st acc).1.length ≤ acc.length + f
  | 0, _, _, acc => Nat.le_refl _
  | f + 1, a, st, acc => by
    unfold rLoop
    split
    · have := rLoop_len count f (a + (rItm a st).1.size) (rItm a st).2 (acc ++ [(rItm a st).1])
      rw [List.length_append] at this
      simp at this
      omega
    · show acc.length ≤ _
      omega
theorem rBlk2_len (a : RS) : (rBlk2 a).items.length ≤ 4001 := by
  unfold rBlk2
  generalize (rNum (rNum (rNum (rNum a).2).2).2).1 = c
  generalize (if 4000 < c then (⟨(rNum (rNum (rNum (rNum a).2).2).2).2.rest, true⟩ : RS) else (rNum (rNum (rNum (rNum a).2).2).2).2) = st
  have h := rLoop_len c 4001 0 st []
  rw [List.length_nil, Nat.zero_add] at h
  exact h
theorem opR_len (s : ByteArray) : (opR s).items.length ≤ 4001 := by
  have h : opR s = rBlk2 (if (rByt 4 ⟨CR.body (dirS s), false⟩).1 = str magicB then (rByt 4 ⟨CR.body (dirS s), false⟩).2 else ⟨(rByt 4 ⟨CR.body (dirS s), false⟩).2.rest, true⟩) := rBlk_eq _
  rw [h]
  exact rBlk2_len _
theorem decR_bad {s : ByteArray} (h : decE s ≠ 0) : decR s = ⟨0, 0, 0, []⟩ := by
  unfold decR
  rw [if_neg h]
set_option maxRecDepth 100000 in
set_option maxHeartbeats 4000000 in
theorem decode_any (s : ByteArray) (w : World) (hs : s.size ≤ 100000) :
    Calls Tryz.prog 8 #[.string s] w (DPost s w) := by
  have HY0 := Lib.hid (At.new w #[.int .i64 0, .int .i64 0, .int .i64 0, .slice none 0 0] 25)
  have HB0 : Hid (Below w.heap.size w (w.alloc (.cells #[.int .i64 0, .int .i64 0, .int .i64 0, .slice none 0 0] 25))) := Lib.hid ((Below.refl _ _).alloc (Nat.le_refl _) _)
  have HS := Lib.hid hs
  have hsl : (s.size : Int) ≤ 100000 := by omega
  clear hs
  obtain ⟨Y, hY⟩ : ∃ Y, w.heap.size = Y := ⟨_, rfl⟩
  rw [hY] at HY0
  have HYE := Lib.hid hY
  have HN : Hid (w.heap.size ≤ Y) := Lib.hid (by omega)
  clear hY
  go_enter Tryz.func8, Tryz.ntmps8
  go_upto_region 1 with fail
  change Code.wp _ _ _ _ (w.alloc (.cells #[.int .i64 0, .int .i64 0, .int .i64 0, .slice none 0 0] 25))
  generalize w.alloc (.cells #[.int .i64 0, .int .i64 0, .int .i64 0, .slice none 0 0] 25) = w0 at *
  rw [HYE.out]
  go_wp2_with fail
  refine (open_any s w0 HS.out).mono ?_
  rintro e w1 ⟨hb, ⟨hop, A, c, A2, c2, rfl, hI, hIc, hC, hCc, hA2⟩ | ⟨hop, rfl⟩⟩
  · have HY := Lib.hid (HY0.out.below hb)
    have HB := Lib.hid (HB0.out.trans (hb.mono HB0.out.size))
    have HI := Lib.hid hI
    have HIC := Lib.hid hIc
    have HC := Lib.hid (row_zero (s := s) hC)
    have HCC := Lib.hid hCc
    have HDE := Lib.hid (decE_of hop)
    have HA2 : Hid (∀ k, A2.map (·.block) = some k → w.heap.size ≤ k) := Lib.hid (fun k h => by have h1 := hA2 k h; have h2 := HB0.out.size; omega)
    have HBL := Lib.hid (blk_len (opR s))
    have HLN := Lib.hid (opR_len s)
    have HDR := Lib.hid (decR_good s)
    have HCV := Lib.hid (blC_blk (opR s))
    clear hb hI hIc hC hCc hop hA2 HB0 HY0
    obtain ⟨r, hr⟩ : ∃ r, opR s = r := ⟨_, rfl⟩
    rw [hr] at HI HIC HC HCC HDE HBL HDR HCV HLN
    rw [hr, HCV.out]
    clear hr
    obtain ⟨its, hits⟩ : ∃ its, r.items = its := ⟨_, rfl⟩
    rw [hits] at HI HIC HC HCC HDE HBL HDR HLN
    rw [hits]
    obtain ⟨v1, hv1⟩ : ∃ v, r.id = v := ⟨_, rfl⟩
    obtain ⟨v2, hv2⟩ : ∃ v, r.width = v := ⟨_, rfl⟩
    obtain ⟨v3, hv3⟩ : ∃ v, r.fr = v := ⟨_, rfl⟩
    rw [hv1, hv2, hv3] at HDR
    rw [hv1, hv2, hv3]
    clear hv1 hv2 hv3 hits HCV HBL
    have HBX := Lib.hid (At.new w1 #[.int .i64 0, .int .i64 0, .int .i64 0, .slice none 0 0] 25)
    obtain ⟨V, hV⟩ : ∃ V, V = (#[.int .i64 v1, .int .i64 v2, .int .i64 v3, .slice A2 its.length c2] : Array Value) := ⟨_, rfl⟩
    rw [← hV]
    have hcs : V.size = 4 := by rw [hV]; rfl
    have HV1 : Hid ((V.all fun v => v.oneCell') = true) := Lib.hid (by rw [hV]; simp [Value.oneCell'])
    have HV := Lib.hid hV
    clear hV
    go_wp2_with (refine wpList_store_at rfl 25 (.tmp 4) (.tmp 14) rfl w1.heap.size V rfl rfl 25 _ HBX.out (by rw [hcs]; exact size_blk) hcs.symm HV1.out ?_)
    intro w2 HW2
    have HRR : Hid (Below w1.heap.size w1 w2) := Lib.hid (by rw [HW2.out]; exact below_row ((Below.refl _ _).alloc (Nat.le_refl _) _) _ _ (Nat.le_refl _))
    have HBX2 : Hid (At w2 w1.heap.size #[.int .i64 v1, .int .i64 v2, .int .i64 v3, .slice A2 its.length c2] 25) := Lib.hid (by rw [HW2.out, ← HV.out]; exact HBX.out.row)
    replace HI := Lib.hid (HI.out.kt (KT.below HRR.out) (KT.below HRR.out))
    replace HC := Lib.hid (HC.out.kt (KT.below HRR.out) (KT.below HRR.out))
    have hYB : Y ≠ w1.heap.size := by have := HY.out.lt; omega
    replace HY := Lib.hid (HY.out.below HRR.out)
    have HNB : Hid (w.heap.size ≤ w1.heap.size) := Lib.hid HB.out.size
    replace HB := Lib.hid (HB.out.trans (HRR.out.mono HB.out.size))
    have HYB := Lib.hid hYB
    clear HW2 HRR HBX hYB hcs HV1 HV
    generalize w1.heap.size = Bb at *
    go_wp2_with fail
    go_loopw [23] (fun i wr => ∃ k : Nat, k ≤ its.length ∧ i = .int .i64 k ∧ Hid (At wr Y #[.int .i64 0, .int .i64 0, .int .i64 0, .slice none 0 0] 25) ∧ Hid (At wr Bb #[.int .i64 v1, .int .i64 v2, .int .i64 v3, .slice A2 its.length c2] 25) ∧ Hid (ItmsT wr A its) ∧ Hid (ChRow wr A2 (cksAt s its k)) ∧ Hid (∀ x ∈ its.take k, chE s x = 0) ∧ Hid (Below w.heap.size w wr)) (fun i _ => its.length - (intOf i).toNat)
    case atStart => exact ⟨0, Nat.zero_le _, rfl, HY, HBX2, HI, HC, Lib.hid (by simp), HB⟩
    case round =>
      clear HY HBX2 HI HC HB
      obtain ⟨k, hk, rfl, HY, HBX, HI, HC, HCH, HB⟩ := hrel
      by_cases hlt : k < its.length
      · obtain ⟨b, o, A', c', rfl, hrg, hlt2, hlc⟩ := HI.out.get k hlt
        have HRG := Lib.hid hrg
        have HLT := Lib.hid hlt2
        have HLC := Lib.hid hlc
        obtain ⟨g, cur, hA2, hat, hth, hst⟩ := HC.out.store k (by rw [cksAt_len]; exact hlt)
        have HSTP := Lib.hid (cksAt_step s its k hlt)
        have HIA := Lib.hid (itE_at s its k hlt HCH.out)
        have HCH2 : chE s its[k] = 0 → Hid (∀ x ∈ its.take (k + 1), chE s x = 0) := fun h => Lib.hid (fun x hx => by
          rw [List.take_succ_eq_append_getElem hlt] at hx
          rcases List.mem_append.1 hx with hx | hx
          · exact HCH.out x hx
          · rw [List.mem_singleton] at hx; rw [hx]; exact h)
        obtain ⟨x, hx⟩ : ∃ x, its[k] = x := ⟨_, rfl⟩
        rw [hx] at HRG HLT HLC HSTP HIA HCH2
        obtain ⟨U, hU⟩ : ∃ U, U = itC x.sig A' x.labs.length c' x.zone x.off x.size := ⟨_, rfl⟩
        rw [← hU] at HRG
        have hus : U.size = 17 := by rw [hU]; rfl
        have HU1 : Hid ((U.all fun v => v.oneCell') = true) := Lib.hid (by rw [hU]; exact itC_one _ _ _ _ _ _ _)
        have HU := Lib.hid hU
        have HA2E := Lib.hid hA2
        have HAT := Lib.hid hat
        have HST := Lib.hid hst
        have hil : (k : Int) < (its.length : Int) := by omega
        have hkm : (k : Int) ≤ 4001 := by have := HLN.out; omega
        clear hU hx hA2 hat hth hst hrg hlt2 hlc
        go_wp2_with (first | (refine wpList_load_mid rfl 52 (.tmp 26) rfl b (o + k * 17) rfl U.toList _ HRG.out Tryz.underlying52 rfl (by rw [Array.length_toList, hus]; exact size_item) ?_) | (refine wpList_store_at rfl 52 (.tmp 8) (.tmp 27) rfl wr.heap.size U rfl rfl 52 _ (At.new _ _ _) (by rw [hus]; exact size_item) hus.symm HU1.out ?_))
        intro w3 HW3
        have HRR : Hid (Below wr.heap.size wr w3) := Lib.hid (by rw [HW3.out]; exact below_row ((Below.refl _ _).alloc (Nat.le_refl _) _) _ _ (Nat.le_refl _))
        have HX3 : Hid (At w3 wr.heap.size U 52) := Lib.hid (by rw [HW3.out]; exact (At.new _ _ _).row)
        replace HY := Lib.hid (HY.out.below HRR.out)
        replace HBX := Lib.hid (HBX.out.below HRR.out)
        replace HI := Lib.hid (HI.out.kt (KT.below HRR.out) (KT.below HRR.out))
        replace HC := Lib.hid (HC.out.kt (KT.below HRR.out) (KT.below HRR.out))
        replace HLT := Lib.hid (HLT.out.below HRR.out)
        replace HB := Lib.hid (HB.out.trans (HRR.out.mono HB.out.size))
        clear HW3 HRR HST HAT HRG
        have HCK := Lib.hid (chunk_any s x A' x.labs.length c' w3 HS.out)
        rw [← HU.out] at HCK
        go_wp2_with (refine wpList_load_row rfl 52 (.tmp 8) rfl wr.heap.size rfl 52 U (0, 0) _ HX3.out.out Tryz.underlying52 rfl (by rw [hus]; exact size_item) ?_)
        refine HCK.out.mono ?_
        rintro e w4 ⟨hb, ⟨hce, rfl⟩ | ⟨hce, rfl⟩⟩
        · replace HY := Lib.hid (HY.out.below hb)
          replace HBX := Lib.hid (HBX.out.below hb)
          replace HI := Lib.hid (HI.out.kt (KT.below hb) (KT.below hb))
          replace HC := Lib.hid (HC.out.kt (KT.below hb) (KT.below hb))
          replace HLT := Lib.hid (HLT.out.below hb)
          replace HB := Lib.hid (HB.out.trans (hb.mono HB.out.size))
          have HCN := HCH2 hce
          obtain ⟨T, hT⟩ : ∃ T, T = chC x.sig A' x.labs.length c' x.zone (chD s x) := ⟨_, rfl⟩
          rw [← hT]
          have hts : T.size = 16 := by rw [hT]; rfl
          have HT1 : Hid ((T.all fun v => v.oneCell') = true) := Lib.hid (by rw [hT]; exact chC_one _ _ _ _ _ _)
          have HT := Lib.hid hT
          clear hT hb HCK HX3 hus HU1 HCH2 HIA hce
          have HTX := Lib.hid (At.new w4 #[.int .i64 0, .slice none 0 0, .int .i64 0, .int .i64 0, .int .i64 0, .int .i64 0, .int .i64 0, .int .u32 0, .int .u32 0, .int .u32 0, .int .u32 0, .int .u32 0, .int .u32 0, .int .u32 0, .int .u32 0, .string ⟨#[]⟩] 58)
          go_wp2_with (refine wpList_store_at rfl 58 (.tmp 9) (.tmp 32) rfl w4.heap.size T rfl rfl 58 _ HTX.out (by rw [hts]; exact size_chunk) hts.symm HT1.out ?_)
          intro w5 HW5
          have HRR : Hid (Below w4.heap.size w4 w5) := Lib.hid (by rw [HW5.out]; exact below_row ((Below.refl _ _).alloc (Nat.le_refl _) _) _ _ (Nat.le_refl _))
          have HT5 : Hid (At w5 w4.heap.size T 58) := Lib.hid (by rw [HW5.out]; exact HTX.out.row)
          replace HY := Lib.hid (HY.out.below HRR.out)
          replace HBX := Lib.hid (HBX.out.below HRR.out)
          replace HI := Lib.hid (HI.out.kt (KT.below HRR.out) (KT.below HRR.out))
          replace HC := Lib.hid (HC.out.kt (KT.below HRR.out) (KT.below HRR.out))
          replace HLT := Lib.hid (HLT.out.below HRR.out)
          replace HB := Lib.hid (HB.out.trans (HRR.out.mono HB.out.size))
          clear HW5 HRR HTX
          obtain ⟨g2, cur2, hA3, hat, hth, hst⟩ := HC.out.store k (by rw [cksAt_len]; exact hlt)
          have e3 : w5.cell? ⟨Bb, 3, none⟩ = some (.slice A2 its.length c2) := HBX.out.cell 3
          have HHA := HA2.out
          rw [hA3] at e3 HHA
          have hg2 : w.heap.size ≤ g2 := HHA g2 rfl
          have HC6 : Hid (ChRow (w5.setCells g2 (k * 16) T.toList) A2 (cksAt s its (k + 1))) := Lib.hid (by rw [← HSTP.out]; exact hst T _ hts ⟨A', c', HT.out, HLT.out, HLC.out⟩)
          have HK6 : Hid (Keep g2 w5 (w5.setCells g2 (k * 16) T.toList)) := Lib.hid (Keep.setCellsP _ _ _ (Keep.refl _ _))
          have HY6 : Hid (At (w5.setCells g2 (k * 16) T.toList) Y #[.int .i64 0, .int .i64 0, .int .i64 0, .slice none 0 0] 25) := Lib.hid (HY.out.keep HK6.out (ne_of_types HY.out hat (by decide)))
          have HBX6 : Hid (At (w5.setCells g2 (k * 16) T.toList) Bb #[.int .i64 v1, .int .i64 v2, .int .i64 v3, .slice A2 its.length c2] 25) := Lib.hid (HBX.out.keep HK6.out (ne_of_types HBX.out hat (by decide)))
          have HI6 := Lib.hid (HI.out.kt (KT.keep HK6.out hat (by decide)) (KT.keep HK6.out hat (by decide)))
          have HB6 := Lib.hid (HB.out.trans (HK6.out.toBelow hg2 HB.out.size))
          have HTH := Lib.hid hth
          clear hat hth hst HHA hg2 hA3 HK6
          go_wp2_with (first | (refine wpList_load_row rfl 58 (.tmp 9) rfl w4.heap.size rfl 58 T (0, 0) _ HT5.out.out Tryz.underlying58 rfl (by rw [hts]; exact size_chunk) ?_) | (refine wpList_store_midH rfl 58 (.tmp 42) (.tmp 41) rfl g2 (k * 16) T rfl rfl (by rw [hts]; exact HTH.out) (by rw [hts]; exact size_chunk) HT1.out ?_))
          intro w6 HW6
          rw [← HW6.out] at HC6 HY6 HBX6 HI6 HB6
          go_wp2_with fail
          go_roundw
          case rel => exact ⟨k + 1, hlt, by go_num, HY6, HBX6, HI6, HC6, HCN, HB6⟩
          case measure => simp [intOf]; omega
        · replace HY := Lib.hid (HY.out.below hb)
          replace HB := Lib.hid (HB.out.trans (hb.mono HB.out.size))
          have HE : Hid (decE s = chE s x) := Lib.hid (by rw [HDE.out, HIA.out hce])
          have HR0 : Hid (decR s = ⟨0, 0, 0, []⟩) := Lib.hid (decR_bad (by rw [HE.out]; exact hce))
          have d1 : (chE s x != 0) = true := bne_iff_ne.2 hce
          have HTX := Lib.hid (At.new w4 #[.int .i64 0, .slice none 0 0, .int .i64 0, .int .i64 0, .int .i64 0, .int .i64 0, .int .i64 0, .int .u32 0, .int .u32 0, .int .u32 0, .int .u32 0, .int .u32 0, .int .u32 0, .int .u32 0, .int .u32 0, .string ⟨#[]⟩] 58)
          obtain ⟨er, her⟩ : ∃ er, chE s x = er := ⟨_, rfl⟩
          rw [her] at HE d1
          rw [her]
          clear hb HCK HX3 hus HU1 HCH2 HIA hce her HI HC HBX HLT
          go_wp2_with (refine wpList_store_at rfl 58 (.tmp 9) (.tmp 32) rfl w4.heap.size #[.int .i64 0, .slice none 0 0, .int .i64 0, .int .i64 0, .int .i64 0, .int .i64 0, .int .i64 0, .int .u32 0, .int .u32 0, .int .u32 0, .int .u32 0, .int .u32 0, .int .u32 0, .int .u32 0, .int .u32 0, .string ⟨#[]⟩] rfl rfl 58 _ HTX.out size_chunk rfl (by simp [Value.oneCell']) ?_)
          intro w5 HW5
          replace HY : Hid (At w5 Y #[.int .i64 0, .int .i64 0, .int .i64 0, .slice none 0 0] 25) := Lib.hid (by rw [HW5.out]; exact (HY.out.alloc _).rowOther (by have := HY.out.lt; omega))
          replace HB : Hid (Below w.heap.size w w5) := Lib.hid (by rw [HW5.out]; exact below_row (HB.out.alloc HB.out.size _) _ _ HB.out.size)
          clear HW5 HTX
          go_upto_region 9 with fail
          go_wp2_with (refine wpList_store_at rfl 25 (.tmp 2) (.tmp 36) rfl Y #[.int .i64 0, .int .i64 0, .int .i64 0, .slice none 0 0] rfl rfl 25 _ HY.out size_blk rfl (by simp [Value.oneCell']) ?_)
          intro w9 HW9
          have HY9 : Hid (At w9 Y #[.int .i64 0, .int .i64 0, .int .i64 0, .slice none 0 0] 25) := Lib.hid (by rw [HW9.out]; exact HY.out.row)
          have HB9 : Hid (Below w.heap.size w w9) := Lib.hid (by rw [HW9.out]; exact below_row HB.out _ _ HN.out)
          go_wp2_with fail
          refine bodyPost_ret (results_row_tmp rfl _ _ Y 25 _ _ rfl HY9.out Tryz.underlying25 rfl size_blk) rfl ⟨HB9.out, none, 0, ?_, ?_, ?_⟩
          · rw [HR0.out, HE.out]; rfl
          · rw [HR0.out]; exact ChksIn.nil _ _ _
          · rw [HR0.out]; exact Nat.le_refl _
      · have hke : k = its.length := by omega
        subst hke
        have hall : ∀ x ∈ its, chE s x = 0 := fun x hx => HCH.out x (by rw [List.take_of_length_le (Nat.le_refl _)]; exact hx)
        have hd0 : decE s = 0 := by rw [HDE.out]; exact itE_all s its hall
        have HD := Lib.hid (HDR.out hd0)
        have HE := Lib.hid hd0
        have HC2 : Hid (ChRow wr A2 (its.map (fullOf s))) := Lib.hid (by rw [← cksAt_end]; exact HC.out)
        have HKC := Lib.hid (KT.row (E := 58) HY.out (by decide) #[.int .i64 v1, .int .i64 v2, .int .i64 v3, .slice A2 its.length c2])
        have HKL := Lib.hid (KT.row (E := 66) HY.out (by decide) #[.int .i64 v1, .int .i64 v2, .int .i64 v3, .slice A2 its.length c2])
        clear hd0 hall
        go_wp2_with (first | (refine wpList_load_row rfl 25 (.tmp 4) rfl Bb rfl 25 #[.int .i64 v1, .int .i64 v2, .int .i64 v3, .slice A2 its.length c2] (0, 0) _ HBX.out.out Tryz.underlying25 rfl size_blk ?_) | (refine wpList_store_at rfl 25 (.tmp 2) (.tmp 48) rfl Y #[.int .i64 v1, .int .i64 v2, .int .i64 v3, .slice A2 its.length c2] rfl rfl 25 _ HY.out size_blk rfl (by simp [Value.oneCell']) ?_))
        intro w9 HW9
        rw [← HW9.out] at HKC HKL
        have HY9 : Hid (At w9 Y #[.int .i64 v1, .int .i64 v2, .int .i64 v3, .slice A2 its.length c2] 25) := Lib.hid (by rw [HW9.out]; exact HY.out.row)
        have HB9 : Hid (Below w.heap.size w w9) := Lib.hid (by rw [HW9.out]; exact below_row HB.out _ _ HN.out)
        have HC9 := Lib.hid (HC2.out.kt HKL.out HKC.out)
        go_wp2_with fail
        refine bodyPost_ret (results_row_tmp rfl _ _ Y 25 _ _ rfl HY9.out Tryz.underlying25 rfl size_blk) rfl ⟨HB9.out, A2, c2, ?_, ?_, ?_⟩
        · rw [HD.out, HE.out]
          unfold blC
          simp only [List.length_map]
          rfl
        · rw [HD.out]; exact HC9.out.rd
        · rw [HD.out]; simp only [List.length_map]; exact HCC.out
  · have HY := Lib.hid (HY0.out.below hb)
    have HB := Lib.hid (HB0.out.trans (hb.mono HB0.out.size))
    have HE := Lib.hid (decE_no hop)
    have HR0 : Hid (decR s = ⟨0, 0, 0, []⟩) := Lib.hid (decR_bad (by rw [HE.out]; exact hop))
    have d1 : (opE s != 0) = true := bne_iff_ne.2 hop
    clear hb hop HB0 HY0
    have HBX := Lib.hid (At.new w1 #[.int .i64 0, .int .i64 0, .int .i64 0, .slice none 0 0] 25)
    obtain ⟨V, hV⟩ : ∃ V, V = blC ⟨0, 0, 0, []⟩ none 0 := ⟨_, rfl⟩
    rw [← hV]
    have hcs : V.size = 4 := by rw [hV]; rfl
    have HV1 : Hid ((V.all fun v => v.oneCell') = true) := Lib.hid (by rw [hV]; exact blC_one _ _ _)
    clear hV
    obtain ⟨er, her⟩ : ∃ er, opE s = er := ⟨_, rfl⟩
    rw [her] at HE d1
    rw [her]
    clear her
    go_wp2_with (refine wpList_store_at rfl 25 (.tmp 4) (.tmp 14) rfl w1.heap.size V rfl rfl 25 _ HBX.out (by rw [hcs]; exact size_blk) hcs.symm HV1.out ?_)
    intro w2 HW2
    replace HY : Hid (At w2 Y #[.int .i64 0, .int .i64 0, .int .i64 0, .slice none 0 0] 25) := Lib.hid (by rw [HW2.out]; exact (HY.out.alloc _).rowOther (by have := HY.out.lt; omega))
    replace HB : Hid (Below w.heap.size w w2) := Lib.hid (by rw [HW2.out]; exact below_row (HB.out.alloc HB.out.size _) _ _ HB.out.size)
    clear HW2
    go_upto_region 3 with fail
    go_wp2_with (refine wpList_store_at rfl 25 (.tmp 2) (.tmp 19) rfl Y #[.int .i64 0, .int .i64 0, .int .i64 0, .slice none 0 0] rfl rfl 25 _ HY.out size_blk rfl (by simp [Value.oneCell']) ?_)
    intro w9 HW9
    have HY9 : Hid (At w9 Y #[.int .i64 0, .int .i64 0, .int .i64 0, .slice none 0 0] 25) := Lib.hid (by rw [HW9.out]; exact HY.out.row)
    have HB9 : Hid (Below w.heap.size w w9) := Lib.hid (by rw [HW9.out]; exact below_row HB.out _ _ HN.out)
    go_wp2_with fail
    refine bodyPost_ret (results_row_tmp rfl _ _ Y 25 _ _ rfl HY9.out Tryz.underlying25 rfl size_blk) rfl ⟨HB9.out, none, 0, ?_, ?_, ?_⟩
    · rw [HR0.out, HE.out]; rfl
    · rw [HR0.out]; exact ChksIn.nil _ _ _
    · rw [HR0.out]; exact Nat.le_refl _
end Go.Proofs.YtoojpfcnekpboaaGreat
