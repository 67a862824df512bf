/- Walks: a file is decoded (the reference's). Walks: equal chunks are the same (the reference's). -/
import Derived.Test.YtoojpfcnekpboaaGreatZBV
import Derived.Test.YtoojpfcnekpboaaGreatZBO
import Derived.Test.YtoojpfcnekpboaaGreatZAM
namespace Go.Proofs.YtoojpfcnekpboaaGreat
open Go.RowKit Go.Shelf

theorem fill_chunk (s : Int) (A : Option Addr) (n c : Nat) (z : Zn) (d : ByteArray) : Instr.fill (fun i => some (i * 16, 16)) ((Array.range (1 * 16)).map ((Value.agg (chC 0 none 0 0 Zn.zero ⟨#[]⟩)).cells[· % (Value.agg (chC 0 none 0 0 Zn.zero ⟨#[]⟩)).cells.size]!)) [(0, .agg (chC s A n c z d))] = some (chC s A n c z d) := by kernel_rfl
/-- A slice of one chunk. -/
theorem wpList_bsChunk {ops : Array Oper} {rest : List Oper} {op : Oper} {a : Act} {w : World} {Q : Exit → Act → World → Prop} (hg : op.guard = none) (x : Operand) (ho : op.op = .buildSlice 23 1 #[(0, x)])
    (V : Array Value) (s : Int) (A : Option Addr) (n c : Nat) (z : Zn) (d : ByteArray) (hV : V = chC s A n c z d) (hx : a.eval x = .agg V)
    (h : wpList Tryz.prog ops Q rest (a.put op.dst (.slice (some ⟨w.heap.size, 0, none⟩) 1 1)) (w.alloc (.cells V 58))) : wpList Tryz.prog ops Q (op :: rest) a w := by
  subst hV
  obtain ⟨i0, hi, hz0, hz1, hz2⟩ := info_parts info_chunkS
  refine wpList_buildSlice hg 23 58 1 #[(0, x)] ho _ i0 _ Tryz.underlying23 hi hz0 (by rw [hz1]; decide) (by rw [hz1]; decide) ?_ h
  simp only [hz1, List.map_toArray, List.map_cons, List.map_nil, hx]
  exact fill_chunk s A n c z d
set_option maxRecDepth 100000 in
set_option maxHeartbeats 4000000 in
theorem decodeR_any (s : ByteArray) (w : World) (hs : s.size ≤ 100000) :
    Calls Tryz.prog 9 #[.string s] w (DPost s w) := by
  have HY0 := Lib.hid (At.new w zB 25)
  have HB0 : Hid (Below w.heap.size w (w.alloc (.cells zB 25))) := Lib.hid ((Below.refl _ _).alloc (Nat.le_refl _) _)
  have HS := Lib.hid hs
  have hsl : (s.size : Int) ≤ 100000 := by omega
  clear hs
  obtain ⟨Y, hY⟩ : ∃ Y, w.heap.size = Y := ⟨_, rfl⟩
  rw [hY] at HY0
  have HYE := Lib.hid hY
  have HN : Hid (w.heap.size ≤ Y) := Lib.hid (by omega)
  clear hY
  go_enter Tryz.func9, Tryz.ntmps9
  go_upto_region 1 with fail
  change Code.wp _ _ _ _ (w.alloc (.cells zB 25))
  generalize w.alloc (.cells zB 25) = w0 at *
  rw [HYE.out]
  go_wp2_with fail
  refine (qread_any s w0 HS.out).mono ?_
  rintro e w1 ⟨hb, ⟨hop, A, c, rfl, hI, hIc⟩ | ⟨hop, rfl⟩⟩
  · have HY := Lib.hid (HY0.out.below hb)
    have HB := Lib.hid (HB0.out.trans (hb.mono HB0.out.size))
    have HI := Lib.hid hI
    have HIC := Lib.hid hIc
    have HDE := Lib.hid (decE_of hop)
    have HLN := Lib.hid (opR_len s)
    have HDR := Lib.hid (decR_good s)
    clear hb hI hIc hop HB0 HY0
    obtain ⟨r, hr⟩ : ∃ r, opR s = r := ⟨_, rfl⟩
    rw [hr] at HI HIC HDE HDR HLN
    rw [hr]
    clear hr
    obtain ⟨its, hits⟩ : ∃ its, r.items = its := ⟨_, rfl⟩
    rw [hits] at HI HIC HDE HDR HLN
    rw [hits]
    obtain ⟨v1, hv1⟩ : ∃ v, r.id = v := ⟨_, rfl⟩
    obtain ⟨v2, hv2⟩ : ∃ v, r.width = v := ⟨_, rfl⟩
    obtain ⟨v3, hv3⟩ : ∃ v, r.fr = v := ⟨_, rfl⟩
    rw [hv1, hv2, hv3] at HDR
    rw [hv1, hv2, hv3]
    clear hv1 hv2 hv3 hits
    have HBX := Lib.hid (At.new w1 zB 25)
    obtain ⟨V, hV⟩ : ∃ V, V = blC ⟨v1, v2, v3, []⟩ none 0 := ⟨_, rfl⟩
    rw [← hV]
    have hcs : V.size = 4 := by rw [hV]; rfl
    have HV1 : Hid ((V.all fun v => v.oneCell') = true) := Lib.hid (by rw [hV]; exact blC_one _ _ _)
    have HV := Lib.hid hV
    clear hV
    go_wp2_with (refine wpList_store_at rfl 25 (.tmp 4) (.tmp 13) rfl w1.heap.size V rfl rfl 25 zB HBX.out (by rw [hcs]; exact size_blk) (by rw [hcs]; rfl) HV1.out ?_)
    intro w2 HW2
    have HRR : Hid (Below w1.heap.size w1 w2) := Lib.hid (by rw [HW2.out]; exact below_row ((Below.refl _ _).alloc (Nat.le_refl _) _) _ _ (Nat.le_refl _))
    have HBX2 : Hid (At w2 w1.heap.size (blC ⟨v1, v2, v3, []⟩ none 0) 25) := Lib.hid (by rw [HW2.out, ← HV.out]; exact HBX.out.row)
    have HBX3 : Hid (At w2 w1.heap.size #[.int .i64 v1, .int .i64 v2, .int .i64 v3, .slice none 0 0] 25) := Lib.hid HBX2.out
    replace HI := Lib.hid (HI.out.kt (KT.below HRR.out) (KT.below HRR.out))
    have hYB : Y ≠ w1.heap.size := by have := HY.out.lt; omega
    replace HY := Lib.hid (HY.out.below HRR.out)
    have HNB : Hid (w.heap.size ≤ w1.heap.size) := Lib.hid HB.out.size
    replace HB := Lib.hid (HB.out.trans (HRR.out.mono HB.out.size))
    have HYB := Lib.hid hYB
    clear HW2 HRR HBX HBX2 hYB hcs HV1 HV
    generalize w1.heap.size = Bb at *
    have HS0 : Hid (SR (bareW w) 58 16 none 0 0 [] w2) := Lib.hid (SR.nil _ _ (be_bare HB.out))
    obtain ⟨i1, hi1, hw0, hw1, hw2⟩ := info_parts info_chunkS
    go_wp2_with fail
    go_loopw [7] (fun i wr => ∃ (k : Nat) (A2 : Option Addr) (c2 : Nat) (vs2 : List (Array Value)), k ≤ its.length ∧ i = .int .i64 k ∧ Hid (At wr Y zB 25) ∧ Hid (At wr Bb #[.int .i64 v1, .int .i64 v2, .int .i64 v3, .slice A2 k c2] 25) ∧ Hid (ItmsT wr A its) ∧ Hid (SR (bareW w) 58 16 A2 k c2 vs2 wr) ∧ Hid (ChTs wr vs2 ((its.take k).map (fullOf s))) ∧ Hid (∀ x ∈ its.take k, chE s x = 0) ∧ Hid (Below w.heap.size w wr) ∧ Hid (∀ g, A2.map (·.block) = some g → w.heap.size ≤ g)) (fun i _ => its.length + 1 - (intOf i).toNat)
    case atStart => exact ⟨0, none, 0, [], Nat.zero_le _, rfl, HY, HBX3, HI, HS0, Lib.hid (ChTs.nil _), Lib.hid (by simp), HB, Lib.hid (fun g h => by cases h)⟩
    case round =>
      clear HY HBX3 HI HB HS0
      obtain ⟨k, A2, c2, vs2, hk, rfl, HY, HBX, HI, HSC, HCT, HCH, HB, HA2⟩ := hrel
      by_cases hlt : k < its.length
      · obtain ⟨b, o, A', c', rfl, hrg, hlt2, hlc⟩ := HI.out.get k hlt
        have HRG := Lib.hid hrg
        have HLT := Lib.hid hlt2
        have HLC := Lib.hid hlc
        have HIA := Lib.hid (itE_at s its k hlt HCH.out)
        have HTK := Lib.hid (List.take_succ_eq_append_getElem hlt)
        have HCH2 : chE s its[k] = 0 → Hid (∀ x ∈ its.take (k + 1), chE s x = 0) := fun h => Lib.hid (fun x hx => by
          rw [List.take_succ_eq_append_getElem hlt] at hx
          rcases List.mem_append.1 hx with hx | hx
          · exact HCH.out x hx
          · rw [List.mem_singleton] at hx; rw [hx]; exact h)
        obtain ⟨x, hx⟩ : ∃ x, its[k] = x := ⟨_, rfl⟩
        rw [hx] at HRG HLT HLC HIA HCH2 HTK
        obtain ⟨U, hU⟩ : ∃ U, U = itC x.sig A' x.labs.length c' x.zone x.off x.size := ⟨_, rfl⟩
        rw [← hU] at HRG
        have hus : U.size = 17 := by rw [hU]; rfl
        have HU := Lib.hid hU
        have hil : (k : Int) < (its.length : Int) := by omega
        have hkm : (k : Int) ≤ 4001 := by have := HLN.out; omega
        have hnl : k + 1 ≤ 1000000 := by have := HLN.out; omega
        have HCK := Lib.hid (chunkR_any s x A' x.labs.length c' wr HS.out)
        rw [← HU.out] at HCK
        clear hU hx hrg hlt2 hlc
        go_wp2_with (refine wpList_load_mid rfl 52 (.tmp 30) rfl b (o + k * 17) rfl U.toList _ HRG.out Tryz.underlying52 rfl (by rw [Array.length_toList, hus]; exact size_item) ?_)
        refine HCK.out.mono ?_
        rintro e w4 ⟨hb, ⟨hce, rfl⟩ | ⟨hce, rfl⟩⟩
        · replace HY := Lib.hid (HY.out.below hb)
          replace HBX := Lib.hid (HBX.out.below hb)
          replace HI := Lib.hid (HI.out.kt (KT.below hb) (KT.below hb))
          replace HLT := Lib.hid (HLT.out.below hb)
          replace HB := Lib.hid (HB.out.trans (hb.mono HB.out.size))
          replace HSC := Lib.hid (HSC.out.kt (KT.below hb) (be_bare HB.out))
          replace HCT := Lib.hid (HCT.out.kt (KT.below hb))
          have HCN := HCH2 hce
          obtain ⟨T, hT⟩ : ∃ T, T = chC x.sig A' x.labs.length c' x.zone (chD s x) := ⟨_, rfl⟩
          rw [← hT]
          have hts : T.size = 16 := by rw [hT]; rfl
          have HT1 : Hid ((T.all fun v => v.oneCell') = true) := Lib.hid (by rw [hT]; exact chC_one _ _ _ _ _ _)
          have HT := Lib.hid hT
          clear hT hb HCK hus HCH2 HIA hce HRG
          have HTX := Lib.hid (At.new w4 (chC 0 none 0 0 Zn.zero ⟨#[]⟩) 58)
          go_wp2_with (refine wpList_store_at rfl 58 (.tmp 8) (.tmp 33) rfl w4.heap.size T rfl rfl 58 _ HTX.out (by rw [hts]; exact size_chunk) hts.symm HT1.out ?_)
          intro w5 HW5
          have HRR : Hid (Below w4.heap.size w4 w5) := Lib.hid (by rw [HW5.out]; exact below_row ((Below.refl _ _).alloc (Nat.le_refl _) _) _ _ (Nat.le_refl _))
          have HT5 : Hid (At w5 w4.heap.size T 58) := Lib.hid (by rw [HW5.out]; exact HTX.out.row)
          replace HY := Lib.hid (HY.out.below HRR.out)
          replace HBX := Lib.hid (HBX.out.below HRR.out)
          replace HI := Lib.hid (HI.out.kt (KT.below HRR.out) (KT.below HRR.out))
          replace HLT := Lib.hid (HLT.out.below HRR.out)
          replace HB := Lib.hid (HB.out.trans (HRR.out.mono HB.out.size))
          replace HSC := Lib.hid (HSC.out.kt (KT.below HRR.out) (be_bare HB.out))
          replace HCT := Lib.hid (HCT.out.kt (KT.below HRR.out))
          clear HW5 HRR HTX
          have e3 : w5.cell? ⟨Bb, 3, none⟩ = some (.slice A2 k c2) := HBX.out.cell 3
          go_wp2_with (first | (refine wpList_load_row rfl 58 (.tmp 8) rfl w4.heap.size rfl 58 T (0, 0) _ HT5.out.out Tryz.underlying58 rfl (by rw [hts]; exact size_chunk) ?_) | (refine wpList_bsChunk rfl (.tmp 41) rfl T _ _ _ _ _ _ HT.out rfl ?_) | (at_builtin; (refine wpList_elem rfl (.tmp 40) (.tmp 42) 23 58 i1 _ 16 120 Tryz.underlying23 hi1 hw0 hw1 hw2 rfl (by decide) rfl HSC.out T hts HT1.out rfl rfl hnl (by decide) ?_)))
          intro A4 n4 c4 l4 w6 HE4 hS4 hG4
          have HN4 : Hid (n4 = k + 1) := Lib.hid (by rw [← hS4.len, HE4.out, List.length_append, HSC.out.len]; rfl)
          have hn4 := HN4.out
          subst hn4
          have HY6 := Lib.hid (hG4.at_ HY.out (HSC.out.ty.ne HY.out (by decide)))
          have HBX6 := Lib.hid (hG4.at_ HBX.out (HSC.out.ty.ne HBX.out (by decide)))
          have HI6 := Lib.hid (HI.out.kt (hG4.kt HSC.out (by decide)) (hG4.kt HSC.out (by decide)))
          have HKL4 := Lib.hid (hG4.kt (E := 66) HSC.out (by decide))
          have HB6 := Lib.hid (hG4.below HB.out HA2.out)
          have HCT6 : Hid (ChTs w6 l4 ((its.take (k + 1)).map (fullOf s))) := Lib.hid (by rw [HE4.out, HTK.out, List.map_append]; exact (HCT.out.kt HKL4.out).snoc ⟨A', c', HT.out, HLT.out.kt HKL4.out, HLC.out⟩)
          have HA4 : Hid (∀ g, A4.map (·.block) = some g → w.heap.size ≤ g) := Lib.hid (fun g e => by
            rcases hG4.own with h | ⟨g', h, hge⟩
            · rw [h] at e; exact HA2.out g e
            · rw [h] at e
              injection e with e
              have := HB.out.size
              omega)
          have e3 : w6.cell? ⟨Bb, 3, none⟩ = some (.slice A2 k c2) := HBX6.out.cell 3
          have g3 : w6.frozen? ⟨Bb, 3, none⟩ = false := HBX6.out.free 3
          have HBX7 : Hid (At (w6.setCell ⟨Bb, 3, none⟩ (.slice A4 (k + 1) c4)) Bb #[.int .i64 v1, .int .i64 v2, .int .i64 v3, .slice A4 (k + 1) c4] 25) := Lib.hid (HBX6.out.set 3 _)
          have HY7 := Lib.hid (HY6.out.other (a := ⟨Bb, 3, none⟩) (.slice A4 (k + 1) c4) HYB.out)
          have HB7 := Lib.hid (HB6.out.setCell (p := ⟨Bb, 3, none⟩) HNB.out (.slice A4 (k + 1) c4))
          have HI7 := Lib.hid (HI6.out.kt (KT.set HBX6.out (by decide) 3 (.slice A4 (k + 1) c4)) (KT.set HBX6.out (by decide) 3 (.slice A4 (k + 1) c4)))
          have HSC7 := Lib.hid (hS4.kt (KT.set HBX6.out (by decide) 3 (.slice A4 (k + 1) c4)) (be_bare HB7.out))
          have HCT7 := Lib.hid (HCT6.out.kt (KT.set HBX6.out (by decide) 3 (.slice A4 (k + 1) c4)))
          clear hS4 hG4 HT5 hts HT1 HSC HCT HI HY HBX HB HI6 HY6 HBX6 HB6 HCT6
          go_wp2_with fail
          go_roundw
          case rel => exact ⟨k + 1, A4, c4, l4, hlt, by go_num, HY7, HBX7, HI7, HSC7, HCT7, HCN, HB7, HA4⟩
          case measure => simp [intOf]; omega
        · replace HY := Lib.hid (HY.out.below hb)
          replace HB := Lib.hid (HB.out.trans (hb.mono HB.out.size))
          have HE : Hid (decE s = chE s x) := Lib.hid (by rw [HDE.out, HIA.out hce])
          have HR0 : Hid (decR s = ⟨0, 0, 0, []⟩) := Lib.hid (decR_bad (by rw [HE.out]; exact hce))
          have d1 : (chE s x != 0) = true := bne_iff_ne.2 hce
          have HTX := Lib.hid (At.new w4 (chC 0 none 0 0 Zn.zero ⟨#[]⟩) 58)
          obtain ⟨er, her⟩ : ∃ er, chE s x = er := ⟨_, rfl⟩
          rw [her] at HE d1
          rw [her]
          clear hb HCK hus HCH2 HIA hce her HI HBX HLT HSC HCT HRG
          go_wp2_with (refine wpList_store_at rfl 58 (.tmp 8) (.tmp 33) rfl w4.heap.size #[.int .i64 0, .slice none 0 0, .int .i64 0, .int .i64 0, .int .i64 0, .int .i64 0, .int .i64 0, .int .u32 0, .int .u32 0, .int .u32 0, .int .u32 0, .int .u32 0, .int .u32 0, .int .u32 0, .int .u32 0, .string ⟨#[]⟩] rfl rfl 58 _ HTX.out size_chunk rfl (by simp [Value.oneCell']) ?_)
          intro w5 HW5
          replace HY : Hid (At w5 Y zB 25) := Lib.hid (by rw [HW5.out]; exact (HY.out.alloc _).rowOther (by have := HY.out.lt; omega))
          replace HB : Hid (Below w.heap.size w w5) := Lib.hid (by rw [HW5.out]; exact below_row (HB.out.alloc HB.out.size _) _ _ HB.out.size)
          clear HW5 HTX
          go_upto_region 9 with fail
          go_wp2_with (refine wpList_store_at rfl 25 (.tmp 2) (.tmp 37) rfl Y zB rfl rfl 25 _ HY.out size_zB rfl zB_one ?_)
          intro w9 HW9
          have HY9 : Hid (At w9 Y zB 25) := Lib.hid (by rw [HW9.out]; exact HY.out.row)
          have HB9 : Hid (Below w.heap.size w w9) := Lib.hid (by rw [HW9.out]; exact below_row HB.out _ _ HN.out)
          go_wp2_with fail
          refine bodyPost_ret (results_row_tmp rfl _ _ Y 25 zB _ rfl HY9.out Tryz.underlying25 rfl size_zB) rfl ⟨HB9.out, none, 0, ?_, ?_, ?_⟩
          · rw [HR0.out, HE.out]; rfl
          · rw [HR0.out]; exact ChksIn.nil _ _ _
          · rw [HR0.out]; exact Nat.le_refl _
      · have hke : k = its.length := by omega
        subst hke
        have hall : ∀ x ∈ its, chE s x = 0 := fun x hx => HCH.out x (by rw [List.take_of_length_le (Nat.le_refl _)]; exact hx)
        have hd0 : decE s = 0 := by rw [HDE.out]; exact itE_all s its hall
        have HD := Lib.hid (HDR.out hd0)
        have HE := Lib.hid hd0
        have HCT2 : Hid (ChTs wr vs2 (its.map (fullOf s))) := Lib.hid (by have h := HCT.out; rw [List.take_of_length_le (Nat.le_refl _)] at h; exact h)
        have HKC := Lib.hid (KT.row (E := 58) HY.out (by decide) #[.int .i64 v1, .int .i64 v2, .int .i64 v3, .slice A2 its.length c2])
        have HKL := Lib.hid (KT.row (E := 66) HY.out (by decide) #[.int .i64 v1, .int .i64 v2, .int .i64 v3, .slice A2 its.length c2])
        clear hd0 hall
        go_wp2_with (first | (refine wpList_load_row rfl 25 (.tmp 4) rfl Bb rfl 25 #[.int .i64 v1, .int .i64 v2, .int .i64 v3, .slice A2 its.length c2] (0, 0) _ HBX.out.out Tryz.underlying25 rfl size_blk ?_) | (refine wpList_store_at rfl 25 (.tmp 2) (.tmp 49) rfl Y #[.int .i64 v1, .int .i64 v2, .int .i64 v3, .slice A2 its.length c2] rfl rfl 25 _ HY.out size_blk rfl (by simp [Value.oneCell']) ?_))
        intro w9 HW9
        rw [← HW9.out] at HKC HKL
        have HY9 : Hid (At w9 Y #[.int .i64 v1, .int .i64 v2, .int .i64 v3, .slice A2 its.length c2] 25) := Lib.hid (by rw [HW9.out]; exact HY.out.row)
        have HB9 : Hid (Below w.heap.size w w9) := Lib.hid (by rw [HW9.out]; exact below_row HB.out _ _ HN.out)
        have HSC9 := Lib.hid (HSC.out.kt HKC.out (be_bare HB9.out))
        have HCT9 := Lib.hid (HCT2.out.kt HKL.out)
        go_wp2_with fail
        refine bodyPost_ret (results_row_tmp rfl _ _ Y 25 _ _ rfl HY9.out Tryz.underlying25 rfl size_blk) rfl ⟨HB9.out, A2, c2, ?_, ?_, ?_⟩
        · rw [HD.out, HE.out]
          unfold blC
          simp only [List.length_map]
          rfl
        · rw [HD.out]; exact (HSC9.out.chRow HCT9.out).rd
        · rw [HD.out]; simp only [List.length_map]; exact HSC9.out.cap
  · have HY := Lib.hid (HY0.out.below hb)
    have HB := Lib.hid (HB0.out.trans (hb.mono HB0.out.size))
    have HE := Lib.hid (decE_no hop)
    have HR0 : Hid (decR s = ⟨0, 0, 0, []⟩) := Lib.hid (decR_bad (by rw [HE.out]; exact hop))
    have d1 : (opE s != 0) = true := bne_iff_ne.2 hop
    clear hb hop HB0 HY0
    have HBX := Lib.hid (At.new w1 zB 25)
    obtain ⟨er, her⟩ : ∃ er, opE s = er := ⟨_, rfl⟩
    rw [her] at HE d1
    rw [her]
    clear her
    go_wp2_with (refine wpList_store_at rfl 25 (.tmp 4) (.tmp 13) rfl w1.heap.size zB rfl rfl 25 _ HBX.out size_zB rfl zB_one ?_)
    intro w2 HW2
    replace HY : Hid (At w2 Y zB 25) := Lib.hid (by rw [HW2.out]; exact (HY.out.alloc _).rowOther (by have := HY.out.lt; omega))
    replace HB : Hid (Below w.heap.size w w2) := Lib.hid (by rw [HW2.out]; exact below_row (HB.out.alloc HB.out.size _) _ _ HB.out.size)
    clear HW2
    go_upto_region 3 with fail
    go_wp2_with (refine wpList_store_at rfl 25 (.tmp 2) (.tmp 18) rfl Y zB rfl rfl 25 _ HY.out size_zB rfl zB_one ?_)
    intro w9 HW9
    have HY9 : Hid (At w9 Y zB 25) := Lib.hid (by rw [HW9.out]; exact HY.out.row)
    have HB9 : Hid (Below w.heap.size w w9) := Lib.hid (by rw [HW9.out]; exact below_row HB.out _ _ HN.out)
    go_wp2_with fail
    refine bodyPost_ret (results_row_tmp rfl _ _ Y 25 zB _ rfl HY9.out Tryz.underlying25 rfl size_zB) rfl ⟨HB9.out, none, 0, ?_, ?_, ?_⟩
    · rw [HR0.out, HE.out]; rfl
    · rw [HR0.out]; exact ChksIn.nil _ _ _
    · rw [HR0.out]; exact Nat.le_refl _
end Go.Proofs.YtoojpfcnekpboaaGreat

namespace Go.Proofs.YtoojpfcnekpboaaGreat
open Go.RowKit Go.Shelf

theorem wpList_load_midG {P : Program} {ops : Array Oper} {rest : List Oper} {o : Oper} {a : Act} {w : World} {Q : Exit → Act → World → Prop} (hw : Region.wanted o (yielded ops a.tmps) = true) (ty : TypeId) (x : Operand) (ho : o.op = .load ty x)
    (b off : Nat) (hx : a.eval x = .pointer (some ⟨b, off, none⟩)) (cs : List Value) (d : TypeDesc) (hc : w.rangeAt b off cs)
    (hu : P.underlying ty = some d) (hd : d.isRow = true) (hi : (P.info? ty).map (·.size) = some cs.length)
    (h : wpList P ops Q rest (a.put o.dst (.agg cs.toArray)) w) : wpList P ops Q (o :: rest) a w :=
  BigFrame.wpList_want hw fun _ hK => wp_load_mid ty x ho b off hx cs d hc hu hd hi (hK _ _ h)
theorem wpList_zeqG {ops : Array Oper} {rest : List Oper} {o : Oper} {a : Act} {w : World} {Q : Exit → Act → World → Prop} (hw : Region.wanted o (yielded ops a.tmps) = true) (x y : Operand) (t : TypeId) (ho : o.op = .binOp .eql 50 x y t) (u v : Zn)
    (hx : a.eval x = .agg u.cells) (hy : a.eval y = .agg v.cells) (b : Bool) (hb : decide (u = v) = b)
    (h : wpList Tryz.prog ops Q rest (a.put o.dst (.bool b)) w) : wpList Tryz.prog ops Q (o :: rest) a w :=
  BigFrame.wpList_want hw fun K hK => by
    have hm : Tryz.prog.eqGuardType Tryz.prog.depth 50 = false := by kernel_rfl
    unfold Oper.wp execOp
    simp only [ho, hx, hy, Sem.run_bind, run_eqGuard_agg w .eql 50 x y _ _ hm, Result.andThen_ok, zone_eql, hb, Sem.run_pure]
    exact hK _ _ h
theorem ccmp_self (x : Chk) : ccmp x x = 0 := by
  have h : cmpI x.sig x.sig = 0 := by
    unfold cmpI
    rw [if_neg (Int.lt_irrefl _), if_neg (Int.lt_irrefl _)]
  unfold ccmp orI
  rw [if_pos h, cmpL_zero.2 rfl]
set_option maxRecDepth 100000 in
set_option maxHeartbeats 1000000 in
theorem sameChunk_eq (x : Chk) (A A' : Option Addr) (c c' : Nat) (w : World) (hl : LabsIn w.heap.size w A x.labs) (hc : x.labs.length ≤ c) (hl' : LabsIn w.heap.size w A' x.labs) (hc' : x.labs.length ≤ c') (hn : x.labs.length ≤ 9223372036854775807) :
    Calls Tryz.prog 23 #[.agg (chC x.sig A x.labs.length c x.zone x.data), .agg (chC x.sig A' x.labs.length c' x.zone x.data)] w fun e w' => e = .returned (.bool true) ∧ Below w.heap.size w w' := by
  have HC := Lib.hid (fun W (h : Below w.heap.size w W) => compareR_any x x A A' c c' W ((hl.below h).mono h.size) hc ((hl'.below h).mono h.size) hc' hn)
  rw [ccmp_self] at HC
  obtain ⟨U, hU⟩ : ∃ U, U = chC x.sig A x.labs.length c x.zone x.data := ⟨_, rfl⟩
  obtain ⟨V, hV⟩ : ∃ V, V = chC x.sig A' x.labs.length c' x.zone x.data := ⟨_, rfl⟩
  rw [← hU, ← hV] at HC
  rw [← hU, ← hV]
  have hus : U.size = 16 := by rw [hU]; rfl
  have hvs : V.size = 16 := by rw [hV]; rfl
  have HUU := Lib.hid hU
  have HVV := Lib.hid hV
  have HX := Lib.hid ((At.new w U 58).alloc (.cells V 58))
  have hY := At.new (w.alloc (.cells U 58)) V 58
  have z1 : (w.alloc (.cells U 58)).heap.size = w.heap.size + 1 := by simp
  rw [z1] at hY
  have HY := Lib.hid hY
  have HB : Hid (Below w.heap.size w ((w.alloc (.cells U 58)).alloc (.cells V 58))) := Lib.hid (((Below.refl _ _).alloc (Nat.le_refl _) _).alloc (by simp) _)
  clear hU hV hY z1 hl hl' hc hc' hn
  go_enter Tryz.func23, Tryz.ntmps23
  go_upto_region 1 with fail
  generalize (w.alloc (.cells U 58)).alloc (.cells V 58) = w0 at *
  go_wp2_with (first | (refine wpList_load_row rfl 58 (.tmp 2) rfl w.heap.size rfl 58 U (0, 0) _ HX.out.out Tryz.underlying58 rfl (by rw [hus]; exact size_chunk) ?_) | (refine wpList_load_row rfl 58 (.tmp 3) rfl (w.heap.size + 1) rfl 58 V (0, 0) _ HY.out.out Tryz.underlying58 rfl (by rw [hvs]; exact size_chunk) ?_))
  refine (HC.out w0 HB.out).mono ?_
  rintro e w1 ⟨rfl, hb⟩
  have HX1 := Lib.hid (HX.out.below hb)
  have HY1 := Lib.hid (HY.out.below hb)
  have HB1 := Lib.hid (HB.out.trans (hb.mono HB.out.size))
  rw [HUU.out] at HX1
  rw [HVV.out] at HY1
  have hz1 := zone_range (range_at HX1.out)
  have hz2 := zone_range (range_at HY1.out)
  rw [Nat.zero_add] at hz1 hz2
  have HZ1 := Lib.hid hz1
  have HZ2 := Lib.hid hz2
  have d1 : w1.cell? ⟨w.heap.size, 15, none⟩ = some (.string x.data) := HX1.out.cell 15
  have d2 : w1.cell? ⟨w.heap.size + 1, 15, none⟩ = some (.string x.data) := HY1.out.cell 15
  clear hb hz1 hz2 HX HY HB HC
  go_wp2_with (first | (refine wpList_load_midG rfl 50 (.tmp 10) rfl w.heap.size 2 rfl _ _ HZ1.out Tryz.underlying50 rfl size_zone ?_) | (refine wpList_load_midG rfl 50 (.tmp 12) rfl (w.heap.size + 1) 2 rfl _ _ HZ2.out Tryz.underlying50 rfl size_zone ?_) | (refine wpList_zeqG rfl (.tmp 11) (.tmp 13) _ rfl x.zone x.zone rfl rfl true (decide_eq_true rfl) ?_))
  go_ret
  exact ⟨rfl, HB1.out⟩
end Go.Proofs.YtoojpfcnekpboaaGreat
