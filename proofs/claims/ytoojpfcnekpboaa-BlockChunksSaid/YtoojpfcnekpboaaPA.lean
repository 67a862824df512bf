/- The walk of the law BlockChunks. -/
import Derived.Test.YtoojpfcnekpboaaNB
namespace Go.Proofs.Ytoojpfcnekpboaa
open Go.RowKit Go.Shelf

theorem wpList_zneqG {ops : Array Oper} {rest : List Oper} {o : Oper} {a : Act} {w : World} {Q : Exit → Act → World → Prop} (hw : Region.wanted o (yielded ops a.tmps) = true) (x y : Operand) (t : TypeId) (ho : o.op = .binOp .neq 44 x y t) (u v : Zn)
    (hx : a.eval x = .agg u.cells) (hy : a.eval y = .agg v.cells) (b : Bool) (hb : (!decide (u = v)) = b)
    (h : wpList Try.prog ops Q rest (a.put o.dst (.bool b)) w) : wpList Try.prog ops Q (o :: rest) a w :=
  BigFrame.wpList_want hw fun K hK => by
    have hm : Try.prog.eqGuardType Try.prog.depth 44 = false := by kernel_rfl
    unfold Oper.wp execOp
    simp only [ho, hx, hy, Sem.run_bind, run_eqGuard_agg w .neq 44 x y _ _ hm, Result.andThen_ok, zone_neq, hb, Sem.run_pure]
    exact hK _ _ h
theorem wpList_load_midF {P : Program} {ops : Array Oper} {rest : List Oper} {o : Oper} {a : Act} {w : World} {Q : Exit → Act → World → Prop} (ty : TypeId) (x : Operand) (ho : o.op = .load ty x) (hw : Region.wanted o (yielded ops a.tmps) = true)
    (b off : Nat) (hx : a.eval x = .pointer (some ⟨b, off, none⟩)) (cs : List Value) (d : TypeDesc) (hc : w.rangeAt b off cs)
    (hu : P.underlying ty = some d) (hd : d.isRow = true) (hi : (P.info? ty).map (·.size) = some cs.length)
    (h : wpList P ops Q rest (a.put o.dst (.agg cs.toArray)) w) : wpList P ops Q (o :: rest) a w := wpList_load_midG hw ty x ho b off hx cs d hc hu hd hi h
theorem wpList_zneqF {ops : Array Oper} {rest : List Oper} {o : Oper} {a : Act} {w : World} {Q : Exit → Act → World → Prop} (x y : Operand) (t : TypeId) (ho : o.op = .binOp .neq 44 x y t) (hw : Region.wanted o (yielded ops a.tmps) = true) (u v : Zn)
    (hx : a.eval x = .agg u.cells) (hy : a.eval y = .agg v.cells) (b : Bool) (hb : (!decide (u = v)) = b)
    (h : wpList Try.prog ops Q rest (a.put o.dst (.bool b)) w) : wpList Try.prog ops Q (o :: rest) a w := wpList_zneqG hw x y t ho u v hx hy b hb h
theorem wf8c {a : Int} (h : (Lit.int .u8 a).wf = true) : ∃ c : UInt8, a = (c.toNat : Int) := by
  have h := wf8 h
  exact ⟨UInt8.ofNat a.toNat, by rw [UInt8.toNat_ofNat']; omega⟩
theorem itz_range {w : World} {b o : Nat} {s : Int} {A : Option Addr} {n c : Nat} {z : Zn} {f q : Int} (h : w.rangeAt b o (itC s A n c z f q).toList) : w.rangeAt b (o + 2) z.cells.toList := fun j v hj => by
  have hj' : j < 13 := by
    have := (List.getElem?_eq_some_iff.1 hj).1
    simpa [Zn.cells] using this
  have : (itC s A n c z f q).toList[2 + j]? = some v := by
    rw [← hj]
    rcases j with _ | _ | _ | _ | _ | _ | _ | _ | _ | _ | _ | _ | _ | j
    all_goals first | rfl | omega
  have h2 := h (2 + j) v this
  rw [← Nat.add_assoc] at h2
  exact h2
theorem range_below {w w' : World} {b o : Nat} {cs : List Value} (h : w.rangeAt b o cs) (hb : b < w.heap.size) (hB : Below w.heap.size w w') : w'.rangeAt b o cs := fun j v hj => (hB.cell (p := ⟨b, o + j, none⟩) hb).trans (h j v hj)
/-- What is known of an item of a block's file. -/
theorem items_read (b : Blk) (hv : bchk b = 0) (hf : Fine b) (F : ByteArray) (h : bs F = fileB b) (k : Nat) (y : Chk) (x : Itm) (hy : b.chunks[k]? = some y) (hx : (itmFrom 0 b.chunks)[k]? = some x) :
    (x.sig = y.sig ∧ x.labs = y.labs ∧ x.zone = y.zone) ∧ 0 ≤ x.off ∧ 4 ≤ x.size ∧ x.off + x.size ≤ F.size ∧ chE F x = 0 ∧ chD F x = y.data := by
  obtain ⟨d1, d2⟩ := dec_file b hv hf F h
  obtain ⟨o1, _, _, _, o5⟩ := file_opens b hv hf F h
  have hi : itE F (opR F).items = 0 := by rw [← decE_of o1]; exact d1
  have hm := List.mem_of_getElem? hx
  have hc := itE_zero F _ hi x (by rw [o5]; exact hm)
  obtain ⟨c1, _, c3, _⟩ := chE_zero F x hc
  obtain ⟨z, _, _, _, _, hq⟩ := itmFrom_mem _ _ _ hm
  have he : b.chunks = (itmFrom 0 b.chunks).map (fullOf F) := by
    have := congrArg Blk.chunks (decR_good F d1)
    rw [d2, o5] at this
    exact this
  have hye : y = fullOf F x := by
    rw [he, List.getElem?_map, hx] at hy
    exact (Option.some.inj hy).symm
  rw [hye]
  exact ⟨⟨rfl, rfl, rfl⟩, c1, by omega, c3, hc, rfl⟩
theorem prt_same (F : ByteArray) (k : Nat) (c : UInt8) (o q : Int) (ho : 0 ≤ o) (_hq : 0 ≤ q) (hk : (k : Int) < o ∨ o + q ≤ k) : prtS (str ((bs F).set k c)) o q = prtS F o q := by
  refine bs_inj ?_
  unfold prtS
  rw [bs_ext, bs_ext, bs_str, List.drop_set]
  split
  · rfl
  · rw [List.take_set, List.set_eq_of_length_le]
    rw [List.length_take]
    omega
/-- An item is read from each text that has its bytes. -/
theorem item_kept (F : ByteArray) (k : Nat) (c : UInt8) (x : Itm) (hk : (k : Int) < x.off ∨ x.off + x.size ≤ k) (h : chE F x = 0) : chE (str ((bs F).set k c)) x = 0 ∧ chD (str ((bs F).set k c)) x = chD F x := by
  obtain ⟨h1, h2, h3, h4⟩ := chE_zero F x h
  have hp := prt_same F k c x.off x.size h1 h2 hk
  have hs : (str ((bs F).set k c)).size = F.size := by rw [str_size, List.length_set, bs_length]
  refine ⟨?_, by unfold chD; rw [hp]⟩
  unfold chE at h ⊢
  rw [hp, hs]
  exact h
set_option maxRecDepth 100000 in
set_option maxHeartbeats 4000000 in
theorem lawChunks_any (b : Blk) (A : Option Addr) (c : Nat) (pos : Nat) (hpos : pos < 65536) (cb : UInt8) (w : World) (hB : BlkOk w b A c) :
    Calls Try.prog 6 #[.agg (blC b A c), .int .u16 pos, .int .u8 cb.toNat] w fun e w' => e = .returned (.bool true) ∧ Below w.heap.size w w' := by
  have hat := At.new w (blC b A c) 24
  have hb0 : Below w.heap.size w (w.alloc (.cells (blC b A c) 24)) := (Below.refl _ _).alloc (Nat.le_refl _) _
  have HB := Lib.hid hb0
  have HAT := Lib.hid hat
  have HG := Lib.hid (fun (W : World) (h : Below w.heap.size w W) => greatB_any b A c W ((hB.rd.below h).mono h.size) hB.cap (fun x hx => (hB.labs x hx).1) hB.len)
  have HEN := Lib.hid (fun (hf : Fine b) (W : World) (h : Below w.heap.size w W) => encode_any b A c W ((hB.rd.below h).mono h.size) hB.cap hf.mid)
  have HFI := Lib.hid (fun (h : bgreat b = false) => Fine.of h hB.zone)
  have HBB := Lib.hid hB
  obtain ⟨V, hV⟩ : ∃ V, V = blC b A c := ⟨_, rfl⟩
  rw [← hV] at HAT HB HG HEN
  rw [← hV]
  have hvs : V.size = 4 := by rw [hV]; rfl
  have HV := Lib.hid hV
  have hpi : (pos : Int) < 65536 := by omega
  clear hat hb0 hB hV hpos
  go_enter Try.func6, Try.ntmps6
  go_upto_region 1 with fail
  generalize w.alloc (.cells V 24) = w0 at *
  go_wp2_with (refine wpList_load_row rfl 24 (.tmp 3) rfl w.heap.size rfl 24 V (0, 0) _ HAT.out.out Try.underlying24 rfl (by rw [hvs]; exact size_blk) ?_)
  refine (HG.out w0 HB.out).mono ?_
  rintro e w1 ⟨rfl, hb⟩
  replace HAT := Lib.hid (HAT.out.below hb)
  replace HB := Lib.hid (HB.out.trans (hb.mono HB.out.size))
  clear hb HG
  by_cases hg : bgreat b = true
  · rw [hg]
    clear hg HEN HFI
    go_wp2_with fail
    refine (awake_any w1).mono ?_
    rintro e w2 ⟨rfl, hb⟩
    have HB2 := Lib.hid (HB.out.trans (hb.mono HB.out.size))
    clear hb
    go_wp2_with fail
    go_ret
    exact ⟨rfl, HB2.out⟩
  have hg2 : bgreat b = false := by simpa using hg
  have hf := HFI.out hg2
  have HEN2 := Lib.hid (HEN.out hf)
  have HF := Lib.hid hf
  rw [hg2]
  clear hg hg2 hf HEN HFI
  by_cases hz : bchk b = 0
  · have HR : Hid (encB b = (str (fileB b), 0)) := Lib.hid (by unfold encB; rw [if_pos hz])
    rw [HR.out] at HEN2
    simp only [pairV] at HEN2
    obtain ⟨F, hF⟩ : ∃ F, str (fileB b) = F := ⟨_, rfl⟩
    have hfl := fileB_len20 b
    have HFE : Hid (bs F = fileB b) := Lib.hid (by rw [← hF, bs_str])
    have HFO := Lib.hid (file_opens b hz HF.out F HFE.out)
    have HRD := Lib.hid (items_read b hz HF.out F HFE.out)
    have hfs : F.size = (fileB b).length := by rw [← bs_length, HFE.out]
    have hfx : F.size ≤ 71400 := by rw [hfs]; exact HF.out.file
    have hfy : 20 ≤ F.size := by omega
    have HFX : Hid (F.size ≤ 100000) := Lib.hid (by omega)
    rw [hF] at HEN2
    clear hF hfl hfs hz HR
    go_wp2_with (refine wpList_load_row rfl 24 (.tmp 3) rfl w.heap.size rfl 24 V (0, 0) _ HAT.out.out Try.underlying24 rfl (by rw [hvs]; exact size_blk) ?_)
    refine (HEN2.out w1 HB.out).mono ?_
    rintro e w2 ⟨rfl, hb⟩
    replace HAT := Lib.hid (HAT.out.below hb)
    replace HB := Lib.hid (HB.out.trans (hb.mono HB.out.size))
    clear hb HEN2
    obtain ⟨q, hq⟩ : ∃ q, q = pos % F.size := ⟨_, rfl⟩
    have hqf : q < F.size := by rw [hq]; exact Nat.mod_lt _ (by omega)
    have hmod : (pos : Int) % (F.size : Int) = (q : Int) := by rw [hq, Int.natCast_emod]
    have htmod : Int.tmod (pos : Int) (F.size : Int) = (q : Int) := by rw [Int.tmod_eq_emod_of_nonneg (by omega)]; exact hmod
    have HMOD := Lib.hid (And.intro hmod htmod)
    have HQF := Lib.hid hqf
    have HFS := Lib.hid (And.intro hfx hfy)
    clear hq hqf hmod htmod hfx hfy
    go_wp2_with fail
    refine (dirOf_any F w2 HFX.out).mono ?_
    unfold DrPost
    obtain ⟨o1, o2, o3, _, o5⟩ := HFO.out
    rw [o1, o2, o3, o5, itmFrom_len]
    clear o1 o2 o3 o5
    rintro e w3 ⟨hb, ⟨_, A3, c3, rfl, hit, hic⟩ | ⟨hno, _⟩⟩
    case inr => exact absurd rfl hno
    replace HAT := Lib.hid (HAT.out.below hb)
    rw [HV.out] at HAT
    replace HB := Lib.hid (HB.out.trans (hb.mono HB.out.size))
    have HIT := Lib.hid hit
    have x3 : w3.cell? ⟨w.heap.size, 3, none⟩ = some (.slice A b.chunks.length c) := HAT.out.cell 3
    have hfew : (b.chunks.length : Int) ≤ 8 := by have := HF.out.few; omega
    clear hb hit hic HFO HF HFE HV hvs
    go_upto_region 9 with fail
    clear x3
    go_wp2_with fail
    go_loopw [50] (fun i wr => ∃ k : Nat, k ≤ b.chunks.length ∧ i = .int .i64 k ∧ Hid (ItmsT wr A3 (itmFrom 0 b.chunks)) ∧ Hid (Below w.heap.size w wr) ∧ Hid (At wr w.heap.size (blC b A c) 24)) (fun i _ => b.chunks.length - (intOf i).toNat)
    case atStart => exact ⟨0, Nat.zero_le _, rfl, HIT, HB, HAT⟩
    case round =>
      clear HIT HB HAT
      obtain ⟨k, hk, rfl, HIT, HB, HAT⟩ := hrel
      have hkm : (k : Int) ≤ 8 := by omega
      by_cases hlt : k < b.chunks.length
      · have hlt' : k < (itmFrom 0 b.chunks).length := by rw [itmFrom_len]; exact hlt
        obtain ⟨g, o, A', c', hA3, hrg, hlab, hlc⟩ := HIT.out.get k hlt'
        obtain ⟨g2, o2, A2, c2, hA, hg2, hrg2, hlb2, hcl2⟩ := ((HBB.out.rd.below HB.out).mono HB.out.size).at_ k hlt
        have hrd := HRD.out k _ _ (List.getElem?_eq_getElem hlt) (List.getElem?_eq_getElem hlt')
        have hln := (HBB.out.labs _ (List.getElem_mem hlt)).1
        obtain ⟨x, hx⟩ : ∃ x, (itmFrom 0 b.chunks)[k] = x := ⟨_, rfl⟩
        obtain ⟨y, hy⟩ : ∃ y, b.chunks[k] = y := ⟨_, rfl⟩
        rw [hx, hy] at hrd
        rw [hx] at hrg hlab hlc
        rw [hy] at hrg2 hlb2 hcl2 hln
        clear hx hy
        obtain ⟨hxy, ho0, hq4, hoq, hce, hcd⟩ := hrd
        rw [hxy.1, hxy.2.1, hxy.2.2] at hrg
        rw [hxy.2.1] at hlab hlc
        have HXY := Lib.hid hxy
        obtain ⟨Y, hY⟩ : ∃ Y, Y = itC y.sig A' y.labs.length c' y.zone x.off x.size := ⟨_, rfl⟩
        rw [← hY] at hrg
        obtain ⟨U, hU⟩ : ∃ U, U = chC y.sig A2 y.labs.length c2 y.zone y.data := ⟨_, rfl⟩
        rw [← hU] at hrg2
        have HRG := Lib.hid hrg
        have HRG2 := Lib.hid hrg2
        have hys : Y.size = 17 := by rw [hY]; rfl
        have hus : U.size = 16 := by rw [hU]; rfl
        have HY1 : Hid ((Y.all fun v => v.oneCell') = true) := Lib.hid (by rw [hY]; exact itC_one _ _ _ _ _ _ _)
        have HU1 : Hid ((U.all fun v => v.oneCell') = true) := Lib.hid (by rw [hU]; exact chC_one _ _ _ _ _ _)
        have HYE := Lib.hid hY
        have HUE := Lib.hid hU
        have HS5 := Lib.hid (fun (W : World) (h : Below wr.heap.size wr W) => same05_any A' A2 c' c2 y.labs y.labs wr.heap.size W (hlab.rd.below h) (hlb2.below h) hlc hcl2 hln)
        have HSAME := Lib.hid (fun (W : World) (h : Below wr.heap.size wr W) => sameChunk_eq y A' A2 c' c2 W ((hlab.rd.below h).mono h.size) hlc ((hlb2.below h).mono h.size) hcl2 hln)
        have HBND := Lib.hid (And.intro ho0 (And.intro hq4 hoq))
        have HCEF := Lib.hid (And.intro hce hcd)
        have hil : (k : Int) < (b.chunks.length : Int) := by omega
        have HAE := Lib.hid hA
        have HG2 := Lib.hid hg2
        subst hA3
        clear hrg hrg2 hlab hlc hlb2 hcl2 hg2 hln hxy ho0 hq4 hoq hce hcd hY hU hA
        go_upto_region 11 with fail
        go_wp2_with (first | (refine wpList_load_mid rfl 46 (.tmp 53) rfl g (o + k * 17) rfl Y.toList _ HRG.out Try.underlying46 rfl (by rw [Array.length_toList, hys]; exact size_item) ?_) | (refine wpList_store_at rfl 46 (.tmp 14) (.tmp 54) rfl wr.heap.size Y rfl rfl 46 _ (At.new _ _ _) (by rw [hys]; exact size_item) hys.symm HY1.out ?_))
        intro w7 HW7
        have HR : Hid (Below wr.heap.size wr w7) := Lib.hid (by rw [HW7.out]; exact below_row ((Below.refl _ _).alloc (Nat.le_refl _) _) _ _ (Nat.le_refl _))
        have HX : Hid (At w7 wr.heap.size Y 46) := Lib.hid (by rw [HW7.out]; exact (At.new _ _ _).row)
        replace HAT := Lib.hid (HAT.out.below HR.out)
        have HRG3 : Hid (w7.rangeAt g2 (o2 + k * 16) U.toList) := Lib.hid (by
          exact range_below HRG2.out HG2.out HR.out)
        have x3 : w7.cell? ⟨w.heap.size, 3, none⟩ = some (.slice (some ⟨g2, o2, none⟩) b.chunks.length c) := by rw [← HAE.out]; exact HAT.out.cell 3
        clear HW7 HRG HRG2
        go_wp2_with (first | (refine wpList_load_mid rfl 49 (.tmp 58) rfl g2 (o2 + k * 16) rfl U.toList _ HRG3.out Try.underlying49 rfl (by rw [Array.length_toList, hus]; exact size_chunk) ?_) | (refine wpList_store_at rfl 49 (.tmp 15) (.tmp 59) rfl w7.heap.size U rfl rfl 49 _ (At.new _ _ _) (by rw [hus]; exact size_chunk) hus.symm HU1.out ?_))
        intro w8 HW8
        have HRR : Hid (Below w7.heap.size w7 w8) := Lib.hid (by rw [HW8.out]; exact below_row ((Below.refl _ _).alloc (Nat.le_refl _) _) _ _ (Nat.le_refl _))
        have HN : Hid (At w8 w7.heap.size U 49) := Lib.hid (by rw [HW8.out]; exact (At.new _ _ _).row)
        have hbn : wr.heap.size < w7.heap.size := HX.out.lt
        replace HAT := Lib.hid (HAT.out.below HRR.out)
        replace HX := Lib.hid (HX.out.below HRR.out)
        replace HR := Lib.hid (HR.out.trans (HRR.out.mono HR.out.size))
        clear HW8 HRR HRG3 x3 HU1
        generalize w7.heap.size = Bn at *
        have HNB := Lib.hid hbn
        have e0 : w8.cell? ⟨wr.heap.size, 0, none⟩ = some (.int .i64 y.sig) := by rw [HX.out.cell, HYE.out]; rfl
        have e1 : w8.cell? ⟨wr.heap.size, 1, none⟩ = some (.slice A' y.labs.length c') := by rw [HX.out.cell, HYE.out]; rfl
        have u0 : w8.cell? ⟨Bn, 0, none⟩ = some (.int .i64 y.sig) := by rw [HN.out.cell, HUE.out]; rfl
        have u1 : w8.cell? ⟨Bn, 1, none⟩ = some (.slice A2 y.labs.length c2) := by rw [HN.out.cell, HUE.out]; rfl
        clear hbn
        go_wp2_with fail
        refine (HS5.out w8 HR.out).mono ?_
        rintro e w9 ⟨rfl, hd⟩
        have hb := hd.below
        rw [decide_eq_true (cmpL_zero.2 rfl)]
        replace HAT := Lib.hid (HAT.out.below hb)
        replace HX := Lib.hid (HX.out.below hb)
        replace HN := Lib.hid (HN.out.below hb)
        replace HR := Lib.hid (HR.out.trans (hb.mono HR.out.size))
        have hr1 := range_at HX.out
        rw [HYE.out] at hr1
        have hz1 := itz_range hr1
        have hr2 := range_at HN.out
        rw [HUE.out] at hr2
        have hz2 := zone_range hr2
        rw [Nat.zero_add] at hz1 hz2
        have HZ1 := Lib.hid hz1
        have HZ2 := Lib.hid hz2
        obtain ⟨of, hof⟩ : ∃ of, of = x.off := ⟨_, rfl⟩
        obtain ⟨qq, hqq⟩ : ∃ qq, qq = x.size := ⟨_, rfl⟩
        have e15 : w9.cell? ⟨wr.heap.size, 15, none⟩ = some (.int .i64 of) := by rw [HX.out.cell, HYE.out, hof]; rfl
        have e16 : w9.cell? ⟨wr.heap.size, 16, none⟩ = some (.int .i64 qq) := by rw [HX.out.cell, HYE.out, hqq]; rfl
        have HOF := Lib.hid hof
        have HQQ := Lib.hid hqq
        have b0 : 0 ≤ of := by rw [hof]; exact HBND.out.1
        have b1 : 4 ≤ qq := by rw [hqq]; exact HBND.out.2.1
        have b2 : of + qq ≤ (F.size : Int) := by rw [hof, hqq]; exact HBND.out.2.2
        have b3 : (F.size : Int) ≤ 71400 := by have := HFS.out.1; omega
        have b4 : of ≤ (F.size : Int) - qq := by omega
        have b5 : (F.size : Int) - qq ≤ 71400 := by omega
        have b6 : 0 ≤ (F.size : Int) - qq := by omega
        have n0 : ¬ of < 0 := by omega
        have n1 : ¬ qq < 4 := by omega
        have n2 : ¬ (F.size : Int) - qq < of := by omega
        have hkm' := Lib.hid hkm
        have hil' := Lib.hid hil
        clear hb hd hr1 hr2 hz1 hz2 e0 e1 u0 u1 hof hqq HS5 hkm hil
        have hcv := fun w => run_bytes_of_string (P := Try.prog) w 9 33 5 F Try.underlying9 Try.underlying33 Try.underlying5
        obtain ⟨D, hD⟩ : ∃ D, (F.size : Int) - qq = D := ⟨_, rfl⟩
        rw [hD] at n2 b4 b5 b6
        have HBS := Lib.hid (And.intro b0 (And.intro b1 b2))
        have f0 : decide (of < 0) = false := decide_eq_false n0
        have f1 : decide (qq < 4) = false := decide_eq_false n1
        have f2 : decide (D < of) = false := decide_eq_false n2
        have HYS := Lib.hid hys
        have HUS := Lib.hid hus
        clear b0 b1 b2 b3 b4 hys hus
        go_upto_region 15 with (first | (refine wpList_load_midF 44 (.tmp 74) rfl rfl wr.heap.size 2 rfl _ _ HZ1.out Try.underlying44 rfl size_zone ?_) | (refine wpList_load_midF 44 (.tmp 76) rfl rfl Bn 2 rfl _ _ HZ2.out Try.underlying44 rfl size_zone ?_) | (refine wpList_zneqF (.tmp 75) (.tmp 77) _ rfl rfl y.zone y.zone rfl rfl false (by simp) ?_))
        clear e15 e16 f0 f1 f2 n0 n1 n2 hD b5 b6 HZ1 HZ2
        go_upto_region 16 with fail
        generalize hcap : grownCap w9 F.size 0 5 = cap
        have HU : Hid (Buf (w9.alloc (.cells (bytesRow F cap) 5 ((bytesRow F cap).size, (bytesRow F cap).size + 1))).drew w9.heap.size (bs F)) := Lib.hid (by rw [← hcap]; exact (Buf.new w9 F).drew)
        have HBW : Hid (Below w9.heap.size w9 (w9.alloc (.cells (bytesRow F cap) 5 ((bytesRow F cap).size, (bytesRow F cap).size + 1))).drew) := Lib.hid (below_drew ((Below.refl _ _).alloc (Nat.le_refl _) _))
        have HNF : Hid (Bn < w9.heap.size ∧ wr.heap.size < w9.heap.size ∧ w.heap.size < w9.heap.size) := Lib.hid ⟨HN.out.lt, HX.out.lt, HAT.out.lt⟩
        replace HAT := Lib.hid (HAT.out.below HBW.out)
        replace HX := Lib.hid (HX.out.below HBW.out)
        replace HN := Lib.hid (HN.out.below HBW.out)
        replace HR := Lib.hid (HR.out.trans (HBW.out.mono HR.out.size))
        clear hcap hcv HBW
        generalize (w9.alloc (.cells (bytesRow F cap) 5 ((bytesRow F cap).size, (bytesRow F cap).size + 1))).drew = w10 at *
        generalize w9.heap.size = Bf at *
        have hmod := HMOD.out.1
        have htmod := HMOD.out.2
        have hF0 : 0 < (F.size : Int) := by have := HFS.out.2; omega
        have hFn : ¬ (F.size : Int) = 0 := by omega
        have hF1 : (F.size : Int) ≤ 71400 := by have := HFS.out.1; omega
        go_upto_region 17 with fail
        clear hmod htmod hF0 hFn hF1
        have e15 : w10.cell? ⟨wr.heap.size, 15, none⟩ = some (.int .i64 of) := by rw [HX.out.cell, HYE.out, HOF.out]; rfl
        have e16 : w10.cell? ⟨wr.heap.size, 16, none⟩ = some (.int .i64 qq) := by rw [HX.out.cell, HYE.out, HQQ.out]; rfl
        have hs0 : (0 : Int) ≤ of + qq := by have := HBS.out; omega
        have hs1 : of + qq ≤ 71400 := by have := HBS.out; have := HFS.out.1; omega
        by_cases ha : (q : Int) < of
        · have f0 : decide ((q : Int) < of) = true := decide_eq_true ha
          have hout : (q : Int) < of ∨ of + qq ≤ q := .inl ha
          go_upto_region 18 with fail
          clear f0 ha e15 e16 hs0 hs1
          have g0 := HU.out.cell q (by rw [bs_length]; exact HQF.out)
          have g1 := HU.out.free q (by rw [bs_length]; exact HQF.out)
          have hqi : (q : Int) < (F.size : Int) := by have := HQF.out; omega
          have hq0 : (0 : Int) ≤ (q : Int) := by omega
          have hqt : ((q : Int)).toNat = q := by omega
          have HK := Lib.hid (item_kept F q cb x (by rw [← HOF.out, ← HQQ.out]; omega) HCEF.out.1)
          replace HU : Hid (Buf (w10.setCell ⟨Bf, q, none⟩ (.int .u8 cb.toNat)) Bf ((bs F).set q cb)) := Lib.hid (HU.out.set q (by rw [bs_length]; exact HQF.out) cb)
          have HKP : Hid (Keep Bf w10 (w10.setCell ⟨Bf, q, none⟩ (.int .u8 cb.toNat))) := Lib.hid ((Keep.refl _ _).set q _)
          replace HAT := Lib.hid (HAT.out.keep HKP.out (by have := HNF.out; omega))
          replace HX := Lib.hid (HX.out.keep HKP.out (by have := HNF.out; omega))
          replace HN := Lib.hid (HN.out.keep HKP.out (by have := HNF.out; omega))
          replace HR : Hid (Below wr.heap.size wr (w10.setCell ⟨Bf, q, none⟩ (.int .u8 cb.toNat))) := Lib.hid (HR.out.setCell (by have := HNF.out; show wr.heap.size ≤ Bf; omega) _)
          obtain ⟨T, hT⟩ : ∃ T, str ((bs F).set q cb) = T := ⟨_, rfl⟩
          rw [hT] at HK
          have HTE := Lib.hid hT
          have HLL : Hid (((bs F).set q cb).length = F.size) := Lib.hid (by rw [List.length_set, bs_length])
          have HTS : Hid (T.size ≤ 100000) := Lib.hid (by rw [← hT, str_size, HLL.out]; have := HFS.out.1; omega)
          have HCE := Lib.hid HK.out.1
          have HCD := Lib.hid (HK.out.2.trans HCEF.out.2)
          clear hT HK HKP
          generalize (bs F).set q cb = l at *
          go_upto_region 19 with fail
          clear g0 g1 hqi hq0 hqt hout
          generalize w10.setCell ⟨Bf, q, none⟩ (.int .u8 cb.toNat) = w11 at *
          have hst2 := HU.out.str cap
          rw [HLL.out, HTE.out] at hst2
          have HCK := Lib.hid (chunk_any T x A' y.labs.length c' w11 HTS.out)
          unfold CPost at HCK
          rw [HXY.out.1, HXY.out.2.2, ← HYE.out] at HCK
          go_wp2_with (refine wpList_load_row rfl 46 (.tmp 14) rfl wr.heap.size rfl 46 Y (0, 0) _ HX.out.out Try.underlying46 rfl (by rw [HYS.out]; exact size_item) ?_)
          refine HCK.out.mono ?_
          rintro e wa ⟨hb, ⟨hce, rfl⟩ | ⟨hce, _⟩⟩
          case inr => exact absurd HCE.out hce
          replace HAT := Lib.hid (HAT.out.below hb)
          replace HN := Lib.hid (HN.out.below hb)
          replace HR := Lib.hid (HR.out.trans (hb.mono HR.out.size))
          obtain ⟨G, hG⟩ : ∃ G, G = chC y.sig A' y.labs.length c' y.zone (chD T x) := ⟨_, rfl⟩
          rw [← hG]
          rw [HCD.out] at hG
          have hgs : G.size = 16 := by rw [hG]; rfl
          have HG1 : Hid ((G.all fun v => v.oneCell') = true) := Lib.hid (by rw [hG]; exact chC_one _ _ _ _ _ _)
          have HGE := Lib.hid hG
          clear hb hce hG HCK HU HX HTE HTS HCE HCD hst2
          have HGX := Lib.hid (At.new wa chZ 49)
          go_wp2_with (refine wpList_store_at rfl 49 (.tmp 18) (.tmp 129) rfl wa.heap.size G rfl rfl 49 _ HGX.out (by rw [hgs]; exact size_chunk) hgs.symm HG1.out ?_)
          intro wb HWB
          have HRR : Hid (Below wa.heap.size wa wb) := Lib.hid (by rw [HWB.out]; exact below_row ((Below.refl _ _).alloc (Nat.le_refl _) _) _ _ (Nat.le_refl _))
          have HGA : Hid (At wb wa.heap.size G 49) := Lib.hid (by rw [HWB.out]; exact HGX.out.row)
          replace HAT := Lib.hid (HAT.out.below HRR.out)
          replace HN := Lib.hid (HN.out.below HRR.out)
          replace HR := Lib.hid (HR.out.trans (HRR.out.mono HR.out.size))
          clear HWB HRR HGX HG1
          generalize wa.heap.size = Bg at *
          have HSC := Lib.hid (HSAME.out wb HR.out)
          rw [← HGE.out, ← HUE.out] at HSC
          go_wp2_with (first | (refine wpList_load_atG rfl 49 (.tmp 18) rfl Bg rfl 49 G _ HGA.out Try.underlying49 rfl (by rw [hgs]; exact size_chunk) ?_) | (refine wpList_load_atG rfl 49 (.tmp 15) rfl Bn rfl 49 U _ HN.out Try.underlying49 rfl (by rw [HUS.out]; exact size_chunk) ?_))
          refine HSC.out.mono ?_
          rintro e wc ⟨rfl, hb⟩
          replace HAT := Lib.hid (HAT.out.below hb)
          replace HR := Lib.hid (HR.out.trans (hb.mono HR.out.size))
          have HITN := Lib.hid (HIT.out.kt (KT.below HR.out) (KT.below HR.out))
          have HBN := Lib.hid (HB.out.trans (HR.out.mono HB.out.size))
          clear hb HSC HGA HGE HN HSAME HR HIT HB
          go_wp2_with fail
          go_roundw
          case rel => exact ⟨k + 1, by omega, by go_num, HITN, HBN, HAT⟩
          case measure => simp [intOf]; omega
        by_cases hb2 : of + qq ≤ (q : Int)
        · have f0 : decide ((q : Int) < of) = false := decide_eq_false ha
          have f1 : decide (of + qq ≤ (q : Int)) = true := decide_eq_true hb2
          have hout : (q : Int) < of ∨ of + qq ≤ q := .inr hb2
          go_upto_region 18 with fail
          clear f0 f1 ha hb2 e15 e16 hs0 hs1
          have g0 := HU.out.cell q (by rw [bs_length]; exact HQF.out)
          have g1 := HU.out.free q (by rw [bs_length]; exact HQF.out)
          have hqi : (q : Int) < (F.size : Int) := by have := HQF.out; omega
          have hq0 : (0 : Int) ≤ (q : Int) := by omega
          have hqt : ((q : Int)).toNat = q := by omega
          have HK := Lib.hid (item_kept F q cb x (by rw [← HOF.out, ← HQQ.out]; omega) HCEF.out.1)
          replace HU : Hid (Buf (w10.setCell ⟨Bf, q, none⟩ (.int .u8 cb.toNat)) Bf ((bs F).set q cb)) := Lib.hid (HU.out.set q (by rw [bs_length]; exact HQF.out) cb)
          have HKP : Hid (Keep Bf w10 (w10.setCell ⟨Bf, q, none⟩ (.int .u8 cb.toNat))) := Lib.hid ((Keep.refl _ _).set q _)
          replace HAT := Lib.hid (HAT.out.keep HKP.out (by have := HNF.out; omega))
          replace HX := Lib.hid (HX.out.keep HKP.out (by have := HNF.out; omega))
          replace HN := Lib.hid (HN.out.keep HKP.out (by have := HNF.out; omega))
          replace HR : Hid (Below wr.heap.size wr (w10.setCell ⟨Bf, q, none⟩ (.int .u8 cb.toNat))) := Lib.hid (HR.out.setCell (by have := HNF.out; show wr.heap.size ≤ Bf; omega) _)
          obtain ⟨T, hT⟩ : ∃ T, str ((bs F).set q cb) = T := ⟨_, rfl⟩
          rw [hT] at HK
          have HTE := Lib.hid hT
          have HLL : Hid (((bs F).set q cb).length = F.size) := Lib.hid (by rw [List.length_set, bs_length])
          have HTS : Hid (T.size ≤ 100000) := Lib.hid (by rw [← hT, str_size, HLL.out]; have := HFS.out.1; omega)
          have HCE := Lib.hid HK.out.1
          have HCD := Lib.hid (HK.out.2.trans HCEF.out.2)
          clear hT HK HKP
          generalize (bs F).set q cb = l at *
          go_upto_region 19 with fail
          clear g0 g1 hqi hq0 hqt hout
          generalize w10.setCell ⟨Bf, q, none⟩ (.int .u8 cb.toNat) = w11 at *
          have hst2 := HU.out.str cap
          rw [HLL.out, HTE.out] at hst2
          have HCK := Lib.hid (chunk_any T x A' y.labs.length c' w11 HTS.out)
          unfold CPost at HCK
          rw [HXY.out.1, HXY.out.2.2, ← HYE.out] at HCK
          go_wp2_with (refine wpList_load_row rfl 46 (.tmp 14) rfl wr.heap.size rfl 46 Y (0, 0) _ HX.out.out Try.underlying46 rfl (by rw [HYS.out]; exact size_item) ?_)
          refine HCK.out.mono ?_
          rintro e wa ⟨hb, ⟨hce, rfl⟩ | ⟨hce, _⟩⟩
          case inr => exact absurd HCE.out hce
          replace HAT := Lib.hid (HAT.out.below hb)
          replace HN := Lib.hid (HN.out.below hb)
          replace HR := Lib.hid (HR.out.trans (hb.mono HR.out.size))
          obtain ⟨G, hG⟩ : ∃ G, G = chC y.sig A' y.labs.length c' y.zone (chD T x) := ⟨_, rfl⟩
          rw [← hG]
          rw [HCD.out] at hG
          have hgs : G.size = 16 := by rw [hG]; rfl
          have HG1 : Hid ((G.all fun v => v.oneCell') = true) := Lib.hid (by rw [hG]; exact chC_one _ _ _ _ _ _)
          have HGE := Lib.hid hG
          clear hb hce hG HCK HU HX HTE HTS HCE HCD hst2
          have HGX := Lib.hid (At.new wa chZ 49)
          go_wp2_with (refine wpList_store_at rfl 49 (.tmp 18) (.tmp 129) rfl wa.heap.size G rfl rfl 49 _ HGX.out (by rw [hgs]; exact size_chunk) hgs.symm HG1.out ?_)
          intro wb HWB
          have HRR : Hid (Below wa.heap.size wa wb) := Lib.hid (by rw [HWB.out]; exact below_row ((Below.refl _ _).alloc (Nat.le_refl _) _) _ _ (Nat.le_refl _))
          have HGA : Hid (At wb wa.heap.size G 49) := Lib.hid (by rw [HWB.out]; exact HGX.out.row)
          replace HAT := Lib.hid (HAT.out.below HRR.out)
          replace HN := Lib.hid (HN.out.below HRR.out)
          replace HR := Lib.hid (HR.out.trans (HRR.out.mono HR.out.size))
          clear HWB HRR HGX HG1
          generalize wa.heap.size = Bg at *
          have HSC := Lib.hid (HSAME.out wb HR.out)
          rw [← HGE.out, ← HUE.out] at HSC
          go_wp2_with (first | (refine wpList_load_atG rfl 49 (.tmp 18) rfl Bg rfl 49 G _ HGA.out Try.underlying49 rfl (by rw [hgs]; exact size_chunk) ?_) | (refine wpList_load_atG rfl 49 (.tmp 15) rfl Bn rfl 49 U _ HN.out Try.underlying49 rfl (by rw [HUS.out]; exact size_chunk) ?_))
          refine HSC.out.mono ?_
          rintro e wc ⟨rfl, hb⟩
          replace HAT := Lib.hid (HAT.out.below hb)
          replace HR := Lib.hid (HR.out.trans (hb.mono HR.out.size))
          have HITN := Lib.hid (HIT.out.kt (KT.below HR.out) (KT.below HR.out))
          have HBN := Lib.hid (HB.out.trans (HR.out.mono HB.out.size))
          clear hb HSC HGA HGE HN HSAME HR HIT HB
          go_wp2_with fail
          go_roundw
          case rel => exact ⟨k + 1, by omega, by go_num, HITN, HBN, HAT⟩
          case measure => simp [intOf]; omega
        · have f0 : decide ((q : Int) < of) = false := decide_eq_false ha
          have f1 : decide (of + qq ≤ (q : Int)) = false := decide_eq_false hb2
          go_upto_region 19 with fail
          clear f0 f1 ha hb2 e15 e16 hs0 hs1
          obtain ⟨T, hT⟩ : ∃ T, str (bs F) = T := ⟨_, rfl⟩
          have hTF : T = F := by rw [← hT, str_bs]
          have HTE := Lib.hid hT
          have HLL : Hid ((bs F).length = F.size) := Lib.hid (bs_length F)
          have HTS : Hid (T.size ≤ 100000) := Lib.hid (by rw [hTF]; have := HFS.out.1; omega)
          have HCE : Hid (chE T x = 0) := Lib.hid (by rw [hTF]; exact HCEF.out.1)
          have HCD : Hid (chD T x = y.data) := Lib.hid (by rw [hTF]; exact HCEF.out.2)
          clear hT hTF
          generalize bs F = l at *
          generalize w10 = w11 at *
          have hst2 := HU.out.str cap
          rw [HLL.out, HTE.out] at hst2
          have HCK := Lib.hid (chunk_any T x A' y.labs.length c' w11 HTS.out)
          unfold CPost at HCK
          rw [HXY.out.1, HXY.out.2.2, ← HYE.out] at HCK
          go_wp2_with (refine wpList_load_row rfl 46 (.tmp 14) rfl wr.heap.size rfl 46 Y (0, 0) _ HX.out.out Try.underlying46 rfl (by rw [HYS.out]; exact size_item) ?_)
          refine HCK.out.mono ?_
          rintro e wa ⟨hb, ⟨hce, rfl⟩ | ⟨hce, _⟩⟩
          case inr => exact absurd HCE.out hce
          replace HAT := Lib.hid (HAT.out.below hb)
          replace HN := Lib.hid (HN.out.below hb)
          replace HR := Lib.hid (HR.out.trans (hb.mono HR.out.size))
          obtain ⟨G, hG⟩ : ∃ G, G = chC y.sig A' y.labs.length c' y.zone (chD T x) := ⟨_, rfl⟩
          rw [← hG]
          rw [HCD.out] at hG
          have hgs : G.size = 16 := by rw [hG]; rfl
          have HG1 : Hid ((G.all fun v => v.oneCell') = true) := Lib.hid (by rw [hG]; exact chC_one _ _ _ _ _ _)
          have HGE := Lib.hid hG
          clear hb hce hG HCK HU HX HTE HTS HCE HCD hst2
          have HGX := Lib.hid (At.new wa chZ 49)
          go_wp2_with (refine wpList_store_at rfl 49 (.tmp 18) (.tmp 129) rfl wa.heap.size G rfl rfl 49 _ HGX.out (by rw [hgs]; exact size_chunk) hgs.symm HG1.out ?_)
          intro wb HWB
          have HRR : Hid (Below wa.heap.size wa wb) := Lib.hid (by rw [HWB.out]; exact below_row ((Below.refl _ _).alloc (Nat.le_refl _) _) _ _ (Nat.le_refl _))
          have HGA : Hid (At wb wa.heap.size G 49) := Lib.hid (by rw [HWB.out]; exact HGX.out.row)
          replace HAT := Lib.hid (HAT.out.below HRR.out)
          replace HN := Lib.hid (HN.out.below HRR.out)
          replace HR := Lib.hid (HR.out.trans (HRR.out.mono HR.out.size))
          clear HWB HRR HGX HG1
          generalize wa.heap.size = Bg at *
          have HSC := Lib.hid (HSAME.out wb HR.out)
          rw [← HGE.out, ← HUE.out] at HSC
          go_wp2_with (first | (refine wpList_load_atG rfl 49 (.tmp 18) rfl Bg rfl 49 G _ HGA.out Try.underlying49 rfl (by rw [hgs]; exact size_chunk) ?_) | (refine wpList_load_atG rfl 49 (.tmp 15) rfl Bn rfl 49 U _ HN.out Try.underlying49 rfl (by rw [HUS.out]; exact size_chunk) ?_))
          refine HSC.out.mono ?_
          rintro e wc ⟨rfl, hb⟩
          replace HAT := Lib.hid (HAT.out.below hb)
          replace HR := Lib.hid (HR.out.trans (hb.mono HR.out.size))
          have HITN := Lib.hid (HIT.out.kt (KT.below HR.out) (KT.below HR.out))
          have HBN := Lib.hid (HB.out.trans (HR.out.mono HB.out.size))
          clear hb HSC HGA HGE HN HSAME HR HIT HB
          go_wp2_with fail
          go_roundw
          case rel => exact ⟨k + 1, by omega, by go_num, HITN, HBN, HAT⟩
          case measure => simp [intOf]; omega
      · have hke : k = b.chunks.length := by omega
        subst hke
        have hil : ¬ (b.chunks.length : Int) < (b.chunks.length : Int) := by omega
        clear HIT
        go_wp2_with fail
        refine (awake_any wr).mono ?_
        rintro e w4 ⟨rfl, hb⟩
        replace HB := Lib.hid (HB.out.trans (hb.mono HB.out.size))
        clear hb
        go_wp2_with fail
        go_ret
        exact ⟨rfl, HB.out⟩
  · have d : (bchk b != 0) = true := bne_iff_ne.2 hz
    have HR : Hid (encB b = (⟨#[]⟩, bchk b)) := Lib.hid (by unfold encB; rw [if_neg hz])
    rw [HR.out] at HEN2
    simp only [pairV] at HEN2
    clear hz HR HF
    go_wp2_with (refine wpList_load_row rfl 24 (.tmp 3) rfl w.heap.size rfl 24 V (0, 0) _ HAT.out.out Try.underlying24 rfl (by rw [hvs]; exact size_blk) ?_)
    refine (HEN2.out w1 HB.out).mono ?_
    rintro e w2 ⟨rfl, hb⟩
    replace HB := Lib.hid (HB.out.trans (hb.mono HB.out.size))
    clear hb HEN2
    go_wp2_with fail
    refine (awake_any w2).mono ?_
    rintro e w3 ⟨rfl, hb⟩
    have HB2 := Lib.hid (HB.out.trans (hb.mono HB.out.size))
    clear hb
    go_wp2_with fail
    go_ret
    exact ⟨rfl, HB2.out⟩
theorem wkChunks (b : Blk) (A : Option Addr) (c : Nat) (m k : Int) (w : World) (h : BlkOk w b A c) (hm : (Lit.int .u16 m).wf = true) (hk : (Lit.int .u8 k).wf = true) : Calls Try.prog 6 #[.agg (blC b A c), .int .u16 m, .int .u8 k] w fun e w' => e = .returned (.bool true) ∧ Below w.heap.size w w' := by
  have h2 := wf16 hm
  obtain ⟨n, rfl⟩ : ∃ n : Nat, m = (n : Int) := ⟨m.toNat, by omega⟩
  obtain ⟨x, rfl⟩ := wf8c hk
  exact lawChunks_any b A c n (by omega) x w h
end Go.Proofs.Ytoojpfcnekpboaa
