/- Walks: the reader of a directory: its block (the program's). -/
import Derived.Test.YtoojpfcnekpboaaGreatZBE
import Derived.Great.BuildSlice
namespace Go.Proofs.YtoojpfcnekpboaaGreat
open Go.RowKit Go.Shelf

theorem info_chunkS : (Tryz.prog.info? 58).map (fun i => (i.zero, i.size, i.bytes)) = some (some (.agg (chC 0 none 0 0 Zn.zero ⟨#[]⟩)), 16, 120) := by kernel_rfl
theorem fill_item (s : Int) (A : Option Addr) (n c : Nat) (z : Zn) (o q : Int) : Instr.fill (fun i => some (i * 17, 17)) ((Array.range (1 * 17)).map ((Value.agg (itC 0 none 0 0 Zn.zero 0 0)).cells[· % (Value.agg (itC 0 none 0 0 Zn.zero 0 0)).cells.size]!)) [(0, .agg (itC s A n c z o q))] = some (itC s A n c z o q) := by kernel_rfl
/-- A slice of one item. -/
theorem wpList_bsItem {ops : Array Oper} {rest : List Oper} {op : Oper} {a : Act} {w : World} {Q : Exit → Act → World → Prop} (hg : op.guard = none) (x : Operand) (ho : op.op = .buildSlice 29 1 #[(0, x)])
    (V : Array Value) (s : Int) (A : Option Addr) (n c : Nat) (z : Zn) (o q : Int) (hV : V = itC s A n c z o q) (hx : a.eval x = .agg V)
    (h : wpList Tryz.prog ops Q rest (a.put op.dst (.slice (some ⟨w.heap.size, 0, none⟩) 1 1)) (w.alloc (.cells V 52))) : wpList Tryz.prog ops Q (op :: rest) a w := by
  subst hV
  obtain ⟨i0, hi, hz0, hz1, hz2⟩ := info_parts info_itemS
  refine wpList_buildSlice hg 29 52 1 #[(0, x)] ho _ i0 _ Tryz.underlying29 hi hz0 (by rw [hz1]; decide) (by rw [hz1]; decide) ?_ h
  simp only [hz1, List.map_toArray, List.map_cons, List.map_nil, hx]
  exact fill_item s A n c z o q
theorem size_blk : (Tryz.prog.info? 25).map (·.size) = some 4 := by kernel_rfl
theorem blC_one (b : Blk) (A : Option Addr) (c : Nat) : ((blC b A c).all fun x => x.oneCell') = true := by simp [blC, Value.oneCell']
theorem results_row_tmp2 {P : Program} {fn : Func} {p q r : Tmp} {ty : TypeId} (h : fn.results = #[.cell p ty, .tmp q, .tmp r]) (tmps : Array Value) (w : World) (g : Nat) (t : TypeId) (cs : Array Value) (d : TypeDesc)
    (hp : tmps.getD p undef = .pointer (some ⟨g, 0, none⟩)) (hg : At w g cs t) (hu : P.underlying ty = some d) (hd : (match d with | .struct _ | .array _ _ => true | _ => false) = true) (hi : (P.info? ty).map (·.size) = some cs.size) :
    (results fn tmps).run P w = .ok (.tuple #[.agg cs, tmps.getD q undef, tmps.getD r undef]) w := by
  rw [Array.getD_eq_getD_getElem?] at hp ⊢
  rw [Array.getD_eq_getD_getElem?]
  simp [results, h, hp, asAddr, run_loadVar_row w g t ty cs (0, 0) d hg.out hu hd hi]
/-- The world without its memory: what a row of our own is measured by. -/
def bareW (w : World) : World := { w with heap := #[] }
theorem below_bare {p : Nat} {w w' : World} (h : Keep p w w') : Below (bareW w).heap.size (bareW w) w' := ⟨h.os, h.tape, h.output, Nat.zero_le _, fun k hk => absurd hk (Nat.not_lt_zero k)⟩
/-- What 'block' answers. -/
def BkPost (R : Nat) (st : RS) (w : World) (e : Ending) (w' : World) : Prop :=
  (∃ A c A2 c2, e = .returned (.tuple #[.agg (blC (rBlk st).blk A2 c2), .slice A (rBlk st).items.length c, .int .i64 (rBlk st).total]) ∧ ItmsT w' A (rBlk st).items ∧ (rBlk st).items.length ≤ c ∧ ChRow w' A2 (rBlk st).blk.chunks ∧ (rBlk st).items.length ≤ c2 ∧ (∀ k, A2.map (·.block) = some k → w.heap.size ≤ k)) ∧ At w' R (rsC (rBlk st).st) 115 ∧ Keep R w w'
/-- The block behind its magic. -/
def rBlk2 (a : RS) : RB := ⟨(rNum a).1, (rNum (rNum a).2).1, (rNum (rNum (rNum a).2).2).1,
  (rLoop (rNum (rNum (rNum (rNum a).2).2).2).1 4001 0 (if 4000 < (rNum (rNum (rNum (rNum a).2).2).2).1 then ⟨(rNum (rNum (rNum (rNum a).2).2).2).2.rest, true⟩ else (rNum (rNum (rNum (rNum a).2).2).2).2) []).1,
  (rLoop (rNum (rNum (rNum (rNum a).2).2).2).1 4001 0 (if 4000 < (rNum (rNum (rNum (rNum a).2).2).2).1 then ⟨(rNum (rNum (rNum (rNum a).2).2).2).2.rest, true⟩ else (rNum (rNum (rNum (rNum a).2).2).2).2) []).2.1,
  (rLoop (rNum (rNum (rNum (rNum a).2).2).2).1 4001 0 (if 4000 < (rNum (rNum (rNum (rNum a).2).2).2).1 then ⟨(rNum (rNum (rNum (rNum a).2).2).2).2.rest, true⟩ else (rNum (rNum (rNum (rNum a).2).2).2).2) []).2.2⟩
theorem rBlk_eq (st : RS) : rBlk st = rBlk2 (if (rByt 4 st).1 = str magicB then (rByt 4 st).2 else ⟨(rByt 4 st).2.rest, true⟩) := rfl
theorem rBlk2_eq {a s1 s2 s3 s4 : RS} {v1 v2 v3 v4 : Int} (e1 : rNum a = (v1, s1)) (e2 : rNum s1 = (v2, s2)) (e3 : rNum s2 = (v3, s3)) (e4 : rNum s3 = (v4, s4)) :
    rBlk2 a = ⟨v1, v2, v3, (rLoop v4 4001 0 (if 4000 < v4 then ⟨s4.rest, true⟩ else s4) []).1, (rLoop v4 4001 0 (if 4000 < v4 then ⟨s4.rest, true⟩ else s4) []).2.1, (rLoop v4 4001 0 (if 4000 < v4 then ⟨s4.rest, true⟩ else s4) []).2.2⟩ := by
  unfold rBlk2
  simp only [e1, e2, e3, e4]
theorem TyO.ne {E t : TypeId} {w : World} {A : Option Addr} {b : Nat} {c : Array Value} (h : TyO E w A) (hb : At w b c t) (ht : t ≠ E) : A.map (·.block) ≠ some b := fun e => by
  obtain ⟨cs, fz, h1⟩ := h b e
  rw [hb.out] at h1
  injection h1 with h1
  injection h1 with _ h1 _
  exact ht h1
/-- Where the loop stands. -/
def BL4 (count : Int) (st0 : RS) (its : List Itm) (a : Int) (st : RS) : Prop := its.length ≤ 4000 ∧ rLoop count 4001 0 st0 [] = rLoop count (4001 - its.length) a st its
theorem BL4.start (count : Int) (st0 : RS) : BL4 count st0 [] 0 st0 := ⟨by simp, rfl⟩
theorem BL4.step {count : Int} {st0 st : RS} {its : List Itm} {a : Int} (h : BL4 count st0 its a st) (hb : st.bad = false) (hl : (its.length : Int) < count) (hc : count ≤ 4000) : BL4 count st0 (its ++ [(rItm a st).1]) (a + (rItm a st).1.size) (rItm a st).2 := by
  obtain ⟨h1, h2⟩ := h
  refine ⟨by rw [List.length_append]; simp; omega, ?_⟩
  rw [h2, show 4001 - its.length = (4001 - (its ++ [(rItm a st).1]).length) + 1 by rw [List.length_append]; simp; omega]
  show (if st.bad = false ∧ (its.length : Int) < count then _ else _) = _
  rw [if_pos ⟨hb, hl⟩]
theorem BL4.stop {count : Int} {st0 st : RS} {its : List Itm} {a : Int} (h : BL4 count st0 its a st) (hb : ¬ (st.bad = false ∧ (its.length : Int) < count)) : rLoop count 4001 0 st0 [] = (its, a, st) := by
  obtain ⟨h1, h2⟩ := h
  rw [h2, show 4001 - its.length = (4000 - its.length) + 1 by omega]
  show (if st.bad = false ∧ (its.length : Int) < count then _ else _) = _
  rw [if_neg hb]

set_option maxRecDepth 100000 in
set_option maxHeartbeats 8000000 in
theorem rblock_any (R : Nat) (st : RS) (w : World) (hR : At w R (rsC st) 115) (hs : st.rest.size ≤ 1000000) :
    Calls Tryz.prog 67 #[.pointer (some ⟨R, 0, none⟩)] w (BkPost R st w) := by
  have h0R : R < w.heap.size := hR.lt
  have HY1 := Lib.hid (At.new w (blC ⟨0, 0, 0, []⟩ none 0) 25)
  have HR := Lib.hid (hR.alloc (.cells (blC ⟨0, 0, 0, []⟩ none 0) 25))
  have HK := Lib.hid ((Keep.refl R w).alloc (.cells (blC ⟨0, 0, 0, []⟩ none 0) 25))
  have HBK := Lib.hid (rBlk_eq st)
  have HS0 := Lib.hid hs
  have hq0 := rByt_bounds 4 st
  obtain ⟨⟨m, s0⟩, e0⟩ : ∃ p, rByt 4 st = p := ⟨_, rfl⟩
  rw [e0] at HBK hq0
  simp only at HBK hq0
  have C0 : Hid (∀ W, At W R (rsC st) 115 → Calls Tryz.prog 94 #[.pointer (some ⟨R, 0, none⟩), .int .i64 4] W fun e w' => e = .returned (.string m) ∧ At w' R (rsC s0) 115 ∧ Keep R W w') := Lib.hid fun W h => by have := rbytes_any R 4 st W h HS0.out (by decide); rw [e0] at this; exact this
  clear hR hs
  obtain ⟨Y1, hY1⟩ : ∃ Y1, w.heap.size = Y1 := ⟨_, rfl⟩
  rw [hY1] at HY1
  have HE1 := Lib.hid hY1
  clear hY1
  go_enter Tryz.func67, Tryz.ntmps67
  go_upto_region 1 with fail
  change Code.wp _ _ _ _ (w.alloc (.cells (blC ⟨0, 0, 0, []⟩ none 0) 25))
  generalize w.alloc (.cells (blC ⟨0, 0, 0, []⟩ none 0) 25) = w0 at *
  rw [HE1.out]
  have HNR : Hid (R < Y1 ∧ w.heap.size ≤ Y1) := Lib.hid (by have := HE1.out; omega)
  clear HE1 h0R
  go_wp2_with fail
  refine (C0.out w0 HR.out).mono ?_
  rintro e w1 ⟨rfl, hr, hk⟩
  replace HY1 := Lib.hid (HY1.out.keep hk (by have := HNR.out; omega))
  replace HK := Lib.hid (HK.out.trans hk)
  replace HR := Lib.hid hr
  clear hr hk C0
  have hne : Y1 ≠ R := by have := HNR.out; omega
  have HNE0 := Lib.hid hne
  obtain ⟨r0, b0⟩ := s0
  have c1 : w1.cell? ⟨R, 1, none⟩ = some (.bool b0) := HR.out.cell 1
  have f1 : w1.frozen? ⟨R, 1, none⟩ = false := HR.out.free 1
  have HR2 : Hid (At (w1.setCell ⟨R, 1, none⟩ (.bool true)) R (rsC ⟨r0, true⟩) 115) := Lib.hid (HR.out.set 1 _)
  have HY12 := Lib.hid (HY1.out.other (a := ⟨R, 1, none⟩) (.bool true) hne)
  have HK2 := Lib.hid (HK.out.set 1 (.bool true))
  have hr0 : r0.size ≤ st.rest.size := hq0.2
  clear hne hq0
  by_cases hm : m = str magicB
  · have d1 : (!m.toList == [76, 75, 66, 49]) = false := by rw [hm, toList_bs]; rfl
    have HB2 : Hid (rBlk st = rBlk2 ⟨r0, b0⟩) := Lib.hid (by rw [HBK.out, if_pos hm])
    clear hm HR2 HY12 HK2 HBK c1 f1
    go_upto_region 3 with fail
    have hlt : Y1 < w1.heap.size := HY1.out.lt
    have hltR : R < w1.heap.size := HR.out.lt
    have HY2 := Lib.hid (At.new w1 (blC ⟨0, 0, 0, []⟩ none 0) 25)
    replace HY1 := Lib.hid (HY1.out.alloc (.cells (blC ⟨0, 0, 0, []⟩ none 0) 25))
    replace HR := Lib.hid (HR.out.alloc (.cells (blC ⟨0, 0, 0, []⟩ none 0) 25))
    replace HK := Lib.hid (HK.out.alloc (.cells (blC ⟨0, 0, 0, []⟩ none 0) 25))
    obtain ⟨Y2, hY2⟩ : ∃ Y2, w1.heap.size = Y2 := ⟨_, rfl⟩
    rw [hY2] at HY2
    have HE2 := Lib.hid hY2
    have HNE : Hid (Y1 ≠ Y2 ∧ Y1 ≠ R ∧ Y2 ≠ R) := Lib.hid (by have := HNR.out; omega)
    have HN2 : Hid (w.heap.size ≤ Y1 ∧ w.heap.size ≤ Y2) := Lib.hid (by have := HNR.out; omega)
    clear hY2 hlt hltR
    go_upto_region 4 with fail
    change Code.wp _ _ _ _ (w1.alloc (.cells (blC ⟨0, 0, 0, []⟩ none 0) 25))
    generalize w1.alloc (.cells (blC ⟨0, 0, 0, []⟩ none 0) 25) = w2 at *
    rw [HE2.out]
    clear HE2
    have hq1 := rNum_bounds ⟨r0, b0⟩
    obtain ⟨⟨v1, s1⟩, e1⟩ : ∃ p, rNum ⟨r0, b0⟩ = p := ⟨_, rfl⟩
    have hq2 := rNum_bounds s1
    obtain ⟨⟨v2, s2⟩, e2⟩ : ∃ p, rNum s1 = p := ⟨_, rfl⟩
    have hq3 := rNum_bounds s2
    obtain ⟨⟨v3, s3⟩, e3⟩ : ∃ p, rNum s2 = p := ⟨_, rfl⟩
    have hq4 := rNum_bounds s3
    obtain ⟨⟨v4, s4⟩, e4⟩ : ∃ p, rNum s3 = p := ⟨_, rfl⟩
    have HB3 := Lib.hid (HB2.out.trans (rBlk2_eq e1 e2 e3 e4))
    rw [e1] at hq1
    rw [e2] at hq2
    rw [e3] at hq3
    rw [e4] at hq4
    simp only at hq1 hq2 hq3 hq4
    have C1 : Hid (∀ W, At W R (rsC ⟨r0, b0⟩) 115 → Calls Tryz.prog 95 #[.pointer (some ⟨R, 0, none⟩)] W fun e w' => e = .returned (.int .i64 v1) ∧ At w' R (rsC s1) 115 ∧ Keep R W w') := Lib.hid fun W h => by have := rnumber_any R ⟨r0, b0⟩ W h (by have := HS0.out; show r0.size ≤ _; omega); rw [e1] at this; exact this
    have C2 : Hid (∀ W, At W R (rsC s1) 115 → Calls Tryz.prog 95 #[.pointer (some ⟨R, 0, none⟩)] W fun e w' => e = .returned (.int .i64 v2) ∧ At w' R (rsC s2) 115 ∧ Keep R W w') := Lib.hid fun W h => by have := rnumber_any R s1 W h (by have := HS0.out; omega); rw [e2] at this; exact this
    have C3 : Hid (∀ W, At W R (rsC s2) 115 → Calls Tryz.prog 95 #[.pointer (some ⟨R, 0, none⟩)] W fun e w' => e = .returned (.int .i64 v3) ∧ At w' R (rsC s3) 115 ∧ Keep R W w') := Lib.hid fun W h => by have := rnumber_any R s2 W h (by have := HS0.out; omega); rw [e3] at this; exact this
    have C4 : Hid (∀ W, At W R (rsC s3) 115 → Calls Tryz.prog 95 #[.pointer (some ⟨R, 0, none⟩)] W fun e w' => e = .returned (.int .i64 v4) ∧ At w' R (rsC s4) 115 ∧ Keep R W w') := Lib.hid fun W h => by have := rnumber_any R s3 W h (by have := HS0.out; omega); rw [e4] at this; exact this
    have HS4 : Hid (s4.rest.size ≤ 1000000) := Lib.hid (by have := HS0.out; omega)
    obtain ⟨q1, q2, _⟩ := hq4
    clear hq1 hq2 hq3 e1 e2 e3 e4 HB2 hr0
    go_wp2_with fail
    refine (C1.out w2 HR.out).mono ?_
    rintro e w3 ⟨rfl, hr, hk⟩
    replace HY1 := Lib.hid (HY1.out.keep hk HNE.out.2.1)
    replace HY2 := Lib.hid (HY2.out.keep hk HNE.out.2.2)
    replace HK := Lib.hid (HK.out.trans hk)
    replace HR := Lib.hid hr
    clear hr hk
    have cx : w3.cell? ⟨Y2, 0, none⟩ = some (.int .i64 0) := HY2.out.cell 0
    have fx : w3.frozen? ⟨Y2, 0, none⟩ = false := HY2.out.free 0
    replace HY2 := Lib.hid (HY2.out.set 0 (.int .i64 v1))
    replace HY1 := Lib.hid (HY1.out.other (a := ⟨Y2, 0, none⟩) (.int .i64 v1) HNE.out.1)
    replace HR := Lib.hid (HR.out.other (a := ⟨Y2, 0, none⟩) (.int .i64 v1) HNE.out.2.2.symm)
    replace HK := Lib.hid (HK.out.setNew Y2 0 (by have := HN2.out; omega) (.int .i64 v1))
    go_upto_region 5 with fail
    generalize w3.setCell ⟨Y2, 0, none⟩ (.int .i64 v1) = w4 at *
    clear cx fx
    go_wp2_with fail
    refine (C2.out w4 HR.out).mono ?_
    rintro e w5 ⟨rfl, hr, hk⟩
    replace HY1 := Lib.hid (HY1.out.keep hk HNE.out.2.1)
    replace HY2 := Lib.hid (HY2.out.keep hk HNE.out.2.2)
    replace HK := Lib.hid (HK.out.trans hk)
    replace HR := Lib.hid hr
    clear hr hk
    have cx : w5.cell? ⟨Y2, 1, none⟩ = some (.int .i64 0) := HY2.out.cell 1
    have fx : w5.frozen? ⟨Y2, 1, none⟩ = false := HY2.out.free 1
    replace HY2 := Lib.hid (HY2.out.set 1 (.int .i64 v2))
    replace HY1 := Lib.hid (HY1.out.other (a := ⟨Y2, 1, none⟩) (.int .i64 v2) HNE.out.1)
    replace HR := Lib.hid (HR.out.other (a := ⟨Y2, 1, none⟩) (.int .i64 v2) HNE.out.2.2.symm)
    replace HK := Lib.hid (HK.out.setNew Y2 1 (by have := HN2.out; omega) (.int .i64 v2))
    go_upto_region 6 with fail
    generalize w5.setCell ⟨Y2, 1, none⟩ (.int .i64 v2) = w6 at *
    clear cx fx
    go_wp2_with fail
    refine (C3.out w6 HR.out).mono ?_
    rintro e w7 ⟨rfl, hr, hk⟩
    replace HY1 := Lib.hid (HY1.out.keep hk HNE.out.2.1)
    replace HY2 := Lib.hid (HY2.out.keep hk HNE.out.2.2)
    replace HK := Lib.hid (HK.out.trans hk)
    replace HR := Lib.hid hr
    clear hr hk
    have cx : w7.cell? ⟨Y2, 2, none⟩ = some (.int .i64 0) := HY2.out.cell 2
    have fx : w7.frozen? ⟨Y2, 2, none⟩ = false := HY2.out.free 2
    replace HY2 := Lib.hid (HY2.out.set 2 (.int .i64 v3))
    replace HY1 := Lib.hid (HY1.out.other (a := ⟨Y2, 2, none⟩) (.int .i64 v3) HNE.out.1)
    replace HR := Lib.hid (HR.out.other (a := ⟨Y2, 2, none⟩) (.int .i64 v3) HNE.out.2.2.symm)
    replace HK := Lib.hid (HK.out.setNew Y2 2 (by have := HN2.out; omega) (.int .i64 v3))
    go_upto_region 7 with fail
    generalize w7.setCell ⟨Y2, 2, none⟩ (.int .i64 v3) = w8 at *
    clear cx fx
    go_wp2_with fail
    refine (C4.out w8 HR.out).mono ?_
    rintro e w9 ⟨rfl, hr, hk⟩
    replace HY1 := Lib.hid (HY1.out.keep hk HNE.out.2.1)
    replace HY2 := Lib.hid (HY2.out.keep hk HNE.out.2.2)
    replace HK := Lib.hid (HK.out.trans hk)
    replace HR := Lib.hid hr
    clear hr hk
    replace HY2 : Hid (At w9 Y2 (blC ⟨v1, v2, v3, []⟩ none 0) 25) := Lib.hid HY2.out
    obtain ⟨r4, b4⟩ := s4
    have c1 : w9.cell? ⟨R, 1, none⟩ = some (.bool b4) := HR.out.cell 1
    have f1 : w9.frozen? ⟨R, 1, none⟩ = false := HR.out.free 1
    clear C1 C2 C3 C4
    by_cases hbig : 4000 < v4
    · have HB4 := HB3
      rw [if_pos hbig] at HB4
      replace HR : Hid (At (w9.setCell ⟨R, 1, none⟩ (.bool true)) R (rsC ⟨r4, true⟩) 115) := Lib.hid (HR.out.set 1 _)
      replace HY1 := Lib.hid (HY1.out.other (a := ⟨R, 1, none⟩) (.bool true) HNE.out.2.1)
      replace HY2 := Lib.hid (HY2.out.other (a := ⟨R, 1, none⟩) (.bool true) HNE.out.2.2)
      replace HK := Lib.hid (HK.out.set 1 (.bool true))
      clear HB3
      go_upto_region 12 with fail
      generalize w9.setCell ⟨R, 1, none⟩ (.bool true) = w10 at *
      clear c1 f1 hbig
      obtain ⟨stL, hst⟩ : ∃ s : RS, s = ⟨r4, true⟩ := ⟨_, rfl⟩
      rw [← hst] at HR HB4
      have HSL : Hid (stL.rest.size ≤ 1000000) := Lib.hid (by rw [hst]; exact HS4.out)
      have HCN : Hid (stL.bad = false → v4 ≤ 4000) := Lib.hid (by rw [hst]; intro h; cases h)
      clear hst HS4
      obtain ⟨i0, hi, hz0, hz1, hz2⟩ := info_parts info_itemS
      obtain ⟨i1, hi1, hy0, hy1, hy2⟩ := info_parts info_chunkS
      go_loopg [7, 8] 4001 (fun g u7 u8 wr => ∃ (A : Option Addr) (n c : Nat) (A2 : Option Addr) (n2 c2 : Nat) (its : List Itm) (a : Int) (stt : RS) (vs vs2 : List (Array Value)), g = 4001 - its.length ∧ u7 = .slice A n c ∧ u8 = .int .i64 a ∧ Hid (BL4 v4 stL its a stt) ∧ Hid (At wr R (rsC stt) 115) ∧ Hid (At wr Y1 (blC ⟨0, 0, 0, []⟩ none 0) 25) ∧ Hid (At wr Y2 #[.int .i64 v1, .int .i64 v2, .int .i64 v3, .slice A2 n2 c2] 25) ∧
          Hid (SR (bareW w) 52 17 A n c vs wr) ∧ Hid (SR (bareW w) 58 16 A2 n2 c2 vs2 wr) ∧ Hid (ItTs wr vs its) ∧ Hid (ChTs wr vs2 (its.map chkOf)) ∧ Hid ((∀ k, A.map (·.block) = some k → w.heap.size ≤ k) ∧ ∀ k, A2.map (·.block) = some k → w.heap.size ≤ k) ∧ Hid (Keep R w wr) ∧ Hid (stt.rest.size ≤ 1000000) ∧ Hid (stt.bad = false → v4 ≤ 4000 ∧ a ≤ 262148 * its.length) ∧ Hid (0 ≤ a ∧ a ≤ 2305843009213693952))
      case atStart => exact ⟨none, 0, 0, none, 0, 0, [], 0, stL, [], [], rfl, rfl, rfl, Lib.hid (BL4.start _ _), HR, HY1, HY2, Lib.hid (SR.nil _ _ (below_bare HK.out)), Lib.hid (SR.nil _ _ (below_bare HK.out)), Lib.hid (ItTs.nil _), Lib.hid (ChTs.nil _), Lib.hid ⟨(fun k h => by cases h), (fun k h => by cases h)⟩, HK, HSL, Lib.hid (fun h => ⟨HCN.out h, (by simp)⟩), Lib.hid ⟨(by decide), (by decide)⟩⟩
      case round =>
        clear HR HY1 HY2 HK
        obtain ⟨A, n, c, A2, n2, c2, its, a, stt, vs, vs2, hg, rfl, rfl, HBL, HR, HY1, HY2, HSI, HSC, HIT, HCT, HAN, HK, HRS, HBD, HAB⟩ := hrel
        obtain ⟨rr, bb⟩ := stt
        have c1 : wr.cell? ⟨R, 1, none⟩ = some (.bool bb) := HR.out.cell 1
        have hn : n = its.length := by rw [← HSI.out.len]; exact HIT.out.1
        have hn2 : n2 = its.length := by rw [← HSC.out.len, HCT.out.1, List.length_map]
        have HNN := Lib.hid hn
        have HNN2 := Lib.hid hn2
        have HGK := Lib.hid hg
        clear hn hn2 hg
        by_cases hgo : bb = false ∧ (n : Int) < v4
        · obtain ⟨rfl, hlt⟩ := hgo
          have hbl2 := HBL.out.step rfl (by rw [← HNN.out]; exact hlt) (HBD.out rfl).1
          have HB0 := Lib.hid (HBD.out rfl)
          have hcn := HB0.out.1
          have HITM := Lib.hid (ritem_any R a ⟨rr, false⟩ wr HR.out HRS.out HAB.out.1 (by have := HAB.out.2; omega))
          have hbx := rItm_bounds a ⟨rr, false⟩
          obtain ⟨⟨x, sx⟩, hp⟩ : ∃ p, rItm a ⟨rr, false⟩ = p := ⟨_, rfl⟩
          unfold ItPost at HITM
          rw [hp] at hbl2 HITM hbx
          simp only at hbl2 HITM hbx
          have HBL2 := Lib.hid hbl2
          have HBX := Lib.hid hbx
          have hx1 : 0 ≤ x.size := hbx.1
          have hx2 : x.size ≤ 1152921504606846976 := hbx.2.1
          have ha1 : 0 ≤ a := HAB.out.1
          have ha2 : a ≤ 262148 * 4000 := by have h1 := (HBD.out rfl).2; have h2 := HBL.out.1; omega
          have hnle : (n : Int) ≤ 4000 := by omega
          clear hbl2 hbx hp
          go_wp2_with fail
          refine HITM.out.mono ?_
          rintro e w1 ⟨⟨A', c', rfl, hlt1, hlc, hln⟩, hr1, hk1⟩
          have HL1 := Lib.hid hlt1
          have HLC := Lib.hid hlc
          have HR1 := Lib.hid hr1
          have HKI := Lib.hid (KT.keep (E := 52) hk1 HR.out (by decide))
          have HKC := Lib.hid (KT.keep (E := 58) hk1 HR.out (by decide))
          have HKL := Lib.hid (KT.keep (E := 66) hk1 HR.out (by decide))
          have HK1 := Lib.hid (HK.out.trans hk1)
          have HY11 := Lib.hid (HY1.out.keep hk1 HNE.out.2.1)
          have HY21 := Lib.hid (HY2.out.keep hk1 HNE.out.2.2)
          have HSI1 := Lib.hid (HSI.out.kt HKI.out (below_bare HK1.out))
          have HSC1 := Lib.hid (HSC.out.kt HKC.out (below_bare HK1.out))
          have HIT1 := Lib.hid (HIT.out.kt HKL.out)
          have HCT1 := Lib.hid (HCT.out.kt HKL.out)
          have HX := Lib.hid (At.new w1 (itC 0 none 0 0 Zn.zero 0 0) 52)
          clear hlt1 hlc hln hr1 hk1 HITM HR HY1 HY2 HSI HSC HIT HCT HKI HKC HKL HK c1
          go_wp2_with (refine wpList_store_at rfl 52 (.tmp 9) (.tmp 45) rfl w1.heap.size (itC x.sig A' x.labs.length c' x.zone x.off x.size) rfl rfl 52 _ HX.out size_item rfl (itC_one _ _ _ _ _ _ _) ?_)
          intro w2 HW2
          have HRR : Hid (Below w1.heap.size w1 w2) := Lib.hid (by rw [HW2.out]; exact below_row ((Below.refl _ _).alloc (Nat.le_refl _) _) _ _ (Nat.le_refl _))
          have HX2 : Hid (At w2 w1.heap.size (itC x.sig A' x.labs.length c' x.zone x.off x.size) 52) := Lib.hid (by rw [HW2.out]; exact HX.out.row)
          have HK2 := Lib.hid (HK1.out.trans (Keep.below HRR.out))
          have HR2 := Lib.hid (HR1.out.below HRR.out)
          have HY12 := Lib.hid (HY11.out.below HRR.out)
          have HY22 := Lib.hid (HY21.out.below HRR.out)
          have HSI2 := Lib.hid (HSI1.out.kt (KT.below HRR.out) (below_bare HK2.out))
          have HSC2 := Lib.hid (HSC1.out.kt (KT.below HRR.out) (below_bare HK2.out))
          have HIT2 := Lib.hid (HIT1.out.kt (KT.below HRR.out))
          have HCT2 := Lib.hid (HCT1.out.kt (KT.below HRR.out))
          have HL2 := Lib.hid (HL1.out.kt (KT.below HRR.out))
          have HAX : Hid (A.map (·.block) ≠ some w1.heap.size) := Lib.hid (fun e => by have := (HSI1.out.lt _ e).2; omega)
          have HAX2 : Hid (A2.map (·.block) ≠ some w1.heap.size) := Lib.hid (fun e => by have := (HSC1.out.lt _ e).2; omega)
          obtain ⟨V, hV⟩ : ∃ V, V = itC x.sig A' x.labs.length c' x.zone x.off x.size := ⟨_, rfl⟩
          rw [← hV] at HX2
          have hcs : V.size = 17 := by rw [hV]; rfl
          have HV1 : Hid ((V.all fun v => v.oneCell') = true) := Lib.hid (by rw [hV]; exact itC_one _ _ _ _ _ _ _)
          have HV := Lib.hid hV
          clear hV
          clear HW2 HX HR1 HY11 HY21 HSI1 HSC1 HIT1 HCT1 HL1 HRR HK1
          go_wp2_with (first | (refine wpList_load_row rfl 52 (.tmp 9) rfl w1.heap.size rfl 52 V (0, 0) _ HX2.out.out Tryz.underlying52 rfl (by rw [hcs]; exact size_item) ?_) | (refine wpList_bsItem rfl (.tmp 47) rfl V _ _ _ _ _ _ _ HV.out rfl ?_) | (at_builtin; (refine wpList_elem rfl (.tmp 46) (.tmp 48) 29 52 i0 _ 17 120 Tryz.underlying29 hi hz0 hz1 hz2 zero_itemS (by decide) rfl HSI2.out V hcs HV1.out rfl rfl (by omega) (by decide) ?_)))
          intro A3 n3 c3 l3 w3 HE3 hS3 hG3
          have HS3 := Lib.hid hS3
          have HKL3 := Lib.hid (hG3.kt (E := 66) HSI2.out (by decide))
          have HKC3 := Lib.hid (hG3.kt (E := 58) HSI2.out (by decide))
          have HK3 := Lib.hid (HK2.out.grown hG3.grow (fun k e => .inl (HAN.out.1 k e)))
          have HX3 := Lib.hid (hG3.at_ HX2.out HAX.out)
          have HR3 := Lib.hid (hG3.at_ HR2.out (HSI2.out.ty.ne HR2.out (by decide)))
          have HY13 := Lib.hid (hG3.at_ HY12.out (HSI2.out.ty.ne HY12.out (by decide)))
          have HY23 := Lib.hid (hG3.at_ HY22.out (HSI2.out.ty.ne HY22.out (by decide)))
          have HSC3 := Lib.hid (HSC2.out.kt HKC3.out (below_bare HK3.out))
          have HCT3 := Lib.hid (HCT2.out.kt HKL3.out)
          have HL3 := Lib.hid (HL2.out.kt HKL3.out)
          have HIT3 : Hid (ItTs w3 l3 (its ++ [x])) := Lib.hid (by rw [HE3.out]; exact (HIT2.out.kt HKL3.out).snoc ⟨A', c', HV.out, HL3.out, HLC.out⟩)
          have HAN3 : Hid (∀ k, A3.map (·.block) = some k → w.heap.size ≤ k) := Lib.hid (fun k e => by
            rcases hG3.own with h | ⟨g, h, hge⟩
            · rw [h] at e; exact HAN.out.1 k e
            · rw [h] at e
              injection e with e
              have := HK2.out.size
              omega)
          rw [HV.out] at HX3
          have e0 : w3.cell? ⟨w1.heap.size, 0, none⟩ = some (.int .i64 x.sig) := HX3.out.cell 0
          have e1 : w3.cell? ⟨w1.heap.size, 1, none⟩ = some (.slice A' x.labs.length c') := HX3.out.cell 1
          have e3 : w3.cell? ⟨Y2, 3, none⟩ = some (.slice A2 n2 c2) := HY23.out.cell 3
          have HZ : Hid (w3.rangeAt w1.heap.size 2 [.int .i64 x.zone.count, .int .i64 x.zone.minT, .int .i64 x.zone.maxT, .int .i64 x.zone.minV, .int .i64 x.zone.maxV, .int .u32 x.zone.b0, .int .u32 x.zone.b1, .int .u32 x.zone.b2, .int .u32 x.zone.b3, .int .u32 x.zone.b4, .int .u32 x.zone.b5, .int .u32 x.zone.b6, .int .u32 x.zone.b7]) := Lib.hid (World.rangeAt_of_block (n := 13) HX3.out.out 2)
          clear hS3 hG3 HR2 HY12 HY22 HSI2 HSC2 HIT2 HCT2 HL2 HX2 HK2 HAX HKC3
          have hn2le : n2 + 1 ≤ 1000000 := by have h1 := HNN.out; have h2 := HNN2.out; omega
          clear hcs HV1
          go_upto_region 15 with fail
          go_wp2_with (first | (refine wpList_load_mid rfl 50 (.tmp 56) rfl w1.heap.size 2 rfl _ _ HZ.out Tryz.underlying50 rfl size_zone ?_) | (at_builtin; (refine wpList_elem rfl (.tmp 51) (.tmp 59) 23 58 i1 _ 16 120 Tryz.underlying23 hi1 hy0 hy1 hy2 rfl (by decide) rfl HSC3.out (chC x.sig A' x.labs.length c' x.zone ⟨#[]⟩) rfl (chC_one _ _ _ _ _ _) rfl rfl hn2le (by decide) ?_)))
          intro A4 n4 c4 l4 w4 HE4 hS4 hG4
          have HKL4 := Lib.hid (hG4.kt (E := 66) HSC3.out (by decide))
          have HKI4 := Lib.hid (hG4.kt (E := 52) HSC3.out (by decide))
          have HK4 := Lib.hid (HK3.out.grown hG4.grow (fun k e => .inl (HAN.out.2 k e)))
          have HX4 := Lib.hid (hG4.at_ HX3.out HAX2.out)
          have HR4 := Lib.hid (hG4.at_ HR3.out (HSC3.out.ty.ne HR3.out (by decide)))
          have HY14 := Lib.hid (hG4.at_ HY13.out (HSC3.out.ty.ne HY13.out (by decide)))
          have HY24 := Lib.hid (hG4.at_ HY23.out (HSC3.out.ty.ne HY23.out (by decide)))
          have HCT4 : Hid (ChTs w4 l4 ((its ++ [x]).map chkOf)) := Lib.hid (by rw [HE4.out, List.map_append]; exact (HCT3.out.kt HKL4.out).snoc ⟨A', c', rfl, HL3.out.kt HKL4.out, HLC.out⟩)
          have HIT4 := Lib.hid (HIT3.out.kt HKL4.out)
          have HAN4 : Hid (∀ k, A4.map (·.block) = some k → w.heap.size ≤ k) := Lib.hid (fun k e => by
            rcases hG4.own with h | ⟨g, h, hge⟩
            · rw [h] at e; exact HAN.out.2 k e
            · rw [h] at e
              injection e with e
              have := HK3.out.size
              omega)
          have e16 : w4.cell? ⟨w1.heap.size, 16, none⟩ = some (.int .i64 x.size) := HX4.out.cell 16
          have e3 : w4.cell? ⟨Y2, 3, none⟩ = some (.slice A2 n2 c2) := HY24.out.cell 3
          have g3 : w4.frozen? ⟨Y2, 3, none⟩ = false := HY24.out.free 3
          have hXY : w1.heap.size ≠ Y2 := fun e => by
            have h1 := HX4.out.out
            rw [e, HY24.out.out] at h1
            injection h1 with h1
            injection h1 with _ h1 _
            cases h1
          have HY25 : Hid (At (w4.setCell ⟨Y2, 3, none⟩ (.slice A4 n4 c4)) Y2 #[.int .i64 v1, .int .i64 v2, .int .i64 v3, .slice A4 n4 c4] 25) := Lib.hid (HY24.out.set 3 _)
          have HY15 := Lib.hid (HY14.out.other (a := ⟨Y2, 3, none⟩) (.slice A4 n4 c4) HNE.out.1)
          have HR5 := Lib.hid (HR4.out.other (a := ⟨Y2, 3, none⟩) (.slice A4 n4 c4) HNE.out.2.2.symm)
          have HK5 := Lib.hid (HK4.out.setNew Y2 3 HN2.out.2 (.slice A4 n4 c4))
          have HSI5 := Lib.hid (HS3.out.kt (HKI4.out.trans (KT.set HY24.out (by decide) 3 (.slice A4 n4 c4))) (below_bare HK5.out))
          have HSC5 := Lib.hid (hS4.kt (KT.set HY24.out (by decide) 3 (.slice A4 n4 c4)) (below_bare HK5.out))
          have HIT5 := Lib.hid (HIT4.out.kt (KT.set HY24.out (by decide) 3 (.slice A4 n4 c4)))
          have HCT5 := Lib.hid (HCT4.out.kt (KT.set HY24.out (by decide) 3 (.slice A4 n4 c4)))
          have HX5 := Lib.hid (HX4.out.other (a := ⟨Y2, 3, none⟩) (.slice A4 n4 c4) hXY)
          have f16 : (w4.setCell ⟨Y2, 3, none⟩ (.slice A4 n4 c4)).cell? ⟨w1.heap.size, 16, none⟩ = some (.int .i64 x.size) := HX5.out.cell 16
          have HBD2 : Hid (sx.bad = false → v4 ≤ 4000 ∧ a + x.size ≤ 262148 * (its ++ [x]).length) := Lib.hid (fun h => ⟨HB0.out.1, by
            have h1 := HB0.out.2
            have h2 := HBX.out.2.2.2 h
            rw [List.length_append]
            simp
            omega⟩)
          have HAB2 : Hid (0 ≤ a + x.size ∧ a + x.size ≤ 2305843009213693952) := Lib.hid (by omega)
          have HRS2 : Hid (sx.rest.size ≤ 1000000) := Lib.hid (by have h1 := HBX.out.2.2.1; have h2 := HRS.out; exact Nat.le_trans h1 h2)
          have HGM : Hid (4001 - (its ++ [x]).length < gk) := Lib.hid (by have h1 := HGK.out; have h2 := HBL2.out.1; rw [h1]; rw [List.length_append] at h2 ⊢; simp at h2 ⊢; omega)
          clear hS4 hG4 HKL4 HKI4 HK4 HX4 HR4 HY14 HY24 HCT4 HIT4 HX5 HS3 HKL3 HK3 HX3 HR3 HY13 HY23 HSC3 HCT3 HL3 HIT3 hXY e0 e1 HZ HAX2
          go_upto_region 16 with fail
          generalize w4.setCell ⟨Y2, 3, none⟩ (.slice A4 n4 c4) = w5 at *
          clear e16 e3 g3
          go_wp2_with fail
          go_roundg (4001 - (its ++ [x]).length)
          case measure => exact HGM.out
          case rel => exact ⟨A3, n3, c3, A4, n4, c4, its ++ [x], a + x.size, sx, l3, l4, rfl, rfl, rfl, HBL2, HR5, HY15, HY25, HSI5, HSC5, HIT5, HCT5, Lib.hid ⟨HAN3.out, HAN4.out⟩, HK5, HRS2, HBD2, HAB2⟩
        · have hstop := HBL.out.stop (by rw [← HNN.out]; exact hgo)
          have HRB : Hid (rBlk st = ⟨v1, v2, v3, its, a, ⟨rr, bb⟩⟩) := Lib.hid (by rw [HB4.out, hstop])
          have HKI1 := Lib.hid (KT.row (E := 52) HY1.out (by decide) #[.int .i64 v1, .int .i64 v2, .int .i64 v3, .slice A2 n2 c2])
          have HKC1 := Lib.hid (KT.row (E := 58) HY1.out (by decide) #[.int .i64 v1, .int .i64 v2, .int .i64 v3, .slice A2 n2 c2])
          have HKL1 := Lib.hid (KT.row (E := 66) HY1.out (by decide) #[.int .i64 v1, .int .i64 v2, .int .i64 v3, .slice A2 n2 c2])
          cases bb
          all_goals
            first
            | (have hge : v4 ≤ (n : Int) := by simp at hgo; omega)
            | (have hge : True := trivial)
            clear hgo
            go_wp2_with (first | (refine wpList_load_row rfl 25 (.tmp 5) rfl Y2 rfl 25 #[.int .i64 v1, .int .i64 v2, .int .i64 v3, .slice A2 n2 c2] (0, 0) _ HY2.out.out Tryz.underlying25 rfl size_blk ?_) | (refine wpList_store_at rfl 25 (.tmp 2) (.tmp 66) rfl Y1 #[.int .i64 v1, .int .i64 v2, .int .i64 v3, .slice A2 n2 c2] rfl rfl 25 _ HY1.out size_blk rfl (by simp [Value.oneCell']) ?_))
            intro w9 HW9
            have HY9 : Hid (At w9 Y1 #[.int .i64 v1, .int .i64 v2, .int .i64 v3, .slice A2 n2 c2] 25) := Lib.hid (by rw [HW9.out]; exact HY1.out.row)
            have HR9 : Hid (At w9 R (rsC (rBlk st).st) 115) := Lib.hid (by rw [HW9.out, HRB.out]; exact HR.out.rowOther HNE.out.2.1.symm)
            have HK9 : Hid (Keep R w w9) := Lib.hid (by rw [HW9.out]; exact HK.out.rowNew HN2.out.1)
            rw [← HW9.out] at HKI1 HKC1 HKL1
            have HSI9 := Lib.hid (HSI.out.kt HKI1.out (below_bare HK9.out))
            have HSC9 := Lib.hid (HSC.out.kt HKC1.out (below_bare HK9.out))
            have HIT9 := Lib.hid (HIT.out.kt HKL1.out)
            have HCT9 := Lib.hid (HCT.out.kt HKL1.out)
            go_wp2_with fail
            refine bodyPost_ret (results_row_tmp2 rfl _ _ Y1 25 _ _ rfl HY9.out Tryz.underlying25 rfl size_blk) rfl ⟨?_, HR9.out, HK9.out⟩
            rw [HRB.out]
            refine ⟨A, c, A2, c2, ?_, ⟨vs, HSI9.out.rd, HSI9.out.ty, HIT9.out⟩, by rw [← HNN.out]; exact HSI9.out.cap, HSC9.out.chRow HCT9.out, by rw [← HNN2.out]; exact HSC9.out.cap, HAN.out.2⟩
            unfold blC RB.blk
            simp only [List.length_map]
            have en : n2 = n := HNN2.out.trans HNN.out.symm
            rw [← HNN.out, en]
            rfl
    · have HB4 := HB3
      rw [if_neg hbig] at HB4
      have hle : v4 ≤ 4000 := by omega
      have HLE := Lib.hid hle
      clear hbig
      clear HB3
      go_upto_region 12 with fail
      obtain ⟨w10, hw10⟩ : ∃ w10, w10 = w9 := ⟨_, rfl⟩
      rw [← hw10] at HR HY1 HY2 HK
      rw [← hw10]
      clear c1 f1 hle hw10
      obtain ⟨stL, hst⟩ : ∃ s : RS, s = ⟨r4, b4⟩ := ⟨_, rfl⟩
      rw [← hst] at HR HB4
      have HSL : Hid (stL.rest.size ≤ 1000000) := Lib.hid (by rw [hst]; exact HS4.out)
      have HCN : Hid (stL.bad = false → v4 ≤ 4000) := Lib.hid (fun _ => HLE.out)
      clear hst HS4
      obtain ⟨i0, hi, hz0, hz1, hz2⟩ := info_parts info_itemS
      obtain ⟨i1, hi1, hy0, hy1, hy2⟩ := info_parts info_chunkS
      go_loopg [7, 8] 4001 (fun g u7 u8 wr => ∃ (A : Option Addr) (n c : Nat) (A2 : Option Addr) (n2 c2 : Nat) (its : List Itm) (a : Int) (stt : RS) (vs vs2 : List (Array Value)), g = 4001 - its.length ∧ u7 = .slice A n c ∧ u8 = .int .i64 a ∧ Hid (BL4 v4 stL its a stt) ∧ Hid (At wr R (rsC stt) 115) ∧ Hid (At wr Y1 (blC ⟨0, 0, 0, []⟩ none 0) 25) ∧ Hid (At wr Y2 #[.int .i64 v1, .int .i64 v2, .int .i64 v3, .slice A2 n2 c2] 25) ∧
          Hid (SR (bareW w) 52 17 A n c vs wr) ∧ Hid (SR (bareW w) 58 16 A2 n2 c2 vs2 wr) ∧ Hid (ItTs wr vs its) ∧ Hid (ChTs wr vs2 (its.map chkOf)) ∧ Hid ((∀ k, A.map (·.block) = some k → w.heap.size ≤ k) ∧ ∀ k, A2.map (·.block) = some k → w.heap.size ≤ k) ∧ Hid (Keep R w wr) ∧ Hid (stt.rest.size ≤ 1000000) ∧ Hid (stt.bad = false → v4 ≤ 4000 ∧ a ≤ 262148 * its.length) ∧ Hid (0 ≤ a ∧ a ≤ 2305843009213693952))
      case atStart => exact ⟨none, 0, 0, none, 0, 0, [], 0, stL, [], [], rfl, rfl, rfl, Lib.hid (BL4.start _ _), HR, HY1, HY2, Lib.hid (SR.nil _ _ (below_bare HK.out)), Lib.hid (SR.nil _ _ (below_bare HK.out)), Lib.hid (ItTs.nil _), Lib.hid (ChTs.nil _), Lib.hid ⟨(fun k h => by cases h), (fun k h => by cases h)⟩, HK, HSL, Lib.hid (fun h => ⟨HCN.out h, (by simp)⟩), Lib.hid ⟨(by decide), (by decide)⟩⟩
      case round =>
        clear HR HY1 HY2 HK
        obtain ⟨A, n, c, A2, n2, c2, its, a, stt, vs, vs2, hg, rfl, rfl, HBL, HR, HY1, HY2, HSI, HSC, HIT, HCT, HAN, HK, HRS, HBD, HAB⟩ := hrel
        obtain ⟨rr, bb⟩ := stt
        have c1 : wr.cell? ⟨R, 1, none⟩ = some (.bool bb) := HR.out.cell 1
        have hn : n = its.length := by rw [← HSI.out.len]; exact HIT.out.1
        have hn2 : n2 = its.length := by rw [← HSC.out.len, HCT.out.1, List.length_map]
        have HNN := Lib.hid hn
        have HNN2 := Lib.hid hn2
        have HGK := Lib.hid hg
        clear hn hn2 hg
        by_cases hgo : bb = false ∧ (n : Int) < v4
        · obtain ⟨rfl, hlt⟩ := hgo
          have hbl2 := HBL.out.step rfl (by rw [← HNN.out]; exact hlt) (HBD.out rfl).1
          have HB0 := Lib.hid (HBD.out rfl)
          have hcn := HB0.out.1
          have HITM := Lib.hid (ritem_any R a ⟨rr, false⟩ wr HR.out HRS.out HAB.out.1 (by have := HAB.out.2; omega))
          have hbx := rItm_bounds a ⟨rr, false⟩
          obtain ⟨⟨x, sx⟩, hp⟩ : ∃ p, rItm a ⟨rr, false⟩ = p := ⟨_, rfl⟩
          unfold ItPost at HITM
          rw [hp] at hbl2 HITM hbx
          simp only at hbl2 HITM hbx
          have HBL2 := Lib.hid hbl2
          have HBX := Lib.hid hbx
          have hx1 : 0 ≤ x.size := hbx.1
          have hx2 : x.size ≤ 1152921504606846976 := hbx.2.1
          have ha1 : 0 ≤ a := HAB.out.1
          have ha2 : a ≤ 262148 * 4000 := by have h1 := (HBD.out rfl).2; have h2 := HBL.out.1; omega
          have hnle : (n : Int) ≤ 4000 := by omega
          clear hbl2 hbx hp
          go_wp2_with fail
          refine HITM.out.mono ?_
          rintro e w1 ⟨⟨A', c', rfl, hlt1, hlc, hln⟩, hr1, hk1⟩
          have HL1 := Lib.hid hlt1
          have HLC := Lib.hid hlc
          have HR1 := Lib.hid hr1
          have HKI := Lib.hid (KT.keep (E := 52) hk1 HR.out (by decide))
          have HKC := Lib.hid (KT.keep (E := 58) hk1 HR.out (by decide))
          have HKL := Lib.hid (KT.keep (E := 66) hk1 HR.out (by decide))
          have HK1 := Lib.hid (HK.out.trans hk1)
          have HY11 := Lib.hid (HY1.out.keep hk1 HNE.out.2.1)
          have HY21 := Lib.hid (HY2.out.keep hk1 HNE.out.2.2)
          have HSI1 := Lib.hid (HSI.out.kt HKI.out (below_bare HK1.out))
          have HSC1 := Lib.hid (HSC.out.kt HKC.out (below_bare HK1.out))
          have HIT1 := Lib.hid (HIT.out.kt HKL.out)
          have HCT1 := Lib.hid (HCT.out.kt HKL.out)
          have HX := Lib.hid (At.new w1 (itC 0 none 0 0 Zn.zero 0 0) 52)
          clear hlt1 hlc hln hr1 hk1 HITM HR HY1 HY2 HSI HSC HIT HCT HKI HKC HKL HK c1
          go_wp2_with (refine wpList_store_at rfl 52 (.tmp 9) (.tmp 45) rfl w1.heap.size (itC x.sig A' x.labs.length c' x.zone x.off x.size) rfl rfl 52 _ HX.out size_item rfl (itC_one _ _ _ _ _ _ _) ?_)
          intro w2 HW2
          have HRR : Hid (Below w1.heap.size w1 w2) := Lib.hid (by rw [HW2.out]; exact below_row ((Below.refl _ _).alloc (Nat.le_refl _) _) _ _ (Nat.le_refl _))
          have HX2 : Hid (At w2 w1.heap.size (itC x.sig A' x.labs.length c' x.zone x.off x.size) 52) := Lib.hid (by rw [HW2.out]; exact HX.out.row)
          have HK2 := Lib.hid (HK1.out.trans (Keep.below HRR.out))
          have HR2 := Lib.hid (HR1.out.below HRR.out)
          have HY12 := Lib.hid (HY11.out.below HRR.out)
          have HY22 := Lib.hid (HY21.out.below HRR.out)
          have HSI2 := Lib.hid (HSI1.out.kt (KT.below HRR.out) (below_bare HK2.out))
          have HSC2 := Lib.hid (HSC1.out.kt (KT.below HRR.out) (below_bare HK2.out))
          have HIT2 := Lib.hid (HIT1.out.kt (KT.below HRR.out))
          have HCT2 := Lib.hid (HCT1.out.kt (KT.below HRR.out))
          have HL2 := Lib.hid (HL1.out.kt (KT.below HRR.out))
          have HAX : Hid (A.map (·.block) ≠ some w1.heap.size) := Lib.hid (fun e => by have := (HSI1.out.lt _ e).2; omega)
          have HAX2 : Hid (A2.map (·.block) ≠ some w1.heap.size) := Lib.hid (fun e => by have := (HSC1.out.lt _ e).2; omega)
          obtain ⟨V, hV⟩ : ∃ V, V = itC x.sig A' x.labs.length c' x.zone x.off x.size := ⟨_, rfl⟩
          rw [← hV] at HX2
          have hcs : V.size = 17 := by rw [hV]; rfl
          have HV1 : Hid ((V.all fun v => v.oneCell') = true) := Lib.hid (by rw [hV]; exact itC_one _ _ _ _ _ _ _)
          have HV := Lib.hid hV
          clear hV
          clear HW2 HX HR1 HY11 HY21 HSI1 HSC1 HIT1 HCT1 HL1 HRR HK1
          go_wp2_with (first | (refine wpList_load_row rfl 52 (.tmp 9) rfl w1.heap.size rfl 52 V (0, 0) _ HX2.out.out Tryz.underlying52 rfl (by rw [hcs]; exact size_item) ?_) | (refine wpList_bsItem rfl (.tmp 47) rfl V _ _ _ _ _ _ _ HV.out rfl ?_) | (at_builtin; (refine wpList_elem rfl (.tmp 46) (.tmp 48) 29 52 i0 _ 17 120 Tryz.underlying29 hi hz0 hz1 hz2 zero_itemS (by decide) rfl HSI2.out V hcs HV1.out rfl rfl (by omega) (by decide) ?_)))
          intro A3 n3 c3 l3 w3 HE3 hS3 hG3
          have HS3 := Lib.hid hS3
          have HKL3 := Lib.hid (hG3.kt (E := 66) HSI2.out (by decide))
          have HKC3 := Lib.hid (hG3.kt (E := 58) HSI2.out (by decide))
          have HK3 := Lib.hid (HK2.out.grown hG3.grow (fun k e => .inl (HAN.out.1 k e)))
          have HX3 := Lib.hid (hG3.at_ HX2.out HAX.out)
          have HR3 := Lib.hid (hG3.at_ HR2.out (HSI2.out.ty.ne HR2.out (by decide)))
          have HY13 := Lib.hid (hG3.at_ HY12.out (HSI2.out.ty.ne HY12.out (by decide)))
          have HY23 := Lib.hid (hG3.at_ HY22.out (HSI2.out.ty.ne HY22.out (by decide)))
          have HSC3 := Lib.hid (HSC2.out.kt HKC3.out (below_bare HK3.out))
          have HCT3 := Lib.hid (HCT2.out.kt HKL3.out)
          have HL3 := Lib.hid (HL2.out.kt HKL3.out)
          have HIT3 : Hid (ItTs w3 l3 (its ++ [x])) := Lib.hid (by rw [HE3.out]; exact (HIT2.out.kt HKL3.out).snoc ⟨A', c', HV.out, HL3.out, HLC.out⟩)
          have HAN3 : Hid (∀ k, A3.map (·.block) = some k → w.heap.size ≤ k) := Lib.hid (fun k e => by
            rcases hG3.own with h | ⟨g, h, hge⟩
            · rw [h] at e; exact HAN.out.1 k e
            · rw [h] at e
              injection e with e
              have := HK2.out.size
              omega)
          rw [HV.out] at HX3
          have e0 : w3.cell? ⟨w1.heap.size, 0, none⟩ = some (.int .i64 x.sig) := HX3.out.cell 0
          have e1 : w3.cell? ⟨w1.heap.size, 1, none⟩ = some (.slice A' x.labs.length c') := HX3.out.cell 1
          have e3 : w3.cell? ⟨Y2, 3, none⟩ = some (.slice A2 n2 c2) := HY23.out.cell 3
          have HZ : Hid (w3.rangeAt w1.heap.size 2 [.int .i64 x.zone.count, .int .i64 x.zone.minT, .int .i64 x.zone.maxT, .int .i64 x.zone.minV, .int .i64 x.zone.maxV, .int .u32 x.zone.b0, .int .u32 x.zone.b1, .int .u32 x.zone.b2, .int .u32 x.zone.b3, .int .u32 x.zone.b4, .int .u32 x.zone.b5, .int .u32 x.zone.b6, .int .u32 x.zone.b7]) := Lib.hid (World.rangeAt_of_block (n := 13) HX3.out.out 2)
          clear hS3 hG3 HR2 HY12 HY22 HSI2 HSC2 HIT2 HCT2 HL2 HX2 HK2 HAX HKC3
          have hn2le : n2 + 1 ≤ 1000000 := by have h1 := HNN.out; have h2 := HNN2.out; omega
          clear hcs HV1
          go_upto_region 15 with fail
          go_wp2_with (first | (refine wpList_load_mid rfl 50 (.tmp 56) rfl w1.heap.size 2 rfl _ _ HZ.out Tryz.underlying50 rfl size_zone ?_) | (at_builtin; (refine wpList_elem rfl (.tmp 51) (.tmp 59) 23 58 i1 _ 16 120 Tryz.underlying23 hi1 hy0 hy1 hy2 rfl (by decide) rfl HSC3.out (chC x.sig A' x.labs.length c' x.zone ⟨#[]⟩) rfl (chC_one _ _ _ _ _ _) rfl rfl hn2le (by decide) ?_)))
          intro A4 n4 c4 l4 w4 HE4 hS4 hG4
          have HKL4 := Lib.hid (hG4.kt (E := 66) HSC3.out (by decide))
          have HKI4 := Lib.hid (hG4.kt (E := 52) HSC3.out (by decide))
          have HK4 := Lib.hid (HK3.out.grown hG4.grow (fun k e => .inl (HAN.out.2 k e)))
          have HX4 := Lib.hid (hG4.at_ HX3.out HAX2.out)
          have HR4 := Lib.hid (hG4.at_ HR3.out (HSC3.out.ty.ne HR3.out (by decide)))
          have HY14 := Lib.hid (hG4.at_ HY13.out (HSC3.out.ty.ne HY13.out (by decide)))
          have HY24 := Lib.hid (hG4.at_ HY23.out (HSC3.out.ty.ne HY23.out (by decide)))
          have HCT4 : Hid (ChTs w4 l4 ((its ++ [x]).map chkOf)) := Lib.hid (by rw [HE4.out, List.map_append]; exact (HCT3.out.kt HKL4.out).snoc ⟨A', c', rfl, HL3.out.kt HKL4.out, HLC.out⟩)
          have HIT4 := Lib.hid (HIT3.out.kt HKL4.out)
          have HAN4 : Hid (∀ k, A4.map (·.block) = some k → w.heap.size ≤ k) := Lib.hid (fun k e => by
            rcases hG4.own with h | ⟨g, h, hge⟩
            · rw [h] at e; exact HAN.out.2 k e
            · rw [h] at e
              injection e with e
              have := HK3.out.size
              omega)
          have e16 : w4.cell? ⟨w1.heap.size, 16, none⟩ = some (.int .i64 x.size) := HX4.out.cell 16
          have e3 : w4.cell? ⟨Y2, 3, none⟩ = some (.slice A2 n2 c2) := HY24.out.cell 3
          have g3 : w4.frozen? ⟨Y2, 3, none⟩ = false := HY24.out.free 3
          have hXY : w1.heap.size ≠ Y2 := fun e => by
            have h1 := HX4.out.out
            rw [e, HY24.out.out] at h1
            injection h1 with h1
            injection h1 with _ h1 _
            cases h1
          have HY25 : Hid (At (w4.setCell ⟨Y2, 3, none⟩ (.slice A4 n4 c4)) Y2 #[.int .i64 v1, .int .i64 v2, .int .i64 v3, .slice A4 n4 c4] 25) := Lib.hid (HY24.out.set 3 _)
          have HY15 := Lib.hid (HY14.out.other (a := ⟨Y2, 3, none⟩) (.slice A4 n4 c4) HNE.out.1)
          have HR5 := Lib.hid (HR4.out.other (a := ⟨Y2, 3, none⟩) (.slice A4 n4 c4) HNE.out.2.2.symm)
          have HK5 := Lib.hid (HK4.out.setNew Y2 3 HN2.out.2 (.slice A4 n4 c4))
          have HSI5 := Lib.hid (HS3.out.kt (HKI4.out.trans (KT.set HY24.out (by decide) 3 (.slice A4 n4 c4))) (below_bare HK5.out))
          have HSC5 := Lib.hid (hS4.kt (KT.set HY24.out (by decide) 3 (.slice A4 n4 c4)) (below_bare HK5.out))
          have HIT5 := Lib.hid (HIT4.out.kt (KT.set HY24.out (by decide) 3 (.slice A4 n4 c4)))
          have HCT5 := Lib.hid (HCT4.out.kt (KT.set HY24.out (by decide) 3 (.slice A4 n4 c4)))
          have HX5 := Lib.hid (HX4.out.other (a := ⟨Y2, 3, none⟩) (.slice A4 n4 c4) hXY)
          have f16 : (w4.setCell ⟨Y2, 3, none⟩ (.slice A4 n4 c4)).cell? ⟨w1.heap.size, 16, none⟩ = some (.int .i64 x.size) := HX5.out.cell 16
          have HBD2 : Hid (sx.bad = false → v4 ≤ 4000 ∧ a + x.size ≤ 262148 * (its ++ [x]).length) := Lib.hid (fun h => ⟨HB0.out.1, by
            have h1 := HB0.out.2
            have h2 := HBX.out.2.2.2 h
            rw [List.length_append]
            simp
            omega⟩)
          have HAB2 : Hid (0 ≤ a + x.size ∧ a + x.size ≤ 2305843009213693952) := Lib.hid (by omega)
          have HRS2 : Hid (sx.rest.size ≤ 1000000) := Lib.hid (by have h1 := HBX.out.2.2.1; have h2 := HRS.out; exact Nat.le_trans h1 h2)
          have HGM : Hid (4001 - (its ++ [x]).length < gk) := Lib.hid (by have h1 := HGK.out; have h2 := HBL2.out.1; rw [h1]; rw [List.length_append] at h2 ⊢; simp at h2 ⊢; omega)
          clear hS4 hG4 HKL4 HKI4 HK4 HX4 HR4 HY14 HY24 HCT4 HIT4 HX5 HS3 HKL3 HK3 HX3 HR3 HY13 HY23 HSC3 HCT3 HL3 HIT3 hXY e0 e1 HZ HAX2
          go_upto_region 16 with fail
          generalize w4.setCell ⟨Y2, 3, none⟩ (.slice A4 n4 c4) = w5 at *
          clear e16 e3 g3
          go_wp2_with fail
          go_roundg (4001 - (its ++ [x]).length)
          case measure => exact HGM.out
          case rel => exact ⟨A3, n3, c3, A4, n4, c4, its ++ [x], a + x.size, sx, l3, l4, rfl, rfl, rfl, HBL2, HR5, HY15, HY25, HSI5, HSC5, HIT5, HCT5, Lib.hid ⟨HAN3.out, HAN4.out⟩, HK5, HRS2, HBD2, HAB2⟩
        · have hstop := HBL.out.stop (by rw [← HNN.out]; exact hgo)
          have HRB : Hid (rBlk st = ⟨v1, v2, v3, its, a, ⟨rr, bb⟩⟩) := Lib.hid (by rw [HB4.out, hstop])
          have HKI1 := Lib.hid (KT.row (E := 52) HY1.out (by decide) #[.int .i64 v1, .int .i64 v2, .int .i64 v3, .slice A2 n2 c2])
          have HKC1 := Lib.hid (KT.row (E := 58) HY1.out (by decide) #[.int .i64 v1, .int .i64 v2, .int .i64 v3, .slice A2 n2 c2])
          have HKL1 := Lib.hid (KT.row (E := 66) HY1.out (by decide) #[.int .i64 v1, .int .i64 v2, .int .i64 v3, .slice A2 n2 c2])
          cases bb
          all_goals
            first
            | (have hge : v4 ≤ (n : Int) := by simp at hgo; omega)
            | (have hge : True := trivial)
            clear hgo
            go_wp2_with (first | (refine wpList_load_row rfl 25 (.tmp 5) rfl Y2 rfl 25 #[.int .i64 v1, .int .i64 v2, .int .i64 v3, .slice A2 n2 c2] (0, 0) _ HY2.out.out Tryz.underlying25 rfl size_blk ?_) | (refine wpList_store_at rfl 25 (.tmp 2) (.tmp 66) rfl Y1 #[.int .i64 v1, .int .i64 v2, .int .i64 v3, .slice A2 n2 c2] rfl rfl 25 _ HY1.out size_blk rfl (by simp [Value.oneCell']) ?_))
            intro w9 HW9
            have HY9 : Hid (At w9 Y1 #[.int .i64 v1, .int .i64 v2, .int .i64 v3, .slice A2 n2 c2] 25) := Lib.hid (by rw [HW9.out]; exact HY1.out.row)
            have HR9 : Hid (At w9 R (rsC (rBlk st).st) 115) := Lib.hid (by rw [HW9.out, HRB.out]; exact HR.out.rowOther HNE.out.2.1.symm)
            have HK9 : Hid (Keep R w w9) := Lib.hid (by rw [HW9.out]; exact HK.out.rowNew HN2.out.1)
            rw [← HW9.out] at HKI1 HKC1 HKL1
            have HSI9 := Lib.hid (HSI.out.kt HKI1.out (below_bare HK9.out))
            have HSC9 := Lib.hid (HSC.out.kt HKC1.out (below_bare HK9.out))
            have HIT9 := Lib.hid (HIT.out.kt HKL1.out)
            have HCT9 := Lib.hid (HCT.out.kt HKL1.out)
            go_wp2_with fail
            refine bodyPost_ret (results_row_tmp2 rfl _ _ Y1 25 _ _ rfl HY9.out Tryz.underlying25 rfl size_blk) rfl ⟨?_, HR9.out, HK9.out⟩
            rw [HRB.out]
            refine ⟨A, c, A2, c2, ?_, ⟨vs, HSI9.out.rd, HSI9.out.ty, HIT9.out⟩, by rw [← HNN.out]; exact HSI9.out.cap, HSC9.out.chRow HCT9.out, by rw [← HNN2.out]; exact HSC9.out.cap, HAN.out.2⟩
            unfold blC RB.blk
            simp only [List.length_map]
            have en : n2 = n := HNN2.out.trans HNN.out.symm
            rw [← HNN.out, en]
            rfl
  · have d1 : (!m.toList == [76, 75, 66, 49]) = true := by
      rw [Bool.not_eq_true', beq_eq_false_iff_ne, toList_bs]
      exact fun e => hm (bs_inj e)
    have HB2 : Hid (rBlk st = rBlk2 ⟨r0, true⟩) := Lib.hid (by rw [HBK.out, if_neg hm])
    clear hm HR HY1 HK HBK
    go_upto_region 3 with fail
    generalize w1.setCell ⟨R, 1, none⟩ (.bool true) = w1' at *
    have HY1 := HY12
    have HR := HR2
    have HK := HK2
    clear HY12 HR2 HK2 c1 f1
    have hlt : Y1 < w1'.heap.size := HY1.out.lt
    have hltR : R < w1'.heap.size := HR.out.lt
    have HY2 := Lib.hid (At.new w1' (blC ⟨0, 0, 0, []⟩ none 0) 25)
    replace HY1 := Lib.hid (HY1.out.alloc (.cells (blC ⟨0, 0, 0, []⟩ none 0) 25))
    replace HR := Lib.hid (HR.out.alloc (.cells (blC ⟨0, 0, 0, []⟩ none 0) 25))
    replace HK := Lib.hid (HK.out.alloc (.cells (blC ⟨0, 0, 0, []⟩ none 0) 25))
    obtain ⟨Y2, hY2⟩ : ∃ Y2, w1'.heap.size = Y2 := ⟨_, rfl⟩
    rw [hY2] at HY2
    have HE2 := Lib.hid hY2
    have HNE : Hid (Y1 ≠ Y2 ∧ Y1 ≠ R ∧ Y2 ≠ R) := Lib.hid (by have := HNR.out; omega)
    have HN2 : Hid (w.heap.size ≤ Y1 ∧ w.heap.size ≤ Y2) := Lib.hid (by have := HNR.out; omega)
    clear hY2 hlt hltR
    go_upto_region 4 with fail
    change Code.wp _ _ _ _ (w1'.alloc (.cells (blC ⟨0, 0, 0, []⟩ none 0) 25))
    generalize w1'.alloc (.cells (blC ⟨0, 0, 0, []⟩ none 0) 25) = w2 at *
    rw [HE2.out]
    clear HE2
    have hq1 := rNum_bounds ⟨r0, true⟩
    obtain ⟨⟨v1, s1⟩, e1⟩ : ∃ p, rNum ⟨r0, true⟩ = p := ⟨_, rfl⟩
    have hq2 := rNum_bounds s1
    obtain ⟨⟨v2, s2⟩, e2⟩ : ∃ p, rNum s1 = p := ⟨_, rfl⟩
    have hq3 := rNum_bounds s2
    obtain ⟨⟨v3, s3⟩, e3⟩ : ∃ p, rNum s2 = p := ⟨_, rfl⟩
    have hq4 := rNum_bounds s3
    obtain ⟨⟨v4, s4⟩, e4⟩ : ∃ p, rNum s3 = p := ⟨_, rfl⟩
    have HB3 := Lib.hid (HB2.out.trans (rBlk2_eq e1 e2 e3 e4))
    rw [e1] at hq1
    rw [e2] at hq2
    rw [e3] at hq3
    rw [e4] at hq4
    simp only at hq1 hq2 hq3 hq4
    have C1 : Hid (∀ W, At W R (rsC ⟨r0, true⟩) 115 → Calls Tryz.prog 95 #[.pointer (some ⟨R, 0, none⟩)] W fun e w' => e = .returned (.int .i64 v1) ∧ At w' R (rsC s1) 115 ∧ Keep R W w') := Lib.hid fun W h => by have := rnumber_any R ⟨r0, true⟩ W h (by have := HS0.out; show r0.size ≤ _; omega); rw [e1] at this; exact this
    have C2 : Hid (∀ W, At W R (rsC s1) 115 → Calls Tryz.prog 95 #[.pointer (some ⟨R, 0, none⟩)] W fun e w' => e = .returned (.int .i64 v2) ∧ At w' R (rsC s2) 115 ∧ Keep R W w') := Lib.hid fun W h => by have := rnumber_any R s1 W h (by have := HS0.out; omega); rw [e2] at this; exact this
    have C3 : Hid (∀ W, At W R (rsC s2) 115 → Calls Tryz.prog 95 #[.pointer (some ⟨R, 0, none⟩)] W fun e w' => e = .returned (.int .i64 v3) ∧ At w' R (rsC s3) 115 ∧ Keep R W w') := Lib.hid fun W h => by have := rnumber_any R s2 W h (by have := HS0.out; omega); rw [e3] at this; exact this
    have C4 : Hid (∀ W, At W R (rsC s3) 115 → Calls Tryz.prog 95 #[.pointer (some ⟨R, 0, none⟩)] W fun e w' => e = .returned (.int .i64 v4) ∧ At w' R (rsC s4) 115 ∧ Keep R W w') := Lib.hid fun W h => by have := rnumber_any R s3 W h (by have := HS0.out; omega); rw [e4] at this; exact this
    have HS4 : Hid (s4.rest.size ≤ 1000000) := Lib.hid (by have := HS0.out; omega)
    obtain ⟨q1, q2, _⟩ := hq4
    clear hq1 hq2 hq3 e1 e2 e3 e4 HB2 hr0
    go_wp2_with fail
    refine (C1.out w2 HR.out).mono ?_
    rintro e w3 ⟨rfl, hr, hk⟩
    replace HY1 := Lib.hid (HY1.out.keep hk HNE.out.2.1)
    replace HY2 := Lib.hid (HY2.out.keep hk HNE.out.2.2)
    replace HK := Lib.hid (HK.out.trans hk)
    replace HR := Lib.hid hr
    clear hr hk
    have cx : w3.cell? ⟨Y2, 0, none⟩ = some (.int .i64 0) := HY2.out.cell 0
    have fx : w3.frozen? ⟨Y2, 0, none⟩ = false := HY2.out.free 0
    replace HY2 := Lib.hid (HY2.out.set 0 (.int .i64 v1))
    replace HY1 := Lib.hid (HY1.out.other (a := ⟨Y2, 0, none⟩) (.int .i64 v1) HNE.out.1)
    replace HR := Lib.hid (HR.out.other (a := ⟨Y2, 0, none⟩) (.int .i64 v1) HNE.out.2.2.symm)
    replace HK := Lib.hid (HK.out.setNew Y2 0 (by have := HN2.out; omega) (.int .i64 v1))
    go_upto_region 5 with fail
    generalize w3.setCell ⟨Y2, 0, none⟩ (.int .i64 v1) = w4 at *
    clear cx fx
    go_wp2_with fail
    refine (C2.out w4 HR.out).mono ?_
    rintro e w5 ⟨rfl, hr, hk⟩
    replace HY1 := Lib.hid (HY1.out.keep hk HNE.out.2.1)
    replace HY2 := Lib.hid (HY2.out.keep hk HNE.out.2.2)
    replace HK := Lib.hid (HK.out.trans hk)
    replace HR := Lib.hid hr
    clear hr hk
    have cx : w5.cell? ⟨Y2, 1, none⟩ = some (.int .i64 0) := HY2.out.cell 1
    have fx : w5.frozen? ⟨Y2, 1, none⟩ = false := HY2.out.free 1
    replace HY2 := Lib.hid (HY2.out.set 1 (.int .i64 v2))
    replace HY1 := Lib.hid (HY1.out.other (a := ⟨Y2, 1, none⟩) (.int .i64 v2) HNE.out.1)
    replace HR := Lib.hid (HR.out.other (a := ⟨Y2, 1, none⟩) (.int .i64 v2) HNE.out.2.2.symm)
    replace HK := Lib.hid (HK.out.setNew Y2 1 (by have := HN2.out; omega) (.int .i64 v2))
    go_upto_region 6 with fail
    generalize w5.setCell ⟨Y2, 1, none⟩ (.int .i64 v2) = w6 at *
    clear cx fx
    go_wp2_with fail
    refine (C3.out w6 HR.out).mono ?_
    rintro e w7 ⟨rfl, hr, hk⟩
    replace HY1 := Lib.hid (HY1.out.keep hk HNE.out.2.1)
    replace HY2 := Lib.hid (HY2.out.keep hk HNE.out.2.2)
    replace HK := Lib.hid (HK.out.trans hk)
    replace HR := Lib.hid hr
    clear hr hk
    have cx : w7.cell? ⟨Y2, 2, none⟩ = some (.int .i64 0) := HY2.out.cell 2
    have fx : w7.frozen? ⟨Y2, 2, none⟩ = false := HY2.out.free 2
    replace HY2 := Lib.hid (HY2.out.set 2 (.int .i64 v3))
    replace HY1 := Lib.hid (HY1.out.other (a := ⟨Y2, 2, none⟩) (.int .i64 v3) HNE.out.1)
    replace HR := Lib.hid (HR.out.other (a := ⟨Y2, 2, none⟩) (.int .i64 v3) HNE.out.2.2.symm)
    replace HK := Lib.hid (HK.out.setNew Y2 2 (by have := HN2.out; omega) (.int .i64 v3))
    go_upto_region 7 with fail
    generalize w7.setCell ⟨Y2, 2, none⟩ (.int .i64 v3) = w8 at *
    clear cx fx
    go_wp2_with fail
    refine (C4.out w8 HR.out).mono ?_
    rintro e w9 ⟨rfl, hr, hk⟩
    replace HY1 := Lib.hid (HY1.out.keep hk HNE.out.2.1)
    replace HY2 := Lib.hid (HY2.out.keep hk HNE.out.2.2)
    replace HK := Lib.hid (HK.out.trans hk)
    replace HR := Lib.hid hr
    clear hr hk
    replace HY2 : Hid (At w9 Y2 (blC ⟨v1, v2, v3, []⟩ none 0) 25) := Lib.hid HY2.out
    obtain ⟨r4, b4⟩ := s4
    have c1 : w9.cell? ⟨R, 1, none⟩ = some (.bool b4) := HR.out.cell 1
    have f1 : w9.frozen? ⟨R, 1, none⟩ = false := HR.out.free 1
    clear C1 C2 C3 C4
    by_cases hbig : 4000 < v4
    · have HB4 := HB3
      rw [if_pos hbig] at HB4
      replace HR : Hid (At (w9.setCell ⟨R, 1, none⟩ (.bool true)) R (rsC ⟨r4, true⟩) 115) := Lib.hid (HR.out.set 1 _)
      replace HY1 := Lib.hid (HY1.out.other (a := ⟨R, 1, none⟩) (.bool true) HNE.out.2.1)
      replace HY2 := Lib.hid (HY2.out.other (a := ⟨R, 1, none⟩) (.bool true) HNE.out.2.2)
      replace HK := Lib.hid (HK.out.set 1 (.bool true))
      clear HB3
      go_upto_region 12 with fail
      generalize w9.setCell ⟨R, 1, none⟩ (.bool true) = w10 at *
      clear c1 f1 hbig
      obtain ⟨stL, hst⟩ : ∃ s : RS, s = ⟨r4, true⟩ := ⟨_, rfl⟩
      rw [← hst] at HR HB4
      have HSL : Hid (stL.rest.size ≤ 1000000) := Lib.hid (by rw [hst]; exact HS4.out)
      have HCN : Hid (stL.bad = false → v4 ≤ 4000) := Lib.hid (by rw [hst]; intro h; cases h)
      clear hst HS4
      obtain ⟨i0, hi, hz0, hz1, hz2⟩ := info_parts info_itemS
      obtain ⟨i1, hi1, hy0, hy1, hy2⟩ := info_parts info_chunkS
      go_loopg [7, 8] 4001 (fun g u7 u8 wr => ∃ (A : Option Addr) (n c : Nat) (A2 : Option Addr) (n2 c2 : Nat) (its : List Itm) (a : Int) (stt : RS) (vs vs2 : List (Array Value)), g = 4001 - its.length ∧ u7 = .slice A n c ∧ u8 = .int .i64 a ∧ Hid (BL4 v4 stL its a stt) ∧ Hid (At wr R (rsC stt) 115) ∧ Hid (At wr Y1 (blC ⟨0, 0, 0, []⟩ none 0) 25) ∧ Hid (At wr Y2 #[.int .i64 v1, .int .i64 v2, .int .i64 v3, .slice A2 n2 c2] 25) ∧
          Hid (SR (bareW w) 52 17 A n c vs wr) ∧ Hid (SR (bareW w) 58 16 A2 n2 c2 vs2 wr) ∧ Hid (ItTs wr vs its) ∧ Hid (ChTs wr vs2 (its.map chkOf)) ∧ Hid ((∀ k, A.map (·.block) = some k → w.heap.size ≤ k) ∧ ∀ k, A2.map (·.block) = some k → w.heap.size ≤ k) ∧ Hid (Keep R w wr) ∧ Hid (stt.rest.size ≤ 1000000) ∧ Hid (stt.bad = false → v4 ≤ 4000 ∧ a ≤ 262148 * its.length) ∧ Hid (0 ≤ a ∧ a ≤ 2305843009213693952))
      case atStart => exact ⟨none, 0, 0, none, 0, 0, [], 0, stL, [], [], rfl, rfl, rfl, Lib.hid (BL4.start _ _), HR, HY1, HY2, Lib.hid (SR.nil _ _ (below_bare HK.out)), Lib.hid (SR.nil _ _ (below_bare HK.out)), Lib.hid (ItTs.nil _), Lib.hid (ChTs.nil _), Lib.hid ⟨(fun k h => by cases h), (fun k h => by cases h)⟩, HK, HSL, Lib.hid (fun h => ⟨HCN.out h, (by simp)⟩), Lib.hid ⟨(by decide), (by decide)⟩⟩
      case round =>
        clear HR HY1 HY2 HK
        obtain ⟨A, n, c, A2, n2, c2, its, a, stt, vs, vs2, hg, rfl, rfl, HBL, HR, HY1, HY2, HSI, HSC, HIT, HCT, HAN, HK, HRS, HBD, HAB⟩ := hrel
        obtain ⟨rr, bb⟩ := stt
        have c1 : wr.cell? ⟨R, 1, none⟩ = some (.bool bb) := HR.out.cell 1
        have hn : n = its.length := by rw [← HSI.out.len]; exact HIT.out.1
        have hn2 : n2 = its.length := by rw [← HSC.out.len, HCT.out.1, List.length_map]
        have HNN := Lib.hid hn
        have HNN2 := Lib.hid hn2
        have HGK := Lib.hid hg
        clear hn hn2 hg
        by_cases hgo : bb = false ∧ (n : Int) < v4
        · obtain ⟨rfl, hlt⟩ := hgo
          have hbl2 := HBL.out.step rfl (by rw [← HNN.out]; exact hlt) (HBD.out rfl).1
          have HB0 := Lib.hid (HBD.out rfl)
          have hcn := HB0.out.1
          have HITM := Lib.hid (ritem_any R a ⟨rr, false⟩ wr HR.out HRS.out HAB.out.1 (by have := HAB.out.2; omega))
          have hbx := rItm_bounds a ⟨rr, false⟩
          obtain ⟨⟨x, sx⟩, hp⟩ : ∃ p, rItm a ⟨rr, false⟩ = p := ⟨_, rfl⟩
          unfold ItPost at HITM
          rw [hp] at hbl2 HITM hbx
          simp only at hbl2 HITM hbx
          have HBL2 := Lib.hid hbl2
          have HBX := Lib.hid hbx
          have hx1 : 0 ≤ x.size := hbx.1
          have hx2 : x.size ≤ 1152921504606846976 := hbx.2.1
          have ha1 : 0 ≤ a := HAB.out.1
          have ha2 : a ≤ 262148 * 4000 := by have h1 := (HBD.out rfl).2; have h2 := HBL.out.1; omega
          have hnle : (n : Int) ≤ 4000 := by omega
          clear hbl2 hbx hp
          go_wp2_with fail
          refine HITM.out.mono ?_
          rintro e w1 ⟨⟨A', c', rfl, hlt1, hlc, hln⟩, hr1, hk1⟩
          have HL1 := Lib.hid hlt1
          have HLC := Lib.hid hlc
          have HR1 := Lib.hid hr1
          have HKI := Lib.hid (KT.keep (E := 52) hk1 HR.out (by decide))
          have HKC := Lib.hid (KT.keep (E := 58) hk1 HR.out (by decide))
          have HKL := Lib.hid (KT.keep (E := 66) hk1 HR.out (by decide))
          have HK1 := Lib.hid (HK.out.trans hk1)
          have HY11 := Lib.hid (HY1.out.keep hk1 HNE.out.2.1)
          have HY21 := Lib.hid (HY2.out.keep hk1 HNE.out.2.2)
          have HSI1 := Lib.hid (HSI.out.kt HKI.out (below_bare HK1.out))
          have HSC1 := Lib.hid (HSC.out.kt HKC.out (below_bare HK1.out))
          have HIT1 := Lib.hid (HIT.out.kt HKL.out)
          have HCT1 := Lib.hid (HCT.out.kt HKL.out)
          have HX := Lib.hid (At.new w1 (itC 0 none 0 0 Zn.zero 0 0) 52)
          clear hlt1 hlc hln hr1 hk1 HITM HR HY1 HY2 HSI HSC HIT HCT HKI HKC HKL HK c1
          go_wp2_with (refine wpList_store_at rfl 52 (.tmp 9) (.tmp 45) rfl w1.heap.size (itC x.sig A' x.labs.length c' x.zone x.off x.size) rfl rfl 52 _ HX.out size_item rfl (itC_one _ _ _ _ _ _ _) ?_)
          intro w2 HW2
          have HRR : Hid (Below w1.heap.size w1 w2) := Lib.hid (by rw [HW2.out]; exact below_row ((Below.refl _ _).alloc (Nat.le_refl _) _) _ _ (Nat.le_refl _))
          have HX2 : Hid (At w2 w1.heap.size (itC x.sig A' x.labs.length c' x.zone x.off x.size) 52) := Lib.hid (by rw [HW2.out]; exact HX.out.row)
          have HK2 := Lib.hid (HK1.out.trans (Keep.below HRR.out))
          have HR2 := Lib.hid (HR1.out.below HRR.out)
          have HY12 := Lib.hid (HY11.out.below HRR.out)
          have HY22 := Lib.hid (HY21.out.below HRR.out)
          have HSI2 := Lib.hid (HSI1.out.kt (KT.below HRR.out) (below_bare HK2.out))
          have HSC2 := Lib.hid (HSC1.out.kt (KT.below HRR.out) (below_bare HK2.out))
          have HIT2 := Lib.hid (HIT1.out.kt (KT.below HRR.out))
          have HCT2 := Lib.hid (HCT1.out.kt (KT.below HRR.out))
          have HL2 := Lib.hid (HL1.out.kt (KT.below HRR.out))
          have HAX : Hid (A.map (·.block) ≠ some w1.heap.size) := Lib.hid (fun e => by have := (HSI1.out.lt _ e).2; omega)
          have HAX2 : Hid (A2.map (·.block) ≠ some w1.heap.size) := Lib.hid (fun e => by have := (HSC1.out.lt _ e).2; omega)
          obtain ⟨V, hV⟩ : ∃ V, V = itC x.sig A' x.labs.length c' x.zone x.off x.size := ⟨_, rfl⟩
          rw [← hV] at HX2
          have hcs : V.size = 17 := by rw [hV]; rfl
          have HV1 : Hid ((V.all fun v => v.oneCell') = true) := Lib.hid (by rw [hV]; exact itC_one _ _ _ _ _ _ _)
          have HV := Lib.hid hV
          clear hV
          clear HW2 HX HR1 HY11 HY21 HSI1 HSC1 HIT1 HCT1 HL1 HRR HK1
          go_wp2_with (first | (refine wpList_load_row rfl 52 (.tmp 9) rfl w1.heap.size rfl 52 V (0, 0) _ HX2.out.out Tryz.underlying52 rfl (by rw [hcs]; exact size_item) ?_) | (refine wpList_bsItem rfl (.tmp 47) rfl V _ _ _ _ _ _ _ HV.out rfl ?_) | (at_builtin; (refine wpList_elem rfl (.tmp 46) (.tmp 48) 29 52 i0 _ 17 120 Tryz.underlying29 hi hz0 hz1 hz2 zero_itemS (by decide) rfl HSI2.out V hcs HV1.out rfl rfl (by omega) (by decide) ?_)))
          intro A3 n3 c3 l3 w3 HE3 hS3 hG3
          have HS3 := Lib.hid hS3
          have HKL3 := Lib.hid (hG3.kt (E := 66) HSI2.out (by decide))
          have HKC3 := Lib.hid (hG3.kt (E := 58) HSI2.out (by decide))
          have HK3 := Lib.hid (HK2.out.grown hG3.grow (fun k e => .inl (HAN.out.1 k e)))
          have HX3 := Lib.hid (hG3.at_ HX2.out HAX.out)
          have HR3 := Lib.hid (hG3.at_ HR2.out (HSI2.out.ty.ne HR2.out (by decide)))
          have HY13 := Lib.hid (hG3.at_ HY12.out (HSI2.out.ty.ne HY12.out (by decide)))
          have HY23 := Lib.hid (hG3.at_ HY22.out (HSI2.out.ty.ne HY22.out (by decide)))
          have HSC3 := Lib.hid (HSC2.out.kt HKC3.out (below_bare HK3.out))
          have HCT3 := Lib.hid (HCT2.out.kt HKL3.out)
          have HL3 := Lib.hid (HL2.out.kt HKL3.out)
          have HIT3 : Hid (ItTs w3 l3 (its ++ [x])) := Lib.hid (by rw [HE3.out]; exact (HIT2.out.kt HKL3.out).snoc ⟨A', c', HV.out, HL3.out, HLC.out⟩)
          have HAN3 : Hid (∀ k, A3.map (·.block) = some k → w.heap.size ≤ k) := Lib.hid (fun k e => by
            rcases hG3.own with h | ⟨g, h, hge⟩
            · rw [h] at e; exact HAN.out.1 k e
            · rw [h] at e
              injection e with e
              have := HK2.out.size
              omega)
          rw [HV.out] at HX3
          have e0 : w3.cell? ⟨w1.heap.size, 0, none⟩ = some (.int .i64 x.sig) := HX3.out.cell 0
          have e1 : w3.cell? ⟨w1.heap.size, 1, none⟩ = some (.slice A' x.labs.length c') := HX3.out.cell 1
          have e3 : w3.cell? ⟨Y2, 3, none⟩ = some (.slice A2 n2 c2) := HY23.out.cell 3
          have HZ : Hid (w3.rangeAt w1.heap.size 2 [.int .i64 x.zone.count, .int .i64 x.zone.minT, .int .i64 x.zone.maxT, .int .i64 x.zone.minV, .int .i64 x.zone.maxV, .int .u32 x.zone.b0, .int .u32 x.zone.b1, .int .u32 x.zone.b2, .int .u32 x.zone.b3, .int .u32 x.zone.b4, .int .u32 x.zone.b5, .int .u32 x.zone.b6, .int .u32 x.zone.b7]) := Lib.hid (World.rangeAt_of_block (n := 13) HX3.out.out 2)
          clear hS3 hG3 HR2 HY12 HY22 HSI2 HSC2 HIT2 HCT2 HL2 HX2 HK2 HAX HKC3
          have hn2le : n2 + 1 ≤ 1000000 := by have h1 := HNN.out; have h2 := HNN2.out; omega
          clear hcs HV1
          go_upto_region 15 with fail
          go_wp2_with (first | (refine wpList_load_mid rfl 50 (.tmp 56) rfl w1.heap.size 2 rfl _ _ HZ.out Tryz.underlying50 rfl size_zone ?_) | (at_builtin; (refine wpList_elem rfl (.tmp 51) (.tmp 59) 23 58 i1 _ 16 120 Tryz.underlying23 hi1 hy0 hy1 hy2 rfl (by decide) rfl HSC3.out (chC x.sig A' x.labs.length c' x.zone ⟨#[]⟩) rfl (chC_one _ _ _ _ _ _) rfl rfl hn2le (by decide) ?_)))
          intro A4 n4 c4 l4 w4 HE4 hS4 hG4
          have HKL4 := Lib.hid (hG4.kt (E := 66) HSC3.out (by decide))
          have HKI4 := Lib.hid (hG4.kt (E := 52) HSC3.out (by decide))
          have HK4 := Lib.hid (HK3.out.grown hG4.grow (fun k e => .inl (HAN.out.2 k e)))
          have HX4 := Lib.hid (hG4.at_ HX3.out HAX2.out)
          have HR4 := Lib.hid (hG4.at_ HR3.out (HSC3.out.ty.ne HR3.out (by decide)))
          have HY14 := Lib.hid (hG4.at_ HY13.out (HSC3.out.ty.ne HY13.out (by decide)))
          have HY24 := Lib.hid (hG4.at_ HY23.out (HSC3.out.ty.ne HY23.out (by decide)))
          have HCT4 : Hid (ChTs w4 l4 ((its ++ [x]).map chkOf)) := Lib.hid (by rw [HE4.out, List.map_append]; exact (HCT3.out.kt HKL4.out).snoc ⟨A', c', rfl, HL3.out.kt HKL4.out, HLC.out⟩)
          have HIT4 := Lib.hid (HIT3.out.kt HKL4.out)
          have HAN4 : Hid (∀ k, A4.map (·.block) = some k → w.heap.size ≤ k) := Lib.hid (fun k e => by
            rcases hG4.own with h | ⟨g, h, hge⟩
            · rw [h] at e; exact HAN.out.2 k e
            · rw [h] at e
              injection e with e
              have := HK3.out.size
              omega)
          have e16 : w4.cell? ⟨w1.heap.size, 16, none⟩ = some (.int .i64 x.size) := HX4.out.cell 16
          have e3 : w4.cell? ⟨Y2, 3, none⟩ = some (.slice A2 n2 c2) := HY24.out.cell 3
          have g3 : w4.frozen? ⟨Y2, 3, none⟩ = false := HY24.out.free 3
          have hXY : w1.heap.size ≠ Y2 := fun e => by
            have h1 := HX4.out.out
            rw [e, HY24.out.out] at h1
            injection h1 with h1
            injection h1 with _ h1 _
            cases h1
          have HY25 : Hid (At (w4.setCell ⟨Y2, 3, none⟩ (.slice A4 n4 c4)) Y2 #[.int .i64 v1, .int .i64 v2, .int .i64 v3, .slice A4 n4 c4] 25) := Lib.hid (HY24.out.set 3 _)
          have HY15 := Lib.hid (HY14.out.other (a := ⟨Y2, 3, none⟩) (.slice A4 n4 c4) HNE.out.1)
          have HR5 := Lib.hid (HR4.out.other (a := ⟨Y2, 3, none⟩) (.slice A4 n4 c4) HNE.out.2.2.symm)
          have HK5 := Lib.hid (HK4.out.setNew Y2 3 HN2.out.2 (.slice A4 n4 c4))
          have HSI5 := Lib.hid (HS3.out.kt (HKI4.out.trans (KT.set HY24.out (by decide) 3 (.slice A4 n4 c4))) (below_bare HK5.out))
          have HSC5 := Lib.hid (hS4.kt (KT.set HY24.out (by decide) 3 (.slice A4 n4 c4)) (below_bare HK5.out))
          have HIT5 := Lib.hid (HIT4.out.kt (KT.set HY24.out (by decide) 3 (.slice A4 n4 c4)))
          have HCT5 := Lib.hid (HCT4.out.kt (KT.set HY24.out (by decide) 3 (.slice A4 n4 c4)))
          have HX5 := Lib.hid (HX4.out.other (a := ⟨Y2, 3, none⟩) (.slice A4 n4 c4) hXY)
          have f16 : (w4.setCell ⟨Y2, 3, none⟩ (.slice A4 n4 c4)).cell? ⟨w1.heap.size, 16, none⟩ = some (.int .i64 x.size) := HX5.out.cell 16
          have HBD2 : Hid (sx.bad = false → v4 ≤ 4000 ∧ a + x.size ≤ 262148 * (its ++ [x]).length) := Lib.hid (fun h => ⟨HB0.out.1, by
            have h1 := HB0.out.2
            have h2 := HBX.out.2.2.2 h
            rw [List.length_append]
            simp
            omega⟩)
          have HAB2 : Hid (0 ≤ a + x.size ∧ a + x.size ≤ 2305843009213693952) := Lib.hid (by omega)
          have HRS2 : Hid (sx.rest.size ≤ 1000000) := Lib.hid (by have h1 := HBX.out.2.2.1; have h2 := HRS.out; exact Nat.le_trans h1 h2)
          have HGM : Hid (4001 - (its ++ [x]).length < gk) := Lib.hid (by have h1 := HGK.out; have h2 := HBL2.out.1; rw [h1]; rw [List.length_append] at h2 ⊢; simp at h2 ⊢; omega)
          clear hS4 hG4 HKL4 HKI4 HK4 HX4 HR4 HY14 HY24 HCT4 HIT4 HX5 HS3 HKL3 HK3 HX3 HR3 HY13 HY23 HSC3 HCT3 HL3 HIT3 hXY e0 e1 HZ HAX2
          go_upto_region 16 with fail
          generalize w4.setCell ⟨Y2, 3, none⟩ (.slice A4 n4 c4) = w5 at *
          clear e16 e3 g3
          go_wp2_with fail
          go_roundg (4001 - (its ++ [x]).length)
          case measure => exact HGM.out
          case rel => exact ⟨A3, n3, c3, A4, n4, c4, its ++ [x], a + x.size, sx, l3, l4, rfl, rfl, rfl, HBL2, HR5, HY15, HY25, HSI5, HSC5, HIT5, HCT5, Lib.hid ⟨HAN3.out, HAN4.out⟩, HK5, HRS2, HBD2, HAB2⟩
        · have hstop := HBL.out.stop (by rw [← HNN.out]; exact hgo)
          have HRB : Hid (rBlk st = ⟨v1, v2, v3, its, a, ⟨rr, bb⟩⟩) := Lib.hid (by rw [HB4.out, hstop])
          have HKI1 := Lib.hid (KT.row (E := 52) HY1.out (by decide) #[.int .i64 v1, .int .i64 v2, .int .i64 v3, .slice A2 n2 c2])
          have HKC1 := Lib.hid (KT.row (E := 58) HY1.out (by decide) #[.int .i64 v1, .int .i64 v2, .int .i64 v3, .slice A2 n2 c2])
          have HKL1 := Lib.hid (KT.row (E := 66) HY1.out (by decide) #[.int .i64 v1, .int .i64 v2, .int .i64 v3, .slice A2 n2 c2])
          cases bb
          all_goals
            first
            | (have hge : v4 ≤ (n : Int) := by simp at hgo; omega)
            | (have hge : True := trivial)
            clear hgo
            go_wp2_with (first | (refine wpList_load_row rfl 25 (.tmp 5) rfl Y2 rfl 25 #[.int .i64 v1, .int .i64 v2, .int .i64 v3, .slice A2 n2 c2] (0, 0) _ HY2.out.out Tryz.underlying25 rfl size_blk ?_) | (refine wpList_store_at rfl 25 (.tmp 2) (.tmp 66) rfl Y1 #[.int .i64 v1, .int .i64 v2, .int .i64 v3, .slice A2 n2 c2] rfl rfl 25 _ HY1.out size_blk rfl (by simp [Value.oneCell']) ?_))
            intro w9 HW9
            have HY9 : Hid (At w9 Y1 #[.int .i64 v1, .int .i64 v2, .int .i64 v3, .slice A2 n2 c2] 25) := Lib.hid (by rw [HW9.out]; exact HY1.out.row)
            have HR9 : Hid (At w9 R (rsC (rBlk st).st) 115) := Lib.hid (by rw [HW9.out, HRB.out]; exact HR.out.rowOther HNE.out.2.1.symm)
            have HK9 : Hid (Keep R w w9) := Lib.hid (by rw [HW9.out]; exact HK.out.rowNew HN2.out.1)
            rw [← HW9.out] at HKI1 HKC1 HKL1
            have HSI9 := Lib.hid (HSI.out.kt HKI1.out (below_bare HK9.out))
            have HSC9 := Lib.hid (HSC.out.kt HKC1.out (below_bare HK9.out))
            have HIT9 := Lib.hid (HIT.out.kt HKL1.out)
            have HCT9 := Lib.hid (HCT.out.kt HKL1.out)
            go_wp2_with fail
            refine bodyPost_ret (results_row_tmp2 rfl _ _ Y1 25 _ _ rfl HY9.out Tryz.underlying25 rfl size_blk) rfl ⟨?_, HR9.out, HK9.out⟩
            rw [HRB.out]
            refine ⟨A, c, A2, c2, ?_, ⟨vs, HSI9.out.rd, HSI9.out.ty, HIT9.out⟩, by rw [← HNN.out]; exact HSI9.out.cap, HSC9.out.chRow HCT9.out, by rw [← HNN2.out]; exact HSC9.out.cap, HAN.out.2⟩
            unfold blC RB.blk
            simp only [List.length_map]
            have en : n2 = n := HNN2.out.trans HNN.out.symm
            rw [← HNN.out, en]
            rfl
    · have HB4 := HB3
      rw [if_neg hbig] at HB4
      have hle : v4 ≤ 4000 := by omega
      have HLE := Lib.hid hle
      clear hbig
      clear HB3
      go_upto_region 12 with fail
      obtain ⟨w10, hw10⟩ : ∃ w10, w10 = w9 := ⟨_, rfl⟩
      rw [← hw10] at HR HY1 HY2 HK
      rw [← hw10]
      clear c1 f1 hle hw10
      obtain ⟨stL, hst⟩ : ∃ s : RS, s = ⟨r4, b4⟩ := ⟨_, rfl⟩
      rw [← hst] at HR HB4
      have HSL : Hid (stL.rest.size ≤ 1000000) := Lib.hid (by rw [hst]; exact HS4.out)
      have HCN : Hid (stL.bad = false → v4 ≤ 4000) := Lib.hid (fun _ => HLE.out)
      clear hst HS4
      obtain ⟨i0, hi, hz0, hz1, hz2⟩ := info_parts info_itemS
      obtain ⟨i1, hi1, hy0, hy1, hy2⟩ := info_parts info_chunkS
      go_loopg [7, 8] 4001 (fun g u7 u8 wr => ∃ (A : Option Addr) (n c : Nat) (A2 : Option Addr) (n2 c2 : Nat) (its : List Itm) (a : Int) (stt : RS) (vs vs2 : List (Array Value)), g = 4001 - its.length ∧ u7 = .slice A n c ∧ u8 = .int .i64 a ∧ Hid (BL4 v4 stL its a stt) ∧ Hid (At wr R (rsC stt) 115) ∧ Hid (At wr Y1 (blC ⟨0, 0, 0, []⟩ none 0) 25) ∧ Hid (At wr Y2 #[.int .i64 v1, .int .i64 v2, .int .i64 v3, .slice A2 n2 c2] 25) ∧
          Hid (SR (bareW w) 52 17 A n c vs wr) ∧ Hid (SR (bareW w) 58 16 A2 n2 c2 vs2 wr) ∧ Hid (ItTs wr vs its) ∧ Hid (ChTs wr vs2 (its.map chkOf)) ∧ Hid ((∀ k, A.map (·.block) = some k → w.heap.size ≤ k) ∧ ∀ k, A2.map (·.block) = some k → w.heap.size ≤ k) ∧ Hid (Keep R w wr) ∧ Hid (stt.rest.size ≤ 1000000) ∧ Hid (stt.bad = false → v4 ≤ 4000 ∧ a ≤ 262148 * its.length) ∧ Hid (0 ≤ a ∧ a ≤ 2305843009213693952))
      case atStart => exact ⟨none, 0, 0, none, 0, 0, [], 0, stL, [], [], rfl, rfl, rfl, Lib.hid (BL4.start _ _), HR, HY1, HY2, Lib.hid (SR.nil _ _ (below_bare HK.out)), Lib.hid (SR.nil _ _ (below_bare HK.out)), Lib.hid (ItTs.nil _), Lib.hid (ChTs.nil _), Lib.hid ⟨(fun k h => by cases h), (fun k h => by cases h)⟩, HK, HSL, Lib.hid (fun h => ⟨HCN.out h, (by simp)⟩), Lib.hid ⟨(by decide), (by decide)⟩⟩
      case round =>
        clear HR HY1 HY2 HK
        obtain ⟨A, n, c, A2, n2, c2, its, a, stt, vs, vs2, hg, rfl, rfl, HBL, HR, HY1, HY2, HSI, HSC, HIT, HCT, HAN, HK, HRS, HBD, HAB⟩ := hrel
        obtain ⟨rr, bb⟩ := stt
        have c1 : wr.cell? ⟨R, 1, none⟩ = some (.bool bb) := HR.out.cell 1
        have hn : n = its.length := by rw [← HSI.out.len]; exact HIT.out.1
        have hn2 : n2 = its.length := by rw [← HSC.out.len, HCT.out.1, List.length_map]
        have HNN := Lib.hid hn
        have HNN2 := Lib.hid hn2
        have HGK := Lib.hid hg
        clear hn hn2 hg
        by_cases hgo : bb = false ∧ (n : Int) < v4
        · obtain ⟨rfl, hlt⟩ := hgo
          have hbl2 := HBL.out.step rfl (by rw [← HNN.out]; exact hlt) (HBD.out rfl).1
          have HB0 := Lib.hid (HBD.out rfl)
          have hcn := HB0.out.1
          have HITM := Lib.hid (ritem_any R a ⟨rr, false⟩ wr HR.out HRS.out HAB.out.1 (by have := HAB.out.2; omega))
          have hbx := rItm_bounds a ⟨rr, false⟩
          obtain ⟨⟨x, sx⟩, hp⟩ : ∃ p, rItm a ⟨rr, false⟩ = p := ⟨_, rfl⟩
          unfold ItPost at HITM
          rw [hp] at hbl2 HITM hbx
          simp only at hbl2 HITM hbx
          have HBL2 := Lib.hid hbl2
          have HBX := Lib.hid hbx
          have hx1 : 0 ≤ x.size := hbx.1
          have hx2 : x.size ≤ 1152921504606846976 := hbx.2.1
          have ha1 : 0 ≤ a := HAB.out.1
          have ha2 : a ≤ 262148 * 4000 := by have h1 := (HBD.out rfl).2; have h2 := HBL.out.1; omega
          have hnle : (n : Int) ≤ 4000 := by omega
          clear hbl2 hbx hp
          go_wp2_with fail
          refine HITM.out.mono ?_
          rintro e w1 ⟨⟨A', c', rfl, hlt1, hlc, hln⟩, hr1, hk1⟩
          have HL1 := Lib.hid hlt1
          have HLC := Lib.hid hlc
          have HR1 := Lib.hid hr1
          have HKI := Lib.hid (KT.keep (E := 52) hk1 HR.out (by decide))
          have HKC := Lib.hid (KT.keep (E := 58) hk1 HR.out (by decide))
          have HKL := Lib.hid (KT.keep (E := 66) hk1 HR.out (by decide))
          have HK1 := Lib.hid (HK.out.trans hk1)
          have HY11 := Lib.hid (HY1.out.keep hk1 HNE.out.2.1)
          have HY21 := Lib.hid (HY2.out.keep hk1 HNE.out.2.2)
          have HSI1 := Lib.hid (HSI.out.kt HKI.out (below_bare HK1.out))
          have HSC1 := Lib.hid (HSC.out.kt HKC.out (below_bare HK1.out))
          have HIT1 := Lib.hid (HIT.out.kt HKL.out)
          have HCT1 := Lib.hid (HCT.out.kt HKL.out)
          have HX := Lib.hid (At.new w1 (itC 0 none 0 0 Zn.zero 0 0) 52)
          clear hlt1 hlc hln hr1 hk1 HITM HR HY1 HY2 HSI HSC HIT HCT HKI HKC HKL HK c1
          go_wp2_with (refine wpList_store_at rfl 52 (.tmp 9) (.tmp 45) rfl w1.heap.size (itC x.sig A' x.labs.length c' x.zone x.off x.size) rfl rfl 52 _ HX.out size_item rfl (itC_one _ _ _ _ _ _ _) ?_)
          intro w2 HW2
          have HRR : Hid (Below w1.heap.size w1 w2) := Lib.hid (by rw [HW2.out]; exact below_row ((Below.refl _ _).alloc (Nat.le_refl _) _) _ _ (Nat.le_refl _))
          have HX2 : Hid (At w2 w1.heap.size (itC x.sig A' x.labs.length c' x.zone x.off x.size) 52) := Lib.hid (by rw [HW2.out]; exact HX.out.row)
          have HK2 := Lib.hid (HK1.out.trans (Keep.below HRR.out))
          have HR2 := Lib.hid (HR1.out.below HRR.out)
          have HY12 := Lib.hid (HY11.out.below HRR.out)
          have HY22 := Lib.hid (HY21.out.below HRR.out)
          have HSI2 := Lib.hid (HSI1.out.kt (KT.below HRR.out) (below_bare HK2.out))
          have HSC2 := Lib.hid (HSC1.out.kt (KT.below HRR.out) (below_bare HK2.out))
          have HIT2 := Lib.hid (HIT1.out.kt (KT.below HRR.out))
          have HCT2 := Lib.hid (HCT1.out.kt (KT.below HRR.out))
          have HL2 := Lib.hid (HL1.out.kt (KT.below HRR.out))
          have HAX : Hid (A.map (·.block) ≠ some w1.heap.size) := Lib.hid (fun e => by have := (HSI1.out.lt _ e).2; omega)
          have HAX2 : Hid (A2.map (·.block) ≠ some w1.heap.size) := Lib.hid (fun e => by have := (HSC1.out.lt _ e).2; omega)
          obtain ⟨V, hV⟩ : ∃ V, V = itC x.sig A' x.labs.length c' x.zone x.off x.size := ⟨_, rfl⟩
          rw [← hV] at HX2
          have hcs : V.size = 17 := by rw [hV]; rfl
          have HV1 : Hid ((V.all fun v => v.oneCell') = true) := Lib.hid (by rw [hV]; exact itC_one _ _ _ _ _ _ _)
          have HV := Lib.hid hV
          clear hV
          clear HW2 HX HR1 HY11 HY21 HSI1 HSC1 HIT1 HCT1 HL1 HRR HK1
          go_wp2_with (first | (refine wpList_load_row rfl 52 (.tmp 9) rfl w1.heap.size rfl 52 V (0, 0) _ HX2.out.out Tryz.underlying52 rfl (by rw [hcs]; exact size_item) ?_) | (refine wpList_bsItem rfl (.tmp 47) rfl V _ _ _ _ _ _ _ HV.out rfl ?_) | (at_builtin; (refine wpList_elem rfl (.tmp 46) (.tmp 48) 29 52 i0 _ 17 120 Tryz.underlying29 hi hz0 hz1 hz2 zero_itemS (by decide) rfl HSI2.out V hcs HV1.out rfl rfl (by omega) (by decide) ?_)))
          intro A3 n3 c3 l3 w3 HE3 hS3 hG3
          have HS3 := Lib.hid hS3
          have HKL3 := Lib.hid (hG3.kt (E := 66) HSI2.out (by decide))
          have HKC3 := Lib.hid (hG3.kt (E := 58) HSI2.out (by decide))
          have HK3 := Lib.hid (HK2.out.grown hG3.grow (fun k e => .inl (HAN.out.1 k e)))
          have HX3 := Lib.hid (hG3.at_ HX2.out HAX.out)
          have HR3 := Lib.hid (hG3.at_ HR2.out (HSI2.out.ty.ne HR2.out (by decide)))
          have HY13 := Lib.hid (hG3.at_ HY12.out (HSI2.out.ty.ne HY12.out (by decide)))
          have HY23 := Lib.hid (hG3.at_ HY22.out (HSI2.out.ty.ne HY22.out (by decide)))
          have HSC3 := Lib.hid (HSC2.out.kt HKC3.out (below_bare HK3.out))
          have HCT3 := Lib.hid (HCT2.out.kt HKL3.out)
          have HL3 := Lib.hid (HL2.out.kt HKL3.out)
          have HIT3 : Hid (ItTs w3 l3 (its ++ [x])) := Lib.hid (by rw [HE3.out]; exact (HIT2.out.kt HKL3.out).snoc ⟨A', c', HV.out, HL3.out, HLC.out⟩)
          have HAN3 : Hid (∀ k, A3.map (·.block) = some k → w.heap.size ≤ k) := Lib.hid (fun k e => by
            rcases hG3.own with h | ⟨g, h, hge⟩
            · rw [h] at e; exact HAN.out.1 k e
            · rw [h] at e
              injection e with e
              have := HK2.out.size
              omega)
          rw [HV.out] at HX3
          have e0 : w3.cell? ⟨w1.heap.size, 0, none⟩ = some (.int .i64 x.sig) := HX3.out.cell 0
          have e1 : w3.cell? ⟨w1.heap.size, 1, none⟩ = some (.slice A' x.labs.length c') := HX3.out.cell 1
          have e3 : w3.cell? ⟨Y2, 3, none⟩ = some (.slice A2 n2 c2) := HY23.out.cell 3
          have HZ : Hid (w3.rangeAt w1.heap.size 2 [.int .i64 x.zone.count, .int .i64 x.zone.minT, .int .i64 x.zone.maxT, .int .i64 x.zone.minV, .int .i64 x.zone.maxV, .int .u32 x.zone.b0, .int .u32 x.zone.b1, .int .u32 x.zone.b2, .int .u32 x.zone.b3, .int .u32 x.zone.b4, .int .u32 x.zone.b5, .int .u32 x.zone.b6, .int .u32 x.zone.b7]) := Lib.hid (World.rangeAt_of_block (n := 13) HX3.out.out 2)
          clear hS3 hG3 HR2 HY12 HY22 HSI2 HSC2 HIT2 HCT2 HL2 HX2 HK2 HAX HKC3
          have hn2le : n2 + 1 ≤ 1000000 := by have h1 := HNN.out; have h2 := HNN2.out; omega
          clear hcs HV1
          go_upto_region 15 with fail
          go_wp2_with (first | (refine wpList_load_mid rfl 50 (.tmp 56) rfl w1.heap.size 2 rfl _ _ HZ.out Tryz.underlying50 rfl size_zone ?_) | (at_builtin; (refine wpList_elem rfl (.tmp 51) (.tmp 59) 23 58 i1 _ 16 120 Tryz.underlying23 hi1 hy0 hy1 hy2 rfl (by decide) rfl HSC3.out (chC x.sig A' x.labs.length c' x.zone ⟨#[]⟩) rfl (chC_one _ _ _ _ _ _) rfl rfl hn2le (by decide) ?_)))
          intro A4 n4 c4 l4 w4 HE4 hS4 hG4
          have HKL4 := Lib.hid (hG4.kt (E := 66) HSC3.out (by decide))
          have HKI4 := Lib.hid (hG4.kt (E := 52) HSC3.out (by decide))
          have HK4 := Lib.hid (HK3.out.grown hG4.grow (fun k e => .inl (HAN.out.2 k e)))
          have HX4 := Lib.hid (hG4.at_ HX3.out HAX2.out)
          have HR4 := Lib.hid (hG4.at_ HR3.out (HSC3.out.ty.ne HR3.out (by decide)))
          have HY14 := Lib.hid (hG4.at_ HY13.out (HSC3.out.ty.ne HY13.out (by decide)))
          have HY24 := Lib.hid (hG4.at_ HY23.out (HSC3.out.ty.ne HY23.out (by decide)))
          have HCT4 : Hid (ChTs w4 l4 ((its ++ [x]).map chkOf)) := Lib.hid (by rw [HE4.out, List.map_append]; exact (HCT3.out.kt HKL4.out).snoc ⟨A', c', rfl, HL3.out.kt HKL4.out, HLC.out⟩)
          have HIT4 := Lib.hid (HIT3.out.kt HKL4.out)
          have HAN4 : Hid (∀ k, A4.map (·.block) = some k → w.heap.size ≤ k) := Lib.hid (fun k e => by
            rcases hG4.own with h | ⟨g, h, hge⟩
            · rw [h] at e; exact HAN.out.2 k e
            · rw [h] at e
              injection e with e
              have := HK3.out.size
              omega)
          have e16 : w4.cell? ⟨w1.heap.size, 16, none⟩ = some (.int .i64 x.size) := HX4.out.cell 16
          have e3 : w4.cell? ⟨Y2, 3, none⟩ = some (.slice A2 n2 c2) := HY24.out.cell 3
          have g3 : w4.frozen? ⟨Y2, 3, none⟩ = false := HY24.out.free 3
          have hXY : w1.heap.size ≠ Y2 := fun e => by
            have h1 := HX4.out.out
            rw [e, HY24.out.out] at h1
            injection h1 with h1
            injection h1 with _ h1 _
            cases h1
          have HY25 : Hid (At (w4.setCell ⟨Y2, 3, none⟩ (.slice A4 n4 c4)) Y2 #[.int .i64 v1, .int .i64 v2, .int .i64 v3, .slice A4 n4 c4] 25) := Lib.hid (HY24.out.set 3 _)
          have HY15 := Lib.hid (HY14.out.other (a := ⟨Y2, 3, none⟩) (.slice A4 n4 c4) HNE.out.1)
          have HR5 := Lib.hid (HR4.out.other (a := ⟨Y2, 3, none⟩) (.slice A4 n4 c4) HNE.out.2.2.symm)
          have HK5 := Lib.hid (HK4.out.setNew Y2 3 HN2.out.2 (.slice A4 n4 c4))
          have HSI5 := Lib.hid (HS3.out.kt (HKI4.out.trans (KT.set HY24.out (by decide) 3 (.slice A4 n4 c4))) (below_bare HK5.out))
          have HSC5 := Lib.hid (hS4.kt (KT.set HY24.out (by decide) 3 (.slice A4 n4 c4)) (below_bare HK5.out))
          have HIT5 := Lib.hid (HIT4.out.kt (KT.set HY24.out (by decide) 3 (.slice A4 n4 c4)))
          have HCT5 := Lib.hid (HCT4.out.kt (KT.set HY24.out (by decide) 3 (.slice A4 n4 c4)))
          have HX5 := Lib.hid (HX4.out.other (a := ⟨Y2, 3, none⟩) (.slice A4 n4 c4) hXY)
          have f16 : (w4.setCell ⟨Y2, 3, none⟩ (.slice A4 n4 c4)).cell? ⟨w1.heap.size, 16, none⟩ = some (.int .i64 x.size) := HX5.out.cell 16
          have HBD2 : Hid (sx.bad = false → v4 ≤ 4000 ∧ a + x.size ≤ 262148 * (its ++ [x]).length) := Lib.hid (fun h => ⟨HB0.out.1, by
            have h1 := HB0.out.2
            have h2 := HBX.out.2.2.2 h
            rw [List.length_append]
            simp
            omega⟩)
          have HAB2 : Hid (0 ≤ a + x.size ∧ a + x.size ≤ 2305843009213693952) := Lib.hid (by omega)
          have HRS2 : Hid (sx.rest.size ≤ 1000000) := Lib.hid (by have h1 := HBX.out.2.2.1; have h2 := HRS.out; exact Nat.le_trans h1 h2)
          have HGM : Hid (4001 - (its ++ [x]).length < gk) := Lib.hid (by have h1 := HGK.out; have h2 := HBL2.out.1; rw [h1]; rw [List.length_append] at h2 ⊢; simp at h2 ⊢; omega)
          clear hS4 hG4 HKL4 HKI4 HK4 HX4 HR4 HY14 HY24 HCT4 HIT4 HX5 HS3 HKL3 HK3 HX3 HR3 HY13 HY23 HSC3 HCT3 HL3 HIT3 hXY e0 e1 HZ HAX2
          go_upto_region 16 with fail
          generalize w4.setCell ⟨Y2, 3, none⟩ (.slice A4 n4 c4) = w5 at *
          clear e16 e3 g3
          go_wp2_with fail
          go_roundg (4001 - (its ++ [x]).length)
          case measure => exact HGM.out
          case rel => exact ⟨A3, n3, c3, A4, n4, c4, its ++ [x], a + x.size, sx, l3, l4, rfl, rfl, rfl, HBL2, HR5, HY15, HY25, HSI5, HSC5, HIT5, HCT5, Lib.hid ⟨HAN3.out, HAN4.out⟩, HK5, HRS2, HBD2, HAB2⟩
        · have hstop := HBL.out.stop (by rw [← HNN.out]; exact hgo)
          have HRB : Hid (rBlk st = ⟨v1, v2, v3, its, a, ⟨rr, bb⟩⟩) := Lib.hid (by rw [HB4.out, hstop])
          have HKI1 := Lib.hid (KT.row (E := 52) HY1.out (by decide) #[.int .i64 v1, .int .i64 v2, .int .i64 v3, .slice A2 n2 c2])
          have HKC1 := Lib.hid (KT.row (E := 58) HY1.out (by decide) #[.int .i64 v1, .int .i64 v2, .int .i64 v3, .slice A2 n2 c2])
          have HKL1 := Lib.hid (KT.row (E := 66) HY1.out (by decide) #[.int .i64 v1, .int .i64 v2, .int .i64 v3, .slice A2 n2 c2])
          cases bb
          all_goals
            first
            | (have hge : v4 ≤ (n : Int) := by simp at hgo; omega)
            | (have hge : True := trivial)
            clear hgo
            go_wp2_with (first | (refine wpList_load_row rfl 25 (.tmp 5) rfl Y2 rfl 25 #[.int .i64 v1, .int .i64 v2, .int .i64 v3, .slice A2 n2 c2] (0, 0) _ HY2.out.out Tryz.underlying25 rfl size_blk ?_) | (refine wpList_store_at rfl 25 (.tmp 2) (.tmp 66) rfl Y1 #[.int .i64 v1, .int .i64 v2, .int .i64 v3, .slice A2 n2 c2] rfl rfl 25 _ HY1.out size_blk rfl (by simp [Value.oneCell']) ?_))
            intro w9 HW9
            have HY9 : Hid (At w9 Y1 #[.int .i64 v1, .int .i64 v2, .int .i64 v3, .slice A2 n2 c2] 25) := Lib.hid (by rw [HW9.out]; exact HY1.out.row)
            have HR9 : Hid (At w9 R (rsC (rBlk st).st) 115) := Lib.hid (by rw [HW9.out, HRB.out]; exact HR.out.rowOther HNE.out.2.1.symm)
            have HK9 : Hid (Keep R w w9) := Lib.hid (by rw [HW9.out]; exact HK.out.rowNew HN2.out.1)
            rw [← HW9.out] at HKI1 HKC1 HKL1
            have HSI9 := Lib.hid (HSI.out.kt HKI1.out (below_bare HK9.out))
            have HSC9 := Lib.hid (HSC.out.kt HKC1.out (below_bare HK9.out))
            have HIT9 := Lib.hid (HIT.out.kt HKL1.out)
            have HCT9 := Lib.hid (HCT.out.kt HKL1.out)
            go_wp2_with fail
            refine bodyPost_ret (results_row_tmp2 rfl _ _ Y1 25 _ _ rfl HY9.out Tryz.underlying25 rfl size_blk) rfl ⟨?_, HR9.out, HK9.out⟩
            rw [HRB.out]
            refine ⟨A, c, A2, c2, ?_, ⟨vs, HSI9.out.rd, HSI9.out.ty, HIT9.out⟩, by rw [← HNN.out]; exact HSI9.out.cap, HSC9.out.chRow HCT9.out, by rw [← HNN2.out]; exact HSC9.out.cap, HAN.out.2⟩
            unfold blC RB.blk
            simp only [List.length_map]
            have en : n2 = n := HNN2.out.trans HNN.out.symm
            rw [← HNN.out, en]
            rfl
end Go.Proofs.YtoojpfcnekpboaaGreat
