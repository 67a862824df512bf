/- Walks: the reader of a directory: an item (the program's). -/
import Derived.Test.YtoojpfcnekpboaaGreatZBD
namespace Go.Proofs.YtoojpfcnekpboaaGreat
open Go.RowKit Go.Shelf

/-! ### A store of many cells in the middle of a block -/
def setL : Array Value → Nat → List Value → Array Value
  | cs, _, [] => cs
  | cs, o, v :: r => setL (cs.setIfInBounds o v) (o + 1) r
theorem At.setCells {b : Nat} {t : TypeId} : ∀ (vs : List Value) (o : Nat) (w : World) (cs : Array Value), At w b cs t → At (w.setCells b o vs) b (setL cs o vs) t
  | [], _, _, _, h => h
  | v :: r, o, _, _, h => At.setCells r (o + 1) _ _ (h.set o v)
theorem At.otherCells {b b' : Nat} {t : TypeId} {cs : Array Value} (hne : b ≠ b') : ∀ (vs : List Value) (o : Nat) (w : World), At w b cs t → At (w.setCells b' o vs) b cs t
  | [], _, _, h => h
  | v :: r, o, _, h => At.otherCells hne r (o + 1) _ (h.other (a := ⟨b', o, none⟩) v hne)
theorem Keep.setCells {p b : Nat} {a : World} (hb : a.heap.size ≤ b) : ∀ (vs : List Value) (o : Nat) (w : World), Keep p a w → Keep p a (w.setCells b o vs)
  | [], _, _, h => h
  | v :: r, o, _, h => Keep.setCells hb r (o + 1) _ (h.setNew b o hb v)
theorem Keep.setCellsP {p : Nat} {a : World} : ∀ (vs : List Value) (o : Nat) (w : World), Keep p a w → Keep p a (w.setCells p o vs)
  | [], _, _, h => h
  | v :: r, o, _, h => Keep.setCellsP r (o + 1) _ (h.set o v)
theorem Keep.rowP (p : Nat) (w : World) (c : Array Value) : Keep p w (w.setRow p c) := ⟨rfl, rfl, rfl, by rw [size_setRow]; exact Nat.le_refl _, fun k _ hne => setRow_other w p k c hne⟩
theorem At.there {w : World} {b : Nat} {cs : Array Value} {t : TypeId} (h : At w b cs t) (o n : Nat) (hn : o + n ≤ cs.size) : w.there b o n := fun j hj => by
  refine ⟨?_, h.free _⟩
  rw [h.cell (o + j), Array.getElem?_eq_getElem (by omega)]
  rfl
theorem wpList_store_midH {ops : Array Oper} {rest : List Oper} {op : Oper} {a : Act} {w : World} {Q : Exit → Act → World → Prop} (hgd : op.guard = none) (ty : TypeId) (x y : Operand) (ho : op.op = .store ty x y)
    (b o : Nat) (cells : Array Value) (hx : a.eval x = .pointer (some ⟨b, o, none⟩)) (hy : a.eval y = .agg cells)
    (ht : w.there b o cells.size) (hi : (Tryz.prog.info? ty).map (·.size) = some cells.size) (h1 : cells.all (·.oneCell') = true)
    (h : ∀ w', Hid (w' = w.setCells b o cells.toList) → wpList Tryz.prog ops Q rest (a.put op.dst undef) w') : wpList Tryz.prog ops Q (op :: rest) a w :=
  wpList_store_mid hgd ty x y ho b o cells hx hy ht hi h1 (h _ (Lib.hid rfl))
theorem item_zone (s : Int) (A : Option Addr) (n c : Nat) (z : Zn) (o q : Int) : setL (itC s A n c Zn.zero o q) 2 z.cells.toList = itC s A n c z o q := by
  simp [setL, itC, Zn.cells]
/-- What 'item' answers. -/
def ItPost (R : Nat) (o : Int) (st : RS) (w : World) (e : Ending) (w' : World) : Prop :=
  (∃ A c, e = .returned (.agg (itC (rItm o st).1.sig A (rItm o st).1.labs.length c (rItm o st).1.zone (rItm o st).1.off (rItm o st).1.size)) ∧ LabT w' A (rItm o st).1.labs ∧ (rItm o st).1.labs.length ≤ c ∧ ∀ k, A.map (·.block) = some k → w.heap.size ≤ k) ∧ At w' R (rsC (rItm o st).2) 115 ∧ Keep R w w'
theorem Keep.rowNew {p b : Nat} {a w : World} {c : Array Value} (h : Keep p a w) (hb : a.heap.size ≤ b) : Keep p a (w.setRow b c) := ⟨h.os, h.tape, h.output, by rw [size_setRow]; exact h.size, fun k hk hne => by rw [setRow_other w _ k c (by omega)]; exact h.block k hk hne⟩
theorem At.rowOther {w : World} {b b' : Nat} {cs c : Array Value} {t : TypeId} (h : At w b cs t) (hne : b ≠ b') : At (w.setRow b' c) b cs t := ⟨by rw [setRow_other _ _ _ _ hne]; exact h.out⟩

set_option maxRecDepth 100000 in
set_option maxHeartbeats 4000000 in
theorem ritem_any (R : Nat) (o : Int) (st : RS) (w : World) (hR : At w R (rsC st) 115) (hs : st.rest.size ≤ 1000000) (ho1 : 0 ≤ o) (ho2 : o ≤ 4611686018427387904) :
    Calls Tryz.prog 96 #[.pointer (some ⟨R, 0, none⟩), .int .i64 o] w (ItPost R o st w) := by
  have h0R : R < w.heap.size := hR.lt
  have HX1 := Lib.hid ((At.new w (itC 0 none 0 0 Zn.zero 0 0) 52).alloc (.cells (itC 0 none 0 0 Zn.zero 0 0) 52))
  have HX2 := Lib.hid (At.new (w.alloc (.cells (itC 0 none 0 0 Zn.zero 0 0) 52)) (itC 0 none 0 0 Zn.zero 0 0) 52)
  have z1 : (w.alloc (.cells (itC 0 none 0 0 Zn.zero 0 0) 52)).heap.size = w.heap.size + 1 := by simp
  rw [z1] at HX2
  have HR := Lib.hid ((hR.alloc (.cells (itC 0 none 0 0 Zn.zero 0 0) 52)).alloc (.cells (itC 0 none 0 0 Zn.zero 0 0) 52))
  have HK := Lib.hid (((Keep.refl R w).alloc (.cells (itC 0 none 0 0 Zn.zero 0 0) 52)).alloc (.cells (itC 0 none 0 0 Zn.zero 0 0) 52))
  -- the seven readings, by name
  have hb := rRaw_bounds st
  have hIT : Hid (rItm o st = if (rRaw st).st.bad = true ∨ (rRaw st).off ≠ o ∨ (rRaw st).size < 4 ∨ 262148 < (rRaw st).size then (⟨(rRaw st).sig, [], Zn.zero, (rRaw st).off, (rRaw st).size⟩, ⟨(rRaw st).st.rest, true⟩)
    else (⟨(rRaw st).sig, (parE (rRaw st).text).1, (zD (rRaw st).zone).1, (rRaw st).off, (rRaw st).size⟩, ⟨(rRaw st).st.rest, decide ((parE (rRaw st).text).2 ≠ 0 ∨ (zD (rRaw st).zone).2 ≠ 0)⟩)) := Lib.hid rfl
  have HS0 := Lib.hid hs
  have hq1 := rNum_bounds st
  obtain ⟨⟨v1, s1⟩, e1⟩ : ∃ p, rNum st = p := ⟨_, rfl⟩
  have hq2 := rNum_bounds s1
  obtain ⟨⟨v2, s2⟩, e2⟩ : ∃ p, rNum s1 = p := ⟨_, rfl⟩
  have hq3 := rByt_bounds v2 s2
  obtain ⟨⟨v3, s3⟩, e3⟩ : ∃ p, rByt v2 s2 = p := ⟨_, rfl⟩
  have hq4 := rNum_bounds s3
  obtain ⟨⟨v4, s4⟩, e4⟩ : ∃ p, rNum s3 = p := ⟨_, rfl⟩
  have hq5 := rByt_bounds v4 s4
  obtain ⟨⟨v5, s5⟩, e5⟩ : ∃ p, rByt v4 s4 = p := ⟨_, rfl⟩
  have hq6 := rNum_bounds s5
  obtain ⟨⟨v6, s6⟩, e6⟩ : ∃ p, rNum s5 = p := ⟨_, rfl⟩
  have hq7 := rNum_bounds s6
  obtain ⟨⟨v7, s7⟩, e7⟩ : ∃ p, rNum s6 = p := ⟨_, rfl⟩
  have hraw : rRaw st = ⟨v1, v3, v5, v6, v7, s7⟩ := by
    unfold rRaw
    simp only [e1, e2, e3, e4, e5, e6, e7]
  rw [hraw] at hIT hb
  rw [e1] at hq1
  rw [e2] at hq2
  rw [e3] at hq3
  rw [e4] at hq4
  rw [e5] at hq5
  rw [e6] at hq6
  rw [e7] at hq7
  simp only at hIT hb hq1 hq2 hq3 hq4 hq5 hq6 hq7
  have C1 : Hid (∀ W, At W R (rsC st) 115 → Calls Tryz.prog 95 #[.pointer (some ⟨R, 0, none⟩)] W fun e w' => e = .returned (.int .i64 v1) ∧ At w' R (rsC s1) 115 ∧ Keep R W w') := Lib.hid fun W h => by have := rnumber_any R st W h HS0.out; rw [e1] at this; exact this
  have C2 : Hid (∀ W, At W R (rsC s1) 115 → Calls Tryz.prog 95 #[.pointer (some ⟨R, 0, none⟩)] W fun e w' => e = .returned (.int .i64 v2) ∧ At w' R (rsC s2) 115 ∧ Keep R W w') := Lib.hid fun W h => by have := rnumber_any R s1 W h (by omega); rw [e2] at this; exact this
  have C3 : Hid (∀ W, At W R (rsC s2) 115 → Calls Tryz.prog 94 #[.pointer (some ⟨R, 0, none⟩), .int .i64 v2] W fun e w' => e = .returned (.string v3) ∧ At w' R (rsC s3) 115 ∧ Keep R W w') := Lib.hid fun W h => by have := rbytes_any R v2 s2 W h (by omega) hq2.1; rw [e3] at this; exact this
  have C4 : Hid (∀ W, At W R (rsC s3) 115 → Calls Tryz.prog 95 #[.pointer (some ⟨R, 0, none⟩)] W fun e w' => e = .returned (.int .i64 v4) ∧ At w' R (rsC s4) 115 ∧ Keep R W w') := Lib.hid fun W h => by have := rnumber_any R s3 W h (by omega); rw [e4] at this; exact this
  have C5 : Hid (∀ W, At W R (rsC s4) 115 → Calls Tryz.prog 94 #[.pointer (some ⟨R, 0, none⟩), .int .i64 v4] W fun e w' => e = .returned (.string v5) ∧ At w' R (rsC s5) 115 ∧ Keep R W w') := Lib.hid fun W h => by have := rbytes_any R v4 s4 W h (by omega) hq4.1; rw [e5] at this; exact this
  have C6 : Hid (∀ W, At W R (rsC s5) 115 → Calls Tryz.prog 95 #[.pointer (some ⟨R, 0, none⟩)] W fun e w' => e = .returned (.int .i64 v6) ∧ At w' R (rsC s6) 115 ∧ Keep R W w') := Lib.hid fun W h => by have := rnumber_any R s5 W h (by omega); rw [e6] at this; exact this
  have C7 : Hid (∀ W, At W R (rsC s6) 115 → Calls Tryz.prog 95 #[.pointer (some ⟨R, 0, none⟩)] W fun e w' => e = .returned (.int .i64 v7) ∧ At w' R (rsC s7) 115 ∧ Keep R W w') := Lib.hid fun W h => by have := rnumber_any R s6 W h (by omega); rw [e7] at this; exact this
  have CL : Hid (∀ W, Calls Tryz.prog 127 #[.string v3] W (PEPost v3 W)) := Lib.hid fun W => parseL_any v3 W (by omega)
  have CZ : Hid (∀ W, Calls Tryz.prog 128 #[.string v5] W fun e w' => e = .returned (.tuple #[.agg (zD v5).1.cells, .int .i64 (zD v5).2]) ∧ Below W.heap.size W w') := Lib.hid fun W => zdecode_any v5 W (by omega)
  obtain ⟨b1, b2, _, _, _⟩ := hb
  obtain ⟨b3, b4, _⟩ := hq6
  clear hR hs z1 e1 e2 e3 e4 e5 e6 e7 hq1 hq2 hq3 hq4 hq5 hq7 hraw
  obtain ⟨X1, hX1⟩ : ∃ X1, w.heap.size = X1 := ⟨_, rfl⟩
  obtain ⟨X2, hX2⟩ : ∃ X2, w.heap.size + 1 = X2 := ⟨_, rfl⟩
  rw [hX1] at HX1
  rw [hX2] at HX2
  have HE1 := Lib.hid hX1
  have HE2 := Lib.hid hX2
  have HN : Hid (w.heap.size ≤ X1 ∧ X1 < X2 ∧ R < X1) := Lib.hid (by omega)
  have HNE : Hid (X1 ≠ X2 ∧ X1 ≠ R ∧ X2 ≠ R ∧ R ≠ X1 ∧ R ≠ X2) := Lib.hid (by omega)
  clear h0R hX1 hX2
  go_enter Tryz.func96, Tryz.ntmps96
  go_upto_region 2 with fail
  change Code.wp _ _ _ _ ((w.alloc (.cells (itC 0 none 0 0 Zn.zero 0 0) 52)).alloc (.cells (itC 0 none 0 0 Zn.zero 0 0) 52))
  generalize (w.alloc (.cells (itC 0 none 0 0 Zn.zero 0 0) 52)).alloc (.cells (itC 0 none 0 0 Zn.zero 0 0) 52) = w0 at *
  rw [HE2.out, HE1.out]
  clear HE1 HE2
  go_wp2_with fail
  refine (C1.out w0 HR.out).mono ?_
  rintro e w1 ⟨rfl, hr, hk⟩
  replace HX1 := Lib.hid (HX1.out.keep hk HNE.out.2.1)
  replace HX2 := Lib.hid (HX2.out.keep hk HNE.out.2.2.1)
  replace HK := Lib.hid (HK.out.trans hk)
  replace HR := Lib.hid hr
  clear hr hk
  have cx : w1.cell? ⟨X2, 0, none⟩ = some (.int .i64 0) := HX2.out.cell 0
  have fx : w1.frozen? ⟨X2, 0, none⟩ = false := HX2.out.free 0
  replace HX2 := Lib.hid (HX2.out.set 0 (.int .i64 v1))
  replace HX1 := Lib.hid (HX1.out.other (a := ⟨X2, 0, none⟩) (.int .i64 v1) HNE.out.1)
  replace HR := Lib.hid (HR.out.other (a := ⟨X2, 0, none⟩) (.int .i64 v1) HNE.out.2.2.2.2)
  replace HK := Lib.hid (HK.out.setNew X2 0 (by have := HN.out; omega) (.int .i64 v1))
  go_upto_region 3 with fail
  generalize w1.setCell ⟨X2, 0, none⟩ (.int .i64 v1) = w2 at *
  clear cx fx
  go_wp2_with fail
  refine (C2.out w2 HR.out).mono ?_
  rintro e w3 ⟨rfl, hr, hk⟩
  replace HX1 := Lib.hid (HX1.out.keep hk HNE.out.2.1)
  replace HX2 := Lib.hid (HX2.out.keep hk HNE.out.2.2.1)
  replace HK := Lib.hid (HK.out.trans hk)
  replace HR := Lib.hid hr
  clear hr hk
  go_wp2_with fail
  refine (C3.out w3 HR.out).mono ?_
  rintro e w4 ⟨rfl, hr, hk⟩
  replace HX1 := Lib.hid (HX1.out.keep hk HNE.out.2.1)
  replace HX2 := Lib.hid (HX2.out.keep hk HNE.out.2.2.1)
  replace HK := Lib.hid (HK.out.trans hk)
  replace HR := Lib.hid hr
  clear hr hk
  go_wp2_with fail
  refine (C4.out w4 HR.out).mono ?_
  rintro e w5 ⟨rfl, hr, hk⟩
  replace HX1 := Lib.hid (HX1.out.keep hk HNE.out.2.1)
  replace HX2 := Lib.hid (HX2.out.keep hk HNE.out.2.2.1)
  replace HK := Lib.hid (HK.out.trans hk)
  replace HR := Lib.hid hr
  clear hr hk
  go_wp2_with fail
  refine (C5.out w5 HR.out).mono ?_
  rintro e w6 ⟨rfl, hr, hk⟩
  replace HX1 := Lib.hid (HX1.out.keep hk HNE.out.2.1)
  replace HX2 := Lib.hid (HX2.out.keep hk HNE.out.2.2.1)
  replace HK := Lib.hid (HK.out.trans hk)
  replace HR := Lib.hid hr
  clear hr hk
  go_wp2_with fail
  refine (C6.out w6 HR.out).mono ?_
  rintro e w7 ⟨rfl, hr, hk⟩
  replace HX1 := Lib.hid (HX1.out.keep hk HNE.out.2.1)
  replace HX2 := Lib.hid (HX2.out.keep hk HNE.out.2.2.1)
  replace HK := Lib.hid (HK.out.trans hk)
  replace HR := Lib.hid hr
  clear hr hk
  have cx : w7.cell? ⟨X2, 15, none⟩ = some (.int .i64 0) := HX2.out.cell 15
  have fx : w7.frozen? ⟨X2, 15, none⟩ = false := HX2.out.free 15
  replace HX2 := Lib.hid (HX2.out.set 15 (.int .i64 v6))
  replace HX1 := Lib.hid (HX1.out.other (a := ⟨X2, 15, none⟩) (.int .i64 v6) HNE.out.1)
  replace HR := Lib.hid (HR.out.other (a := ⟨X2, 15, none⟩) (.int .i64 v6) HNE.out.2.2.2.2)
  replace HK := Lib.hid (HK.out.setNew X2 15 (by have := HN.out; omega) (.int .i64 v6))
  go_upto_region 6 with fail
  generalize w7.setCell ⟨X2, 15, none⟩ (.int .i64 v6) = w8 at *
  clear cx fx
  go_wp2_with fail
  refine (C7.out w8 HR.out).mono ?_
  rintro e w9 ⟨rfl, hr, hk⟩
  replace HX1 := Lib.hid (HX1.out.keep hk HNE.out.2.1)
  replace HX2 := Lib.hid (HX2.out.keep hk HNE.out.2.2.1)
  replace HK := Lib.hid (HK.out.trans hk)
  replace HR := Lib.hid hr
  clear hr hk
  have cx : w9.cell? ⟨X2, 16, none⟩ = some (.int .i64 0) := HX2.out.cell 16
  have fx : w9.frozen? ⟨X2, 16, none⟩ = false := HX2.out.free 16
  replace HX2 := Lib.hid (HX2.out.set 16 (.int .i64 v7))
  replace HX1 := Lib.hid (HX1.out.other (a := ⟨X2, 16, none⟩) (.int .i64 v7) HNE.out.1)
  replace HR := Lib.hid (HR.out.other (a := ⟨X2, 16, none⟩) (.int .i64 v7) HNE.out.2.2.2.2)
  replace HK := Lib.hid (HK.out.setNew X2 16 (by have := HN.out; omega) (.int .i64 v7))
  go_upto_region 7 with fail
  generalize w9.setCell ⟨X2, 16, none⟩ (.int .i64 v7) = w10 at *
  clear cx fx
  replace HX2 : Hid (At w10 X2 (itC v1 none 0 0 Zn.zero v6 v7) 52) := Lib.hid HX2.out
  obtain ⟨r7, b7⟩ := s7
  simp only at hIT
  have c1 : w10.cell? ⟨R, 1, none⟩ = some (.bool b7) := HR.out.cell 1
  have f1 : w10.frozen? ⟨R, 1, none⟩ = false := HR.out.free 1
  have x15 : w10.cell? ⟨X2, 15, none⟩ = some (.int .i64 v6) := HX2.out.cell 15
  have x16 : w10.cell? ⟨X2, 16, none⟩ = some (.int .i64 v7) := HX2.out.cell 16
  clear C1 C2 C3 C4 C5 C6 C7
  cases b7
  · by_cases g1 : v6 = o
    · subst g1
      have d1 : (v6 != v6) = false := by simp
      by_cases g2 : v7 < 4
      · have HF : Hid (rItm v6 st = (⟨v1, [], Zn.zero, v6, v7⟩, ⟨r7, true⟩)) := Lib.hid (by rw [hIT.out, if_pos (.inr (.inr (.inl g2)))])
        clear hIT
        have HR2 : Hid (At (w10.setCell ⟨R, 1, none⟩ (.bool true)) R (rsC ⟨r7, true⟩) 115) := Lib.hid (HR.out.set 1 _)
        have HX12 := Lib.hid (HX1.out.other (a := ⟨R, 1, none⟩) (.bool true) HNE.out.2.1)
        have HX22 := Lib.hid (HX2.out.other (a := ⟨R, 1, none⟩) (.bool true) HNE.out.2.2.1)
        have HK2 := Lib.hid (HK.out.set 1 (.bool true))
        go_upto_region 9 with fail
        generalize w10.setCell ⟨R, 1, none⟩ (.bool true) = w11 at *
        go_wp2_with (first | (refine wpList_load_row rfl 52 (.tmp 5) rfl X2 rfl 52 (itC v1 none 0 0 Zn.zero v6 v7) (0, 0) _ HX22.out.out Tryz.underlying52 rfl size_item ?_) | (refine wpList_store_at rfl 52 (.tmp 4) (.tmp 50) rfl X1 (itC v1 none 0 0 Zn.zero v6 v7) rfl rfl 52 _ HX12.out size_item rfl (itC_one _ _ _ _ _ _ _) ?_))
        intro w12 HW
        have HX13 : Hid (At w12 X1 (itC v1 none 0 0 Zn.zero v6 v7) 52) := Lib.hid (by rw [HW.out]; exact HX12.out.row)
        have HR3 : Hid (At w12 R (rsC ⟨r7, true⟩) 115) := Lib.hid (by rw [HW.out]; exact HR2.out.rowOther HNE.out.2.2.2.1)
        have HK3 : Hid (Keep R w w12) := Lib.hid (by rw [HW.out]; exact HK2.out.rowNew HN.out.1)
        go_wp2_with fail
        refine bodyPost_ret (results_cell_row rfl _ _ X1 52 _ (0, 0) _ rfl HX13.out.out Tryz.underlying52 rfl size_item) rfl ⟨?_, ?_, HK3.out⟩
        · rw [HF.out]; exact ⟨none, 0, rfl, LabT.nil _, Nat.le_refl _, fun k h => (by cases h)⟩
        · rw [HF.out]; exact HR3.out
      · by_cases g3 : 262148 < v7
        · have HF : Hid (rItm v6 st = (⟨v1, [], Zn.zero, v6, v7⟩, ⟨r7, true⟩)) := Lib.hid (by rw [hIT.out, if_pos (.inr (.inr (.inr g3)))])
          clear hIT
          have HR2 : Hid (At (w10.setCell ⟨R, 1, none⟩ (.bool true)) R (rsC ⟨r7, true⟩) 115) := Lib.hid (HR.out.set 1 _)
          have HX12 := Lib.hid (HX1.out.other (a := ⟨R, 1, none⟩) (.bool true) HNE.out.2.1)
          have HX22 := Lib.hid (HX2.out.other (a := ⟨R, 1, none⟩) (.bool true) HNE.out.2.2.1)
          have HK2 := Lib.hid (HK.out.set 1 (.bool true))
          go_upto_region 9 with fail
          generalize w10.setCell ⟨R, 1, none⟩ (.bool true) = w11 at *
          go_wp2_with (first | (refine wpList_load_row rfl 52 (.tmp 5) rfl X2 rfl 52 (itC v1 none 0 0 Zn.zero v6 v7) (0, 0) _ HX22.out.out Tryz.underlying52 rfl size_item ?_) | (refine wpList_store_at rfl 52 (.tmp 4) (.tmp 50) rfl X1 (itC v1 none 0 0 Zn.zero v6 v7) rfl rfl 52 _ HX12.out size_item rfl (itC_one _ _ _ _ _ _ _) ?_))
          intro w12 HW
          have HX13 : Hid (At w12 X1 (itC v1 none 0 0 Zn.zero v6 v7) 52) := Lib.hid (by rw [HW.out]; exact HX12.out.row)
          have HR3 : Hid (At w12 R (rsC ⟨r7, true⟩) 115) := Lib.hid (by rw [HW.out]; exact HR2.out.rowOther HNE.out.2.2.2.1)
          have HK3 : Hid (Keep R w w12) := Lib.hid (by rw [HW.out]; exact HK2.out.rowNew HN.out.1)
          go_wp2_with fail
          refine bodyPost_ret (results_cell_row rfl _ _ X1 52 _ (0, 0) _ rfl HX13.out.out Tryz.underlying52 rfl size_item) rfl ⟨?_, ?_, HK3.out⟩
          · rw [HF.out]; exact ⟨none, 0, rfl, LabT.nil _, Nat.le_refl _, fun k h => (by cases h)⟩
          · rw [HF.out]; exact HR3.out
        · have HF : Hid (rItm v6 st = (⟨v1, (parE v3).1, (zD v5).1, v6, v7⟩, ⟨r7, decide ((parE v3).2 ≠ 0 ∨ (zD v5).2 ≠ 0)⟩)) := Lib.hid (by rw [hIT.out, if_neg (by simp; omega)])
          clear hIT
          have hzR : R < w10.heap.size := HR.out.lt
          have hz1 : X1 < w10.heap.size := HX1.out.lt
          have hz2 : X2 < w10.heap.size := HX2.out.lt
          go_wp2_with fail
          refine (CL.out w10).mono ?_
          rintro e w11 ⟨⟨A, c, rfl, hc, hl, ha⟩, hb⟩
          generalize parE v3 = pe at *
          obtain ⟨ls, pe2⟩ := pe
          simp only at hc hl
          have HA : Hid (A.map (·.block) ≠ some R ∧ A.map (·.block) ≠ some X1 ∧ A.map (·.block) ≠ some X2) := Lib.hid (by
            refine ⟨fun e => ?_, fun e => ?_, fun e => ?_⟩ <;> (have := ha _ e; omega))
          have HAW : Hid (∀ k, A.map (·.block) = some k → w.heap.size ≤ k) := Lib.hid (fun k e => by have := ha k e; have := HK.out.size; omega)
          have HC := Lib.hid hc
          have HX12 := Lib.hid ((HX1.out.below hb).other (a := ⟨X2, 1, none⟩) (.slice A ls.length c) HNE.out.1)
          have HX22 : Hid (At (w11.setCell ⟨X2, 1, none⟩ (.slice A ls.length c)) X2 (itC v1 A ls.length c Zn.zero v6 v7) 52) := Lib.hid ((HX2.out.below hb).set 1 _)
          have HR2 := Lib.hid ((HR.out.below hb).other (a := ⟨X2, 1, none⟩) (.slice A ls.length c) HNE.out.2.2.2.2)
          have HK2 := Lib.hid ((HK.out.trans (Keep.below hb)).setNew X2 1 (by have := HN.out; omega) (.slice A ls.length c))
          have HL2 := Lib.hid (hl.keepP ((Keep.refl X2 w11).set 1 (.slice A ls.length c)) HA.out.2.2)
          have cx : w11.cell? ⟨X2, 1, none⟩ = some (.slice none 0 0) := (HX2.out.below hb).cell 1
          have fx : w11.frozen? ⟨X2, 1, none⟩ = false := (HX2.out.below hb).free 1
          clear ha hb hl hc HX1 HX2 HR HK c1 f1 x15 x16 CL
          go_upto_region 12 with fail
          generalize w11.setCell ⟨X2, 1, none⟩ (.slice A ls.length c) = w12 at *
          clear cx fx
          go_wp2_with fail
          refine (CZ.out w12).mono ?_
          rintro e w13 ⟨rfl, hb⟩
          have HX13 := Lib.hid (HX12.out.below hb)
          have HX23 := Lib.hid (HX22.out.below hb)
          have HR3 := Lib.hid (HR2.out.below hb)
          have HK3 := Lib.hid (HK2.out.trans (Keep.below hb))
          have HL3 := Lib.hid (HL2.out.below hb)
          clear hb HX12 HX22 HR2 HK2 HL2 CZ
          generalize zD v5 = pz at *
          obtain ⟨z, ez⟩ := pz
          go_wp2_with (refine wpList_store_midH rfl 50 (.tmp 62) (.tmp 60) rfl X2 2 z.cells rfl rfl (HX23.out.there 2 13 (by show 2 + 13 ≤ 17; decide)) size_zone (zn_one _) ?_)
          intro w14 HW
          have HX14 : Hid (At w14 X1 (itC 0 none 0 0 Zn.zero 0 0) 52) := Lib.hid (by rw [HW.out]; exact HX13.out.otherCells HNE.out.1 _ _)
          have HX24 : Hid (At w14 X2 (itC v1 A ls.length c z v6 v7) 52) := Lib.hid (by rw [HW.out, ← item_zone]; exact HX23.out.setCells _ _)
          have HR4 : Hid (At w14 R (rsC ⟨r7, false⟩) 115) := Lib.hid (by rw [HW.out]; exact HR3.out.otherCells HNE.out.2.2.2.2 _ _)
          have HK4 : Hid (Keep R w w14) := Lib.hid (by rw [HW.out]; exact Keep.setCells (by have := HN.out; omega) _ _ _ HK3.out)
          have HL4 : Hid (LabT w14 A ls) := Lib.hid (HL3.out.keepP (p := X2) (by rw [HW.out]; exact Keep.setCellsP _ _ _ (Keep.refl _ _)) HA.out.2.2)
          clear HW HX13 HX23 HR3 HK3 HL3
          have c1 : w14.cell? ⟨R, 1, none⟩ = some (.bool false) := HR4.out.cell 1
          have f1 : w14.frozen? ⟨R, 1, none⟩ = false := HR4.out.free 1
          by_cases k1 : pe2 = 0
          · subst k1
            by_cases k2 : ez = 0
            · subst k2
              have HR5 : Hid (At (w14.setCell ⟨R, 1, none⟩ (.bool false)) R (rsC ⟨r7, decide ((0 : Int) ≠ 0 ∨ (0 : Int) ≠ 0)⟩) 115) := Lib.hid (by
                have e : decide ((0 : Int) ≠ 0 ∨ (0 : Int) ≠ 0) = false := by decide
                rw [e]
                exact HR4.out.set 1 _)
              have HX15 := Lib.hid (HX14.out.other (a := ⟨R, 1, none⟩) (.bool false) HNE.out.2.1)
              have HX25 := Lib.hid (HX24.out.other (a := ⟨R, 1, none⟩) (.bool false) HNE.out.2.2.1)
              have HK5 := Lib.hid (HK4.out.set 1 (.bool false))
              have HL5 := Lib.hid (HL4.out.keepP ((Keep.refl R w14).set 1 (.bool false)) HA.out.1)
              go_upto_region 14 with fail
              generalize w14.setCell ⟨R, 1, none⟩ (.bool false) = w15 at *
              go_wp2_with (first | (refine wpList_load_row rfl 52 (.tmp 5) rfl X2 rfl 52 (itC v1 A ls.length c z v6 v7) (0, 0) _ HX25.out.out Tryz.underlying52 rfl size_item ?_) | (refine wpList_store_at rfl 52 (.tmp 4) (.tmp 72) rfl X1 (itC v1 A ls.length c z v6 v7) rfl rfl 52 _ HX15.out size_item rfl (itC_one _ _ _ _ _ _ _) ?_))
              intro w16 HW
              have HX16 : Hid (At w16 X1 (itC v1 A ls.length c z v6 v7) 52) := Lib.hid (by rw [HW.out]; exact HX15.out.row)
              have HR6 : Hid (At w16 R (rsC ⟨r7, decide ((0 : Int) ≠ 0 ∨ (0 : Int) ≠ 0)⟩) 115) := Lib.hid (by rw [HW.out]; exact HR5.out.rowOther HNE.out.2.2.2.1)
              have HK6 : Hid (Keep R w w16) := Lib.hid (by rw [HW.out]; exact HK5.out.rowNew HN.out.1)
              have HL6 : Hid (LabT w16 A ls) := Lib.hid (HL5.out.keepP (p := X1) (by rw [HW.out]; exact Keep.rowP _ _ _) HA.out.2.1)
              go_wp2_with fail
              refine bodyPost_ret (results_cell_row rfl _ _ X1 52 _ (0, 0) _ rfl HX16.out.out Tryz.underlying52 rfl size_item) rfl ⟨?_, ?_, HK6.out⟩
              · rw [HF.out]; exact ⟨A, c, rfl, HL6.out, HC.out, HAW.out⟩
              · rw [HF.out]; exact HR6.out
            · have d2 : (ez != 0) = true := bne_iff_ne.2 k2
              have HR5 : Hid (At (w14.setCell ⟨R, 1, none⟩ (.bool true)) R (rsC ⟨r7, decide ((0 : Int) ≠ 0 ∨ ez ≠ 0)⟩) 115) := Lib.hid (by
                have e : decide ((0 : Int) ≠ 0 ∨ ez ≠ 0) = true := decide_eq_true (.inr k2)
                rw [e]
                exact HR4.out.set 1 _)
              have HX15 := Lib.hid (HX14.out.other (a := ⟨R, 1, none⟩) (.bool true) HNE.out.2.1)
              have HX25 := Lib.hid (HX24.out.other (a := ⟨R, 1, none⟩) (.bool true) HNE.out.2.2.1)
              have HK5 := Lib.hid (HK4.out.set 1 (.bool true))
              have HL5 := Lib.hid (HL4.out.keepP ((Keep.refl R w14).set 1 (.bool true)) HA.out.1)
              go_upto_region 14 with fail
              generalize w14.setCell ⟨R, 1, none⟩ (.bool true) = w15 at *
              go_wp2_with (first | (refine wpList_load_row rfl 52 (.tmp 5) rfl X2 rfl 52 (itC v1 A ls.length c z v6 v7) (0, 0) _ HX25.out.out Tryz.underlying52 rfl size_item ?_) | (refine wpList_store_at rfl 52 (.tmp 4) (.tmp 72) rfl X1 (itC v1 A ls.length c z v6 v7) rfl rfl 52 _ HX15.out size_item rfl (itC_one _ _ _ _ _ _ _) ?_))
              intro w16 HW
              have HX16 : Hid (At w16 X1 (itC v1 A ls.length c z v6 v7) 52) := Lib.hid (by rw [HW.out]; exact HX15.out.row)
              have HR6 : Hid (At w16 R (rsC ⟨r7, decide ((0 : Int) ≠ 0 ∨ ez ≠ 0)⟩) 115) := Lib.hid (by rw [HW.out]; exact HR5.out.rowOther HNE.out.2.2.2.1)
              have HK6 : Hid (Keep R w w16) := Lib.hid (by rw [HW.out]; exact HK5.out.rowNew HN.out.1)
              have HL6 : Hid (LabT w16 A ls) := Lib.hid (HL5.out.keepP (p := X1) (by rw [HW.out]; exact Keep.rowP _ _ _) HA.out.2.1)
              go_wp2_with fail
              refine bodyPost_ret (results_cell_row rfl _ _ X1 52 _ (0, 0) _ rfl HX16.out.out Tryz.underlying52 rfl size_item) rfl ⟨?_, ?_, HK6.out⟩
              · rw [HF.out]; exact ⟨A, c, rfl, HL6.out, HC.out, HAW.out⟩
              · rw [HF.out]; exact HR6.out
          · have d2 : (pe2 != 0) = true := bne_iff_ne.2 k1
            have HR5 : Hid (At (w14.setCell ⟨R, 1, none⟩ (.bool true)) R (rsC ⟨r7, decide (pe2 ≠ 0 ∨ ez ≠ 0)⟩) 115) := Lib.hid (by
              have e : decide (pe2 ≠ 0 ∨ ez ≠ 0) = true := decide_eq_true (.inl k1)
              rw [e]
              exact HR4.out.set 1 _)
            have HX15 := Lib.hid (HX14.out.other (a := ⟨R, 1, none⟩) (.bool true) HNE.out.2.1)
            have HX25 := Lib.hid (HX24.out.other (a := ⟨R, 1, none⟩) (.bool true) HNE.out.2.2.1)
            have HK5 := Lib.hid (HK4.out.set 1 (.bool true))
            have HL5 := Lib.hid (HL4.out.keepP ((Keep.refl R w14).set 1 (.bool true)) HA.out.1)
            go_upto_region 14 with fail
            generalize w14.setCell ⟨R, 1, none⟩ (.bool true) = w15 at *
            go_wp2_with (first | (refine wpList_load_row rfl 52 (.tmp 5) rfl X2 rfl 52 (itC v1 A ls.length c z v6 v7) (0, 0) _ HX25.out.out Tryz.underlying52 rfl size_item ?_) | (refine wpList_store_at rfl 52 (.tmp 4) (.tmp 72) rfl X1 (itC v1 A ls.length c z v6 v7) rfl rfl 52 _ HX15.out size_item rfl (itC_one _ _ _ _ _ _ _) ?_))
            intro w16 HW
            have HX16 : Hid (At w16 X1 (itC v1 A ls.length c z v6 v7) 52) := Lib.hid (by rw [HW.out]; exact HX15.out.row)
            have HR6 : Hid (At w16 R (rsC ⟨r7, decide (pe2 ≠ 0 ∨ ez ≠ 0)⟩) 115) := Lib.hid (by rw [HW.out]; exact HR5.out.rowOther HNE.out.2.2.2.1)
            have HK6 : Hid (Keep R w w16) := Lib.hid (by rw [HW.out]; exact HK5.out.rowNew HN.out.1)
            have HL6 : Hid (LabT w16 A ls) := Lib.hid (HL5.out.keepP (p := X1) (by rw [HW.out]; exact Keep.rowP _ _ _) HA.out.2.1)
            go_wp2_with fail
            refine bodyPost_ret (results_cell_row rfl _ _ X1 52 _ (0, 0) _ rfl HX16.out.out Tryz.underlying52 rfl size_item) rfl ⟨?_, ?_, HK6.out⟩
            · rw [HF.out]; exact ⟨A, c, rfl, HL6.out, HC.out, HAW.out⟩
            · rw [HF.out]; exact HR6.out
    · have d1 : (v6 != o) = true := bne_iff_ne.2 g1
      have HF : Hid (rItm o st = (⟨v1, [], Zn.zero, v6, v7⟩, ⟨r7, true⟩)) := Lib.hid (by rw [hIT.out, if_pos (.inr (.inl g1))])
      clear hIT
      have HR2 : Hid (At (w10.setCell ⟨R, 1, none⟩ (.bool true)) R (rsC ⟨r7, true⟩) 115) := Lib.hid (HR.out.set 1 _)
      have HX12 := Lib.hid (HX1.out.other (a := ⟨R, 1, none⟩) (.bool true) HNE.out.2.1)
      have HX22 := Lib.hid (HX2.out.other (a := ⟨R, 1, none⟩) (.bool true) HNE.out.2.2.1)
      have HK2 := Lib.hid (HK.out.set 1 (.bool true))
      go_upto_region 9 with fail
      generalize w10.setCell ⟨R, 1, none⟩ (.bool true) = w11 at *
      go_wp2_with (first | (refine wpList_load_row rfl 52 (.tmp 5) rfl X2 rfl 52 (itC v1 none 0 0 Zn.zero v6 v7) (0, 0) _ HX22.out.out Tryz.underlying52 rfl size_item ?_) | (refine wpList_store_at rfl 52 (.tmp 4) (.tmp 50) rfl X1 (itC v1 none 0 0 Zn.zero v6 v7) rfl rfl 52 _ HX12.out size_item rfl (itC_one _ _ _ _ _ _ _) ?_))
      intro w12 HW
      have HX13 : Hid (At w12 X1 (itC v1 none 0 0 Zn.zero v6 v7) 52) := Lib.hid (by rw [HW.out]; exact HX12.out.row)
      have HR3 : Hid (At w12 R (rsC ⟨r7, true⟩) 115) := Lib.hid (by rw [HW.out]; exact HR2.out.rowOther HNE.out.2.2.2.1)
      have HK3 : Hid (Keep R w w12) := Lib.hid (by rw [HW.out]; exact HK2.out.rowNew HN.out.1)
      go_wp2_with fail
      refine bodyPost_ret (results_cell_row rfl _ _ X1 52 _ (0, 0) _ rfl HX13.out.out Tryz.underlying52 rfl size_item) rfl ⟨?_, ?_, HK3.out⟩
      · rw [HF.out]; exact ⟨none, 0, rfl, LabT.nil _, Nat.le_refl _, fun k h => (by cases h)⟩
      · rw [HF.out]; exact HR3.out
  · have HF : Hid (rItm o st = (⟨v1, [], Zn.zero, v6, v7⟩, ⟨r7, true⟩)) := Lib.hid (by rw [hIT.out, if_pos (.inl rfl)])
    clear hIT
    have HR2 : Hid (At (w10.setCell ⟨R, 1, none⟩ (.bool true)) R (rsC ⟨r7, true⟩) 115) := Lib.hid (HR.out.set 1 _)
    have HX12 := Lib.hid (HX1.out.other (a := ⟨R, 1, none⟩) (.bool true) HNE.out.2.1)
    have HX22 := Lib.hid (HX2.out.other (a := ⟨R, 1, none⟩) (.bool true) HNE.out.2.2.1)
    have HK2 := Lib.hid (HK.out.set 1 (.bool true))
    go_upto_region 9 with fail
    generalize w10.setCell ⟨R, 1, none⟩ (.bool true) = w11 at *
    go_wp2_with (first | (refine wpList_load_row rfl 52 (.tmp 5) rfl X2 rfl 52 (itC v1 none 0 0 Zn.zero v6 v7) (0, 0) _ HX22.out.out Tryz.underlying52 rfl size_item ?_) | (refine wpList_store_at rfl 52 (.tmp 4) (.tmp 50) rfl X1 (itC v1 none 0 0 Zn.zero v6 v7) rfl rfl 52 _ HX12.out size_item rfl (itC_one _ _ _ _ _ _ _) ?_))
    intro w12 HW
    have HX13 : Hid (At w12 X1 (itC v1 none 0 0 Zn.zero v6 v7) 52) := Lib.hid (by rw [HW.out]; exact HX12.out.row)
    have HR3 : Hid (At w12 R (rsC ⟨r7, true⟩) 115) := Lib.hid (by rw [HW.out]; exact HR2.out.rowOther HNE.out.2.2.2.1)
    have HK3 : Hid (Keep R w w12) := Lib.hid (by rw [HW.out]; exact HK2.out.rowNew HN.out.1)
    go_wp2_with fail
    refine bodyPost_ret (results_cell_row rfl _ _ X1 52 _ (0, 0) _ rfl HX13.out.out Tryz.underlying52 rfl size_item) rfl ⟨?_, ?_, HK3.out⟩
    · rw [HF.out]; exact ⟨none, 0, rfl, LabT.nil _, Nat.le_refl _, fun k h => (by cases h)⟩
    · rw [HF.out]; exact HR3.out
end Go.Proofs.YtoojpfcnekpboaaGreat
