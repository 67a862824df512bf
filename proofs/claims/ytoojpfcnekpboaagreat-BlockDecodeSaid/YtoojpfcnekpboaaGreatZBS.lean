/- What the reference's reader of directories says: plain Lean; its boxes. A region that draws: a load that may come ahead of a store or behind it. -/
import Derived.Test.YtoojpfcnekpboaaGreatZBR
import Derived.Test.YtoojpfcnekpboaaGreatZAN
import Derived.BigRegion
import Derived.Great.Frames
namespace Go.Proofs.YtoojpfcnekpboaaGreat
open Go.RowKit Go.Shelf

def NoAcc (d : ByteArray) (size : Int) : Prop := ¬ ∃ id width fr l, IAcc d size id width fr l
/-- The numbers that were read are those of each valid directory. -/
structure QV (d : ByteArray) (size v1 v2 v3 v4 : Int) (s4 : RS) : Prop where mk ::
  out : ∀ id width fr l, IAcc d size id width fr l → v1 = id ∧ v2 = width ∧ v3 = fr ∧ v4 = l.length ∧ l.length ≤ 4000 ∧ ∀ k, k ≤ l.length → ∃ u, qF s4 k = some (l.take k, u) ∧ u.bad = false
theorem QV.of {d : ByteArray} {size : Int} (hs : size ≤ 1000000) {v1 v2 v3 v4 : Int} {s1 s2 s3 s4 : RS} (e1 : qNum ⟨cutS d 4, false⟩ = (v1, s1)) (e2 : qNum s1 = (v2, s2)) (e3 : qNum s2 = (v3, s3)) (e4 : qNum s3 = (v4, s4)) : QV d size v1 v2 v3 v4 s4 := by
  refine ⟨fun id width fr l h => ?_⟩
  obtain ⟨_, _, h3, a1, a2, a3, a4, k1, k2, k3, k4, k5⟩ := h.run hs
  rw [e1] at k1
  injection k1 with k1 h1
  subst h1
  rw [e2] at k2
  injection k2 with k2 h2
  subst h2
  rw [e3] at k3
  injection k3 with k3 h4
  subst h4
  rw [e4] at k4
  injection k4 with k4 h5
  subst h5
  refine ⟨k1, k2, k3, k4, h3, fun k hk => ?_⟩
  obtain ⟨s', q1, _⟩ := k5 k hk
  exact ⟨⟨s', false⟩, q1, rfl⟩
section
variable {d : ByteArray} {size v1 v2 v3 v4 : Int} {s4 u : RS} {k : Nat} {acc : List Itm}
theorem no_head (h : ¬ (4 ≤ d.size ∧ d.extract 0 4 = str magicB)) (hs : size ≤ 1000000) : NoAcc d size := by
  rintro ⟨id, width, fr, l, hA⟩
  have := hA.run hs
  exact h ⟨this.1, this.2.1⟩
theorem QV.bad (h : QV d size v1 v2 v3 v4 s4) (hq : qF s4 k = some (acc, u)) (hk : (k : Int) ≤ v4) (hb : u.bad = true) : NoAcc d size := by
  rintro ⟨id, width, fr, l, hA⟩
  obtain ⟨_, _, _, h4, _, h6⟩ := h.out _ _ _ _ hA
  obtain ⟨u', q1, q2⟩ := h6 k (by omega)
  rw [hq] at q1
  injection q1 with q1
  injection q1 with _ q1
  rw [← q1, hb] at q2
  cases q2
theorem QV.stop (h : QV d size v1 v2 v3 v4 s4) (hq : qF s4 k = some (acc, u)) (hk : (k : Int) < v4) (hb : ¬ qOk (qRaw u)) : NoAcc d size := by
  rintro ⟨id, width, fr, l, hA⟩
  obtain ⟨_, _, _, h4, _, h6⟩ := h.out _ _ _ _ hA
  obtain ⟨u', q1, q2⟩ := h6 (k + 1) (by omega)
  rw [qF_stop hq hb] at q1
  cases q1
theorem QV.many (h : QV d size v1 v2 v3 v4 s4) (hb : 4000 < v4) : NoAcc d size := by
  rintro ⟨id, width, fr, l, hA⟩
  obtain ⟨_, _, _, h4, h5, _⟩ := h.out _ _ _ _ hA
  omega
theorem QV.all (h : QV d size v1 v2 v3 v4 s4) (hq : qF s4 k = some (acc, u)) (hk : (k : Int) = v4) {id width fr : Int} {l : List Itm} (hA : IAcc d size id width fr l) : IAcc d size v1 v2 v3 acc := by
  obtain ⟨h1, h2, h3, h4, _, h6⟩ := h.out _ _ _ _ hA
  obtain ⟨u', q1, _⟩ := h6 k (by omega)
  rw [hq] at q1
  injection q1 with q1
  injection q1 with q1 _
  have e : l.take k = l := List.take_of_length_le (by omega)
  rw [q1, e, h1, h2, h3]
  exact hA
theorem QV.not (h : QV d size v1 v2 v3 v4 s4) (hq : qF s4 k = some (acc, u)) (hk : (k : Int) = v4) (hn : ¬ IAcc d size v1 v2 v3 acc) : NoAcc d size := by
  rintro ⟨id, width, fr, l, hA⟩
  exact hn (h.all hq hk hA)
end
def zB : Array Value := blC ⟨0, 0, 0, []⟩ none 0
theorem zB_one : (zB.all fun x => x.oneCell') = true := blC_one _ _ _
theorem size_zB : (Tryz.prog.info? 25).map (·.size) = some zB.size := size_blk
/-- The boxes of 'items' that stay: its result, the empty block, the reader. -/
structure QB (w : World) (B4 B7 B9 : Nat) (st : RS) (W : World) : Prop where mk ::
  r4 : At W B4 zB 25
  r7 : At W B7 zB 25
  r9 : At W B9 (qRd st) 148
  be : Below w.heap.size w W
  ord : w.heap.size ≤ B4 ∧ B4 < B7 ∧ B7 < B9
section
variable {w W W' : World} {B4 B7 B9 : Nat} {st : RS}
theorem QB.below (h : QB w B4 B7 B9 st W) (hb : Below W.heap.size W W') : QB w B4 B7 B9 st W' := ⟨h.r4.below hb, h.r7.below hb, h.r9.below hb, h.be.trans (hb.mono h.be.size), h.ord⟩
theorem QB.put (h : QB w B4 B7 B9 st W) (u : RS) : QB w B4 B7 B9 u (W.setRow B9 (qRd u)) := ⟨h.r4.rowOther (by have := h.ord; omega), h.r7.rowOther (by have := h.ord; omega), h.r9.row, below_row h.be _ _ (by have := h.ord; omega), h.ord⟩
theorem QB.cell (h : QB w B4 B7 B9 st W) {g i : Nat} {t : TypeId} {cs : Array Value} (hg : At W g cs t) (h1 : t ≠ 25) (h2 : t ≠ 148) (hB : w.heap.size ≤ g) (v : Value) : QB w B4 B7 B9 st (W.setCell ⟨g, i, none⟩ v) :=
  ⟨h.r4.other (a := ⟨g, i, none⟩) v (ne_of_types h.r4 hg (fun e => h1 e.symm)), h.r7.other (a := ⟨g, i, none⟩) v (ne_of_types h.r7 hg (fun e => h1 e.symm)), h.r9.other (a := ⟨g, i, none⟩) v (ne_of_types h.r9 hg (fun e => h2 e.symm)), h.be.setCell (p := ⟨g, i, none⟩) hB v, h.ord⟩
theorem QB.kt (h : QB w B4 B7 B9 st W) (h1 : KT 25 W W') (h2 : KT 148 W W') (hb : Below w.heap.size w W') : QB w B4 B7 B9 st W' := ⟨h.r4.kt h1, h.r7.kt h1, h.r9.kt h2, hb, h.ord⟩
end
theorem keep_row (p : Nat) (w : World) (c : Array Value) : Keep p w (w.setRow p c) := ⟨rfl, rfl, rfl, by rw [size_setRow]; exact Nat.le_refl _, fun k _ hne => setRow_other w p k c hne⟩
/-- .. and the item that is being read. -/
structure QX (w wr : World) (B4 B7 B9 BX : Nat) (st : RS) (X : Array Value) (W : World) : Prop where mk ::
  qb : QB w B4 B7 B9 st W
  x : At W BX X 52
  kp : Keep B9 wr W
  ord : wr.heap.size ≤ BX ∧ B9 < wr.heap.size ∧ w.heap.size ≤ wr.heap.size
section
variable {w wr W W' : World} {B4 B7 B9 BX : Nat} {st : RS} {X : Array Value}
theorem QX.below (h : QX w wr B4 B7 B9 BX st X W) (hb : Below W.heap.size W W') : QX w wr B4 B7 B9 BX st X W' := ⟨h.qb.below hb, h.x.below hb, h.kp.trans (Keep.below hb), h.ord⟩
theorem QX.put (h : QX w wr B4 B7 B9 BX st X W) (u : RS) : QX w wr B4 B7 B9 BX u X (W.setRow B9 (qRd u)) := ⟨h.qb.put u, h.x.rowOther (by have := h.ord; omega), h.kp.trans (keep_row _ _ _), h.ord⟩
theorem QX.cell (h : QX w wr B4 B7 B9 BX st X W) (i : Nat) (v : Value) : QX w wr B4 B7 B9 BX st (X.setIfInBounds i v) (W.setCell ⟨BX, i, none⟩ v) := ⟨h.qb.cell h.x (by decide) (by decide) (by have := h.ord; omega) v, h.x.set i v, h.kp.setNew BX i h.ord.1 v, h.ord⟩
end
theorem chain_at : ∀ (l : List Itm) (a : Int) (j : Nat) (h : j < l.length), ChainI a l → (l[j]).off = a + sizes (l.take j)
  | [], _, j, h, _ => by simp at h
  | x :: r, a, 0, _, h => by
    have e : sizes ((x :: r).take 0) = 0 := rfl
    rw [e]
    have := h.1
    simp only [List.getElem_cons_zero]
    omega
  | x :: r, a, j + 1, h, hc => by
    have := chain_at r (a + x.size) j (by simpa using h) hc.2
    simp only [List.getElem_cons_succ, List.take_succ_cons]
    rw [this]
    unfold sizes
    rw [List.map_cons, List.sum_cons]
    omega
theorem sizes_snoc (l : List Itm) (x : Itm) : sizes (l ++ [x]) = sizes l + x.size := by
  unfold sizes
  rw [List.map_append, List.sum_append]
  simp
theorem chain_snoc : ∀ (l : List Itm) (a : Int) (x : Itm), ChainI a l → x.off = a + sizes l → ChainI a (l ++ [x])
  | [], a, x, _, h => ⟨by rw [h]; simp [sizes], trivial⟩
  | y :: r, a, x, h, hx => by
    refine ⟨h.1, chain_snoc r (a + y.size) x h.2 ?_⟩
    rw [hx]
    unfold sizes
    rw [List.map_cons, List.sum_cons]
    omega
theorem sizes_le : ∀ l : List Itm, (∀ x ∈ l, QI x) → 0 ≤ sizes l ∧ sizes l ≤ 262148 * l.length
  | [], _ => by simp [sizes]
  | x :: r, h => by
    have h1 := (h x List.mem_cons_self).size
    have h2 := sizes_le r (fun y hy => h y (List.mem_cons_of_mem _ hy))
    unfold sizes at h2 ⊢
    rw [List.map_cons, List.sum_cons, List.length_cons]
    omega
/-- What 'items' answers. -/
def QIPost (d : ByteArray) (size : Int) (w : World) (e : Ending) (w' : World) : Prop := Below w.heap.size w w' ∧
  ((∃ id width fr l A c, IAcc d size id width fr l ∧ e = .returned (.tuple #[.agg (blC ⟨id, width, fr, []⟩ none 0), .slice A l.length c, .bool true]) ∧ ItmsT w' A l ∧ l.length ≤ c) ∨
   (NoAcc d size ∧ e = .returned (.tuple #[.agg zB, .slice none 0 0, .bool false])))
end Go.Proofs.YtoojpfcnekpboaaGreat

namespace Go.Proofs.YtoojpfcnekpboaaGreat
open Go.RowKit Go.Shelf

theorem wp_load_rowO {P : Program} {op : Oper} {a : Act} {w : World} {K : Act → World → Prop} {Q : Exit → Act → World → Prop} (ty : TypeId) (x : Operand) (ho : op.op = .load ty x)
    (g : Nat) (hx : a.eval x = .pointer (some ⟨g, 0, none⟩)) (v : Value) (hl : (loadVar ty ⟨g, 0, none⟩).run P w = .ok v w)
    (h : K (a.put op.dst v) w) : op.wp P a w K Q := by
  unfold Oper.wp execOp
  simp only [ho, hx, Instr.loadAt, Instr.sureAddr, Sem.run_bind, Sem.run_pure, Result.andThen_ok]
  rw [hl]
  exact h
theorem run_storeVar_slice {P : Program} (w : World) (b o : Nat) (ty : TypeId) (A : Option Addr) (n c : Nat) (ht : w.there b o 1) (hi : (P.info? ty).map (·.size) = some 1) :
    (storeVar ty ⟨b, o, none⟩ (.slice A n c)).run P w = .ok () (w.setCell ⟨b, o, none⟩ (.slice A n c)) := by
  have := run_storeCells_cells (P := P) b o [.slice A n c] 0 w (fun j hj => by simpa using (ht j (by simpa using hj)).1) (fun j hj => by simpa using (ht j (by simpa using hj)).2)
    (fun v hv => by rw [List.mem_singleton] at hv; rw [hv]; rfl)
  cases hq : P.info? ty with
  | none => simp [hq] at hi
  | some i =>
    have hs : 1 = i.size := by simp [hq] at hi; omega
    simp only [Nat.add_zero] at this
    simp [storeVar, sizeOf, typeInfo, hq, Value.cells, ← hs, this]
    rfl
theorem wp_store_slice {P : Program} {op : Oper} {a : Act} {w : World} {K : Act → World → Prop} {Q : Exit → Act → World → Prop} (ty : TypeId) (x y : Operand) (ho : op.op = .store ty x y)
    (b o : Nat) (A : Option Addr) (n c : Nat) (hx : a.eval x = .pointer (some ⟨b, o, none⟩)) (hy : a.eval y = .slice A n c)
    (ht : w.there b o 1) (hi : (P.info? ty).map (·.size) = some 1)
    (h : K (a.put op.dst undef) (w.setCell ⟨b, o, none⟩ (.slice A n c))) : op.wp P a w K Q := by
  unfold Oper.wp execOp
  simp only [ho, hx, hy, Instr.storeAt, Instr.sureAddr, Sem.run_bind, Sem.run_pure, Result.andThen_ok, run_storeVar_slice w b o ty A n c ht hi]
  exact h
theorem size_labs : (Tryz.prog.info? 46).map (·.size) = some 1 := by kernel_rfl
theorem wpAny_one {P : Program} {md : Region.Mode} {ops : Array Oper} {Q : Exit → Act → World → Prop} {fuel : Nat} {listed : Array Bool} {a a' : Act} {w w' : World} (i : Nat) {o : Oper} (ho : ops[i]? = some o) (hr : Region.ready md ops listed = [i])
    (hw : Region.wanted o (yielded ops a.tmps) = true) (h1 : ∀ K : Act → World → Prop, K a' w' → o.wp P a w K Q)
    (h : wpAny P md ops Q fuel (listed.setIfInBounds i true) a' w') : wpAny P md ops Q (fuel + 1) listed a w :=
  wpAny_ready hr (by simp) (BigFrame.allReady_want ho hw (fun K hK => h1 K (hK _ _ h)) AllReady.nil)
theorem wpAny_two {P : Program} {md : Region.Mode} {ops : Array Oper} {Q : Exit → Act → World → Prop} {fuel : Nat} {listed : Array Bool} {a : Act} {w w1 : World} (i j : Nat) {oi oj : Oper} {v : Value} (hoi : ops[i]? = some oi) (hoj : ops[j]? = some oj)
    (hr : Region.ready md ops listed = [i, j]) (hri : Region.ready md ops (listed.setIfInBounds i true) = [j]) (hrj : Region.ready md ops (listed.setIfInBounds j true) = [i]) (hl : (listed.setIfInBounds j true).setIfInBounds i true = (listed.setIfInBounds i true).setIfInBounds j true)
    (hwi : Region.wanted oi (yielded ops a.tmps) = true) (hwj : Region.wanted oj (yielded ops a.tmps) = true) (hwj' : Region.wanted oj (yielded ops (a.put oi.dst v).tmps) = true)
    (h1 : ∀ K : Act → World → Prop, K (a.put oi.dst v) w → oi.wp P a w K Q) (h1' : ∀ K : Act → World → Prop, K (a.put oi.dst v) w1 → oi.wp P a w1 K Q)
    (hd : oj.dst = none) (h2 : ∀ K : Act → World → Prop, K (a.put oj.dst undef) w1 → oj.wp P a w K Q) (h2' : ∀ K : Act → World → Prop, K ((a.put oi.dst v).put oj.dst undef) w1 → oj.wp P (a.put oi.dst v) w K Q)
    (h : wpAny P md ops Q fuel ((listed.setIfInBounds i true).setIfInBounds j true) (a.put oi.dst v) w1) : wpAny P md ops Q (fuel + 1 + 1) listed a w := by
  have e : ∀ b : Act, b.put oj.dst undef = b := fun b => by rw [hd]; rfl
  simp only [e] at h2 h2'
  exact wpAny_ready hr (by simp) (BigFrame.allReady_want hoi hwi (fun K hK => h1 K (hK _ _ (wpAny_one j hoj hri hwj' h2' h)))
    (BigFrame.allReady_want hoj hwj (fun K hK => h2 K (hK _ _ (wpAny_one i hoi hrj hwi h1' (by rw [hl]; exact h)))) AllReady.nil))
/-- A region: 'x.f, x.g = v, z' where z is a struct: its load may come ahead of the first store or behind it. -/
theorem region_pair {id : Nat} {o0 o1 o2 o3 o4 o5 : Oper} {Q : Exit → Act → World → Prop} {a : Act} {w : World} (D0 D1 D2 D4 X V Z : Nat) (tyS tyZ : TypeId) (BX BZ i j : Nat) (A : Option Addr) (n c : Nat) (ZC : Array Value) (w1 : World)
    (g0 : o0.guard = none) (g1 : o1.guard = none) (g2 : o2.guard = none) (g3 : o3.guard = none) (g4 : o4.guard = none) (g5 : o5.guard = none)
    (d0 : o0.dst = some D0) (d1 : o1.dst = some D1) (d2 : o2.dst = some D2) (d3 : o3.dst = none) (d4 : o4.dst = some D4) (d5 : o5.dst = none)
    (e0 : o0.op = .move (.tmp V)) (e1 : o1.op = .load tyZ (.tmp Z)) (e3 : o3.op = .store tyS (.tmp D2) (.tmp D0)) (e5 : o5.op = .store tyZ (.tmp D4) (.tmp D1))
    (e2 : ∀ (b : Act) (W : World), b.eval (.tmp X) = .pointer (some ⟨BX, 0, none⟩) → (execOp b.eval o2).run Tryz.prog W = .ok (.value (.pointer (some ⟨BX, i, none⟩))) W)
    (e4 : ∀ (b : Act) (W : World), b.eval (.tmp X) = .pointer (some ⟨BX, 0, none⟩) → (execOp b.eval o4).run Tryz.prog W = .ok (.value (.pointer (some ⟨BX, j, none⟩))) W)
    (hn : D0 < D1 ∧ D1 < D2 ∧ D2 < D4 ∧ X < D0 ∧ V < D0 ∧ Z < D0) (hsz : D4 < a.tmps.size)
    (hs : Region.noSelect [o0, o1, o2, o3, o4, o5].toArray = true)
    (f0 : Region.free .any [o0, o1, o2, o3, o4, o5].toArray (Array.replicate 6 false) 0 = true) (r0 : (Region.ready .any [o0, o1, o2, o3, o4, o5].toArray (Array.replicate 6 false)).contains 0 = true) (f2 : Region.free .any [o0, o1, o2, o3, o4, o5].toArray ((Array.replicate 6 false).setIfInBounds 0 true) 2 = true) (r2 : (Region.ready .any [o0, o1, o2, o3, o4, o5].toArray ((Array.replicate 6 false).setIfInBounds 0 true)).contains 2 = true)
    (q1 : Region.ready .any [o0, o1, o2, o3, o4, o5].toArray (((Array.replicate 6 false).setIfInBounds 0 true).setIfInBounds 2 true) = [1, 3]) (q2 : Region.ready .any [o0, o1, o2, o3, o4, o5].toArray ((((Array.replicate 6 false).setIfInBounds 0 true).setIfInBounds 2 true).setIfInBounds 1 true) = [3]) (q3 : Region.ready .any [o0, o1, o2, o3, o4, o5].toArray ((((Array.replicate 6 false).setIfInBounds 0 true).setIfInBounds 2 true).setIfInBounds 3 true) = [1]) (f4 : Region.free .any [o0, o1, o2, o3, o4, o5].toArray (((((Array.replicate 6 false).setIfInBounds 0 true).setIfInBounds 2 true).setIfInBounds 1 true).setIfInBounds 3 true) 4 = true) (r4 : (Region.ready .any [o0, o1, o2, o3, o4, o5].toArray (((((Array.replicate 6 false).setIfInBounds 0 true).setIfInBounds 2 true).setIfInBounds 1 true).setIfInBounds 3 true)).contains 4 = true) (q5 : Region.ready .any [o0, o1, o2, o3, o4, o5].toArray ((((((Array.replicate 6 false).setIfInBounds 0 true).setIfInBounds 2 true).setIfInBounds 1 true).setIfInBounds 3 true).setIfInBounds 4 true) = [5]) (q6 : Region.ready .any [o0, o1, o2, o3, o4, o5].toArray (((((((Array.replicate 6 false).setIfInBounds 0 true).setIfInBounds 2 true).setIfInBounds 1 true).setIfInBounds 3 true).setIfInBounds 4 true).setIfInBounds 5 true) = [])
    (hQ : ∀ (c : List PanicEntry) (b : Act) (W : World) (d : Option Tmp) (v : Value), Q (.panic c) (b.put d v) W → Q (.panic c) b W)
    (hX : a.eval (.tmp X) = .pointer (some ⟨BX, 0, none⟩)) (hV : a.eval (.tmp V) = .slice A n c) (hZ : a.eval (.tmp Z) = .pointer (some ⟨BZ, 0, none⟩))
    (hw1 : w.drew.setCell ⟨BX, i, none⟩ (.slice A n c) = w1)
    (hL1 : (loadVar tyZ ⟨BZ, 0, none⟩).run Tryz.prog w.drew = .ok (.agg ZC) w.drew) (hL2 : (loadVar tyZ ⟨BZ, 0, none⟩).run Tryz.prog w1 = .ok (.agg ZC) w1)
    (ht1 : w.drew.there BX i 1) (hi1 : (Tryz.prog.info? tyS).map (·.size) = some 1) (ht2 : w1.there BX j ZC.size) (hi2 : (Tryz.prog.info? tyZ).map (·.size) = some ZC.size) (h1 : ZC.all (·.oneCell') = true)
    (h : Q .normal ((((a.put (some D0) (.slice A n c)).put (some D2) (.pointer (some ⟨BX, i, none⟩))).put (some D1) (.agg ZC)).put (some D4) (.pointer (some ⟨BX, j, none⟩))) (w1.setCells BX j ZC.toList)) :
    (Code.region id [o0, o1, o2, o3, o4, o5].toArray true).wp Tryz.prog Q a w := by
  obtain ⟨n1, n2, n3, n4, n5, n6⟩ := hn
  have wn : ∀ (o : Oper) (y : Nat → Option Bool), o.guard = none → Region.wanted o y = true := fun o y g => by unfold Region.wanted; rw [g]
  refine wp_region_any (by kernel_rfl) ?_
  show wpAny Tryz.prog .any [o0, o1, o2, o3, o4, o5].toArray Q 6 (Array.replicate 6 false) a w.drew
  have k0 : ∀ W, (execOp a.eval o0).run Tryz.prog W = .ok (.value (.slice A n c)) W := fun W => by rw [BigFrame.run_move _ e0, hV]
  refine wpAny_take (i := 0) (oi := o0) (v := .slice A n c) rfl hs f0 r0 (fun _ _ _ h => hQ _ _ _ _ _ h) (Or.inl ⟨wn _ _ g0, k0⟩) ?_
  rw [d0]
  have hX1 : (a.put (some D0) (.slice A n c)).eval (.tmp X) = .pointer (some ⟨BX, 0, none⟩) := by rw [Act.eval_put_ne _ _ _ _ (by omega), hX]
  have hZ1 : (a.put (some D0) (.slice A n c)).eval (.tmp Z) = .pointer (some ⟨BZ, 0, none⟩) := by rw [Act.eval_put_ne _ _ _ _ (by omega), hZ]
  have hV1 : (a.put (some D0) (.slice A n c)).eval (.tmp D0) = .slice A n c := Act.eval_put_same _ _ _ (by omega)
  have hs1 : D4 < (a.put (some D0) (.slice A n c)).tmps.size := by rw [Act.size_put]; exact hsz
  generalize a.put (some D0) (.slice A n c) = a1 at *
  refine wpAny_take (i := 2) (oi := o2) (v := .pointer (some ⟨BX, i, none⟩)) rfl hs f2 r2 (fun _ _ _ h => hQ _ _ _ _ _ h) (Or.inl ⟨wn _ _ g2, fun W => e2 a1 W hX1⟩) ?_
  rw [d2]
  have hX2 : (a1.put (some D2) (.pointer (some ⟨BX, i, none⟩))).eval (.tmp X) = .pointer (some ⟨BX, 0, none⟩) := by rw [Act.eval_put_ne _ _ _ _ (by omega), hX1]
  have hZ2 : (a1.put (some D2) (.pointer (some ⟨BX, i, none⟩))).eval (.tmp Z) = .pointer (some ⟨BZ, 0, none⟩) := by rw [Act.eval_put_ne _ _ _ _ (by omega), hZ1]
  have hV2 : (a1.put (some D2) (.pointer (some ⟨BX, i, none⟩))).eval (.tmp D0) = .slice A n c := by rw [Act.eval_put_ne _ _ _ _ (by omega), hV1]
  have hP2 : (a1.put (some D2) (.pointer (some ⟨BX, i, none⟩))).eval (.tmp D2) = .pointer (some ⟨BX, i, none⟩) := Act.eval_put_same _ _ _ (by omega)
  have hs2 : D4 < (a1.put (some D2) (.pointer (some ⟨BX, i, none⟩))).tmps.size := by rw [Act.size_put]; exact hs1
  generalize a1.put (some D2) (.pointer (some ⟨BX, i, none⟩)) = a2 at *
  have hV3 : (a2.put o1.dst (.agg ZC)).eval (.tmp D0) = .slice A n c := by rw [d1, Act.eval_put_ne _ _ _ _ (by omega), hV2]
  have hP3 : (a2.put o1.dst (.agg ZC)).eval (.tmp D2) = .pointer (some ⟨BX, i, none⟩) := by rw [d1, Act.eval_put_ne _ _ _ _ (by omega), hP2]
  refine wpAny_two 1 3 (oi := o1) (oj := o3) (v := .agg ZC) (w1 := w1) rfl rfl q1 q2 q3 rfl (wn _ _ g1) (wn _ _ g3) (wn _ _ g3)
    (fun K h => wp_load_rowO tyZ (.tmp Z) e1 BZ hZ2 (.agg ZC) hL1 h) (fun K h => wp_load_rowO tyZ (.tmp Z) e1 BZ hZ2 (.agg ZC) hL2 h) d3
    (fun K h => wp_store_slice tyS (.tmp D2) (.tmp D0) e3 BX i A n c hP2 hV2 ht1 hi1 (by rw [hw1]; exact h))
    (fun K h => wp_store_slice tyS (.tmp D2) (.tmp D0) e3 BX i A n c hP3 hV3 ht1 hi1 (by rw [hw1]; exact h)) ?_
  clear hV3 hP3
  rw [d1]
  have hX3 : (a2.put (some D1) (.agg ZC)).eval (.tmp X) = .pointer (some ⟨BX, 0, none⟩) := by rw [Act.eval_put_ne _ _ _ _ (by omega), hX2]
  have hZ3 : (a2.put (some D1) (.agg ZC)).eval (.tmp D1) = .agg ZC := Act.eval_put_same _ _ _ (by omega)
  have hs3 : D4 < (a2.put (some D1) (.agg ZC)).tmps.size := by rw [Act.size_put]; exact hs2
  generalize a2.put (some D1) (.agg ZC) = a3 at *
  refine wpAny_take (i := 4) (oi := o4) (v := .pointer (some ⟨BX, j, none⟩)) rfl hs f4 r4 (fun _ _ _ h => hQ _ _ _ _ _ h) (Or.inl ⟨wn _ _ g4, fun W => e4 a3 W hX3⟩) ?_
  rw [d4]
  have hZ4 : (a3.put (some D4) (.pointer (some ⟨BX, j, none⟩))).eval (.tmp D1) = .agg ZC := by rw [Act.eval_put_ne _ _ _ _ (by omega), hZ3]
  have hP4 : (a3.put (some D4) (.pointer (some ⟨BX, j, none⟩))).eval (.tmp D4) = .pointer (some ⟨BX, j, none⟩) := Act.eval_put_same _ _ _ (by omega)
  generalize a3.put (some D4) (.pointer (some ⟨BX, j, none⟩)) = a4 at *
  refine wpAny_one 5 (o := o5) (a' := a4.put o5.dst undef) (w' := w1.setCells BX j ZC.toList) rfl q5 (wn _ _ g5) (fun K h => wp_store_mid tyZ (.tmp D4) (.tmp D1) e5 BX j ZC hP4 hZ4 ht2 hi2 h1 h) ?_
  refine wpAny_done q6 ?_ _
  rw [d5]
  exact h
end Go.Proofs.YtoojpfcnekpboaaGreat
