/- What keeps the blocks of a type; slices whose row has a type. -/
import Derived.Test.YtoojpfcnekpboaaGreatZAR
namespace Go.Proofs.YtoojpfcnekpboaaGreat
open Go.RowKit

/-- All blocks of cells of this type are kept. -/
structure KT (E : TypeId) (w w' : World) : Prop where
  size : w.heap.size ≤ w'.heap.size
  block : ∀ (b : Nat) (cs : Array Value) (fz : Nat × Nat), w.heap[b]? = some (.cells cs E fz) → w'.heap[b]? = some (.cells cs E fz)
section
variable {E t : TypeId} {w w' w'' : World} {p : Nat} {c : Array Value}
theorem KT.refl (E : TypeId) (w : World) : KT E w w := ⟨Nat.le_refl _, fun _ _ _ h => h⟩
theorem KT.trans (h : KT E w w') (k : KT E w' w'') : KT E w w'' := ⟨Nat.le_trans h.size k.size, fun b cs fz hb => k.block b cs fz (h.block b cs fz hb)⟩
theorem KT.below (h : Below w.heap.size w w') : KT E w w' := ⟨h.size, fun b _ _ hb => (h.block b (Array.getElem?_eq_some_iff.1 hb).1).trans hb⟩
theorem KT.keep (h : Keep p w w') (hp : At w p c t) (ht : t ≠ E) : KT E w w' := ⟨h.size, fun b cs fz hb => (h.block b (Array.getElem?_eq_some_iff.1 hb).1 (fun e => by
  subst e
  rw [hp.out] at hb
  injection hb with hb
  injection hb with _ e2 _
  exact ht e2)).trans hb⟩
theorem KT.set (hp : At w p c t) (ht : t ≠ E) (i : Nat) (v : Value) : KT E w (w.setCell ⟨p, i, none⟩ v) := KT.keep ((Keep.refl p w).set i v) hp ht
theorem KT.alloc (o : Obj) : KT E w (w.alloc o) := KT.below ((Below.refl _ _).alloc (Nat.le_refl _) o)
theorem KT.drewN (n : Nat) : KT E w (w.drewN n) := ⟨Nat.le_refl _, fun _ _ _ h => h⟩
theorem KT.row (hp : At w p c t) (ht : t ≠ E) (c' : Array Value) : KT E w (w.setRow p c') := KT.keep ⟨rfl, rfl, rfl, by rw [size_setRow]; exact Nat.le_refl _, fun k _ hne => setRow_other w p k c' hne⟩ hp ht
theorem At.kt {b : Nat} (h : At w b c E) (hk : KT E w w') : At w' b c E := ⟨hk.block _ _ _ h.out⟩
end
/-- The row behind an address has this type. -/
def TyO (E : TypeId) (w : World) (A : Option Addr) : Prop := ∀ b : Nat, A.map (·.block) = some b → ∃ (cs : Array Value) (fz : Nat × Nat), w.heap[b]? = some (.cells cs E fz)
theorem TyO.none (E : TypeId) (w : World) : TyO E w none := fun b h => by cases h
section
variable {E t : TypeId} {w w' W : World} {A A' : Option Addr} {s n c : Nat} {xs : List (Array Value)}
theorem TyO.kt (h : TyO E w A) (hk : KT E w w') : TyO E w' A := fun b hb => by
  obtain ⟨cs, fz, h1⟩ := h b hb
  exact ⟨cs, fz, hk.block _ _ _ h1⟩
theorem SR.ty (h : SR W E s A n c xs w) : TyO E w A := fun b hb => by
  rcases h.row.2 with ⟨e, _⟩ | ⟨g, cap, cur, e, _, h1, _⟩
  · injection e with e _ _
    rw [e] at hb
    cases hb
  · injection e with e _ _
    rw [e] at hb
    injection hb with hb
    subst hb
    exact ⟨cur, _, h1⟩
theorem SR.kt (h : SR W E s A n c xs w) (hk : KT E w w') (hb : Below W.heap.size W w') : SR W E s A n c xs w' := by
  refine ⟨h.len, h.size, ⟨h.row.1, ?_⟩, hb⟩
  rcases h.row.2 with h1 | ⟨g, cap, cur, e, h2, h3, h4⟩
  · exact .inl h1
  · exact .inr ⟨g, cap, cur, e, h2, hk.block _ _ _ h3, h4⟩
/-- A row of another type that grows. -/
theorem Gro.kt (h : Gro w w' A A') (hr : SR W t s A n c xs w) (ht : t ≠ E) : KT E w w' := ⟨h.grow.size, fun b cs fz hb => (h.grow.block b (Array.getElem?_eq_some_iff.1 hb).1 (fun e => by
  obtain ⟨cs2, fz2, h2⟩ := hr.ty b e.symm
  rw [hb] at h2
  injection h2 with h2
  injection h2 with _ e2 _
  exact ht e2.symm)).trans hb⟩
theorem RdIn.kt {B : Nat} (h : RdIn B w s A xs) (ht : TyO E w A) (hk : KT E w w') : RdIn B w' s A xs := fun k hlt => by
  obtain ⟨b, o, h1, h2, h3⟩ := h k hlt
  obtain ⟨cs, fz, h4⟩ := ht b (by rw [h1]; rfl)
  exact ⟨b, o, h1, h2, fun j hj => (World.cell?_of_block ((hk.block _ _ _ h4).trans h4.symm)).trans (h3 j hj)⟩
end
/-- Labels that are read, their row of the labels' type. -/
structure LabT (w : World) (A : Option Addr) (ls : List Lab) : Prop where
  rd : LabsIn w.heap.size w A ls
  ty : TyO 66 w A
theorem LabT.kt {w w' : World} {A : Option Addr} {ls : List Lab} (h : LabT w A ls) (hk : KT 66 w w') : LabT w' A ls := ⟨RdIn.mono (RdIn.kt h.rd h.ty hk) hk.size, h.ty.kt hk⟩
theorem LabT.nil (w : World) : LabT w none [] := ⟨LabsIn.nil _ _ _, TyO.none _ _⟩
def ItT (w : World) (cs : Array Value) (x : Itm) : Prop := ∃ A c, cs = itC x.sig A x.labs.length c x.zone x.off x.size ∧ LabT w A x.labs ∧ x.labs.length ≤ c
def ChT (w : World) (cs : Array Value) (x : Chk) : Prop := ∃ A c, cs = chC x.sig A x.labs.length c x.zone x.data ∧ LabT w A x.labs ∧ x.labs.length ≤ c
theorem ItT.kt {w w' : World} {cs : Array Value} {x : Itm} (h : ItT w cs x) (hk : KT 66 w w') : ItT w' cs x := by
  obtain ⟨A, c, h1, h2, h3⟩ := h
  exact ⟨A, c, h1, h2.kt hk, h3⟩
theorem ChT.kt {w w' : World} {cs : Array Value} {x : Chk} (h : ChT w cs x) (hk : KT 66 w w') : ChT w' cs x := by
  obtain ⟨A, c, h1, h2, h3⟩ := h
  exact ⟨A, c, h1, h2.kt hk, h3⟩
/-- Rows that are items, chunks. -/
def ItTs (w : World) (vs : List (Array Value)) (xs : List Itm) : Prop := vs.length = xs.length ∧ ∀ k (h : k < vs.length) (h' : k < xs.length), ItT w vs[k] xs[k]
def ChTs (w : World) (vs : List (Array Value)) (xs : List Chk) : Prop := vs.length = xs.length ∧ ∀ k (h : k < vs.length) (h' : k < xs.length), ChT w vs[k] xs[k]
theorem ItTs.kt {w w' : World} {vs : List (Array Value)} {xs : List Itm} (h : ItTs w vs xs) (hk : KT 66 w w') : ItTs w' vs xs := ⟨h.1, fun k a b => (h.2 k a b).kt hk⟩
theorem ChTs.kt {w w' : World} {vs : List (Array Value)} {xs : List Chk} (h : ChTs w vs xs) (hk : KT 66 w w') : ChTs w' vs xs := ⟨h.1, fun k a b => (h.2 k a b).kt hk⟩
theorem ItTs.nil (w : World) : ItTs w [] [] := ⟨rfl, fun k h => absurd h (by simp)⟩
theorem ChTs.nil (w : World) : ChTs w [] [] := ⟨rfl, fun k h => absurd h (by simp)⟩
theorem ItTs.snoc {w : World} {vs : List (Array Value)} {xs : List Itm} {v : Array Value} {y : Itm} (h : ItTs w vs xs) (hv : ItT w v y) : ItTs w (vs ++ [v]) (xs ++ [y]) := by
  refine ⟨by simp [h.1], fun k h1 h2 => ?_⟩
  by_cases hk : k < vs.length
  · rw [List.getElem_append_left hk, List.getElem_append_left (by have := h.1; omega)]
    exact h.2 k hk (by have := h.1; omega)
  · have e : k = vs.length := by rw [List.length_append] at h1; simp at h1; omega
    subst e
    rw [List.getElem_append_right (Nat.le_refl _), List.getElem_append_right (by have := h.1; omega)]
    simp only [h.1, Nat.sub_self, List.getElem_cons_zero]
    exact hv
theorem ChTs.snoc {w : World} {vs : List (Array Value)} {xs : List Chk} {v : Array Value} {y : Chk} (h : ChTs w vs xs) (hv : ChT w v y) : ChTs w (vs ++ [v]) (xs ++ [y]) := by
  refine ⟨by simp [h.1], fun k h1 h2 => ?_⟩
  by_cases hk : k < vs.length
  · rw [List.getElem_append_left hk, List.getElem_append_left (by have := h.1; omega)]
    exact h.2 k hk (by have := h.1; omega)
  · have e : k = vs.length := by rw [List.length_append] at h1; simp at h1; omega
    subst e
    rw [List.getElem_append_right (Nat.le_refl _), List.getElem_append_right (by have := h.1; omega)]
    simp only [h.1, Nat.sub_self, List.getElem_cons_zero]
    exact hv
/-- Slices of items, of chunks, whose rows have these types. -/
structure ItmsT (w : World) (A : Option Addr) (xs : List Itm) : Prop where mk :: (out : ∃ vs, RdIn w.heap.size w 17 A vs ∧ TyO 52 w A ∧ ItTs w vs xs)
structure ChksT (w : World) (A : Option Addr) (xs : List Chk) : Prop where mk :: (out : ∃ vs, RdIn w.heap.size w 16 A vs ∧ TyO 58 w A ∧ ChTs w vs xs)
theorem ItmsT.kt {w w' : World} {A : Option Addr} {xs : List Itm} (h : ItmsT w A xs) (h1 : KT 66 w w') (h2 : KT 52 w w') : ItmsT w' A xs := by
  obtain ⟨vs, a, b, c⟩ := h.out
  exact ⟨vs, RdIn.mono (RdIn.kt a b h2) h2.size, b.kt h2, c.kt h1⟩
theorem ChksT.kt {w w' : World} {A : Option Addr} {xs : List Chk} (h : ChksT w A xs) (h1 : KT 66 w w') (h2 : KT 58 w w') : ChksT w' A xs := by
  obtain ⟨vs, a, b, c⟩ := h.out
  exact ⟨vs, RdIn.mono (RdIn.kt a b h2) h2.size, b.kt h2, c.kt h1⟩
theorem ItmsT.rd {w : World} {A : Option Addr} {xs : List Itm} (h : ItmsT w A xs) : ItmsIn w.heap.size w A xs := by
  obtain ⟨vs, a, _, c1, c2⟩ := h.out
  exact ⟨vs, c1, a, fun k h1 h2 => by
    obtain ⟨A', c, e1, e2, e3⟩ := c2 k h1 h2
    exact ⟨A', c, e1, e2.rd, e3⟩⟩
theorem ChksT.rd {w : World} {A : Option Addr} {xs : List Chk} (h : ChksT w A xs) : ChksIn w.heap.size w A xs := by
  obtain ⟨vs, a, _, c1, c2⟩ := h.out
  exact ⟨vs, c1, a, fun k h1 h2 => by
    obtain ⟨A', c, e1, e2, e3⟩ := c2 k h1 h2
    exact ⟨A', c, e1, e2.rd, e3⟩⟩
/-- A row of chunks of the call's own, that may be written. -/
structure ChRow (w : World) (A : Option Addr) (xs : List Chk) : Prop where mk :: (out : ∃ vs, ChTs w vs xs ∧ (xs = [] ∨ ∃ g cur, A = some ⟨g, 0, none⟩ ∧ At w g cur 58 ∧ (∀ v ∈ vs, v.size = 16) ∧ ∀ (k : Nat) (h : k < vs.length) (j : Nat), j < 16 → cur[k * 16 + j]? = (vs[k])[j]?))
theorem ChRow.kt {w w' : World} {A : Option Addr} {xs : List Chk} (h : ChRow w A xs) (h1 : KT 66 w w') (h2 : KT 58 w w') : ChRow w' A xs := by
  obtain ⟨vs, a, b⟩ := h.out
  refine ⟨vs, a.kt h1, b.imp id ?_⟩
  rintro ⟨g, cur, e1, e2, e3, e4⟩
  exact ⟨g, cur, e1, e2.kt h2, e3, e4⟩
theorem ChRow.rd {w : World} {A : Option Addr} {xs : List Chk} (h : ChRow w A xs) : ChksIn w.heap.size w A xs := by
  obtain ⟨vs, a, b⟩ := h.out
  rcases b with rfl | ⟨g, cur, rfl, e2, e3, e4⟩
  · exact ChksIn.nil _ _ _
  · refine ⟨vs, a.1, fun k hk => ⟨g, 0, rfl, e2.lt, fun j hj => ?_⟩, fun k h1 h2 => ?_⟩
    · rw [Nat.zero_add, e2.cell]
      exact e4 k hk j hj
    · obtain ⟨A', c, q1, q2, q3⟩ := a.2 k h1 h2
      exact ⟨A', c, q1, q2.rd, q3⟩
theorem SR.chRow {W w : World} {A : Option Addr} {n c : Nat} {vs : List (Array Value)} {xs : List Chk} (h : SR W 58 16 A n c vs w) (hv : ChTs w vs xs) : ChRow w A xs := by
  refine ⟨vs, hv, ?_⟩
  rcases h.row.2 with ⟨_, h0⟩ | ⟨g, cap, cur, e, _, h1, hnc, _, hsz, htk⟩
  · refine .inl (List.eq_nil_of_length_eq_zero ?_)
    rw [← hv.1, h.len, h0]
  · injection e with e _ _
    refine .inr ⟨g, cur, e, ⟨h1⟩, h.size, fun k hk j hj => ?_⟩
    have h3 := flatS_get h.size k j vs[k] (List.getElem?_eq_getElem hk) hj
    rw [← htk, List.getElem?_take] at h3
    have hlt : k * 16 + j < n * 16 := by have := h.len; have : k < n := by omega
                                         omega
    rw [if_pos hlt] at h3
    rw [← h3]
    simp
theorem LabT.keepP {p : Nat} {w w' : World} {A : Option Addr} {ls : List Lab} (h : LabT w A ls) (hk : Keep p w w') (hA : A.map (·.block) ≠ some p) : LabT w' A ls := by
  refine ⟨fun k hlt => ?_, fun b hb => ?_⟩
  · obtain ⟨b, o, h1, h2, h3⟩ := h.rd k hlt
    exact ⟨b, o, h1, Nat.lt_of_lt_of_le h2 hk.size, fun j hj => (World.cell?_of_block (hk.block b h2 (fun e => hA (by rw [h1, e]; rfl)))).trans (h3 j hj)⟩
  · obtain ⟨cs, fz, h1⟩ := h.ty b hb
    exact ⟨cs, fz, (hk.block b (Array.getElem?_eq_some_iff.1 h1).1 (fun e => hA (by rw [hb, e]))).trans h1⟩
theorem LabT.below {w w' : World} {A : Option Addr} {ls : List Lab} (h : LabT w A ls) (hb : Below w.heap.size w w') : LabT w' A ls := h.kt (KT.below hb)
end Go.Proofs.YtoojpfcnekpboaaGreat
