/- The reference's expression: what its loop keeps. -/
import Derived.Test.YthckgmbadmilfaaGreatMBM
namespace Go.Proofs.YthckgmbadmilfaaGreat
open Go.RowKit Rx
/-- The nodes of sequences. -/
def RnL (S : Nat → Prop) (W : World) : List Ss → List (Array Value) → Prop
  | [], xs => xs = []
  | s :: ss, xs => ∃ x zs sv ys, xs = x :: zs ∧ x = nodeC 2 noF false sv ∧ RRow S W sv ys ∧ RnS S W s ys ∧ RnL S W ss zs
theorem RnL.same {S S' : Nat → Prop} {W W' : World} (hs : Same S W W') (hc : ∀ k, S k → S' k) : ∀ (ss : List Ss) (xs : List (Array Value)), RnL S W ss xs → RnL S' W' ss xs
  | [], xs, h => h
  | s :: ss, xs, h => by
    obtain ⟨x, zs, sv, ys, h1, h2, h3, h4, h5⟩ := h
    exact ⟨x, zs, sv, ys, h1, h2, h3.same hs hc, RnS.same hs hc s ys h4, RnL.same hs hc ss zs h5⟩
theorem RnL.snoc {S : Nat → Prop} {W : World} {d : Ss} {sv : Value} {ys : List (Array Value)} (hr : RRow S W sv ys) (hd : RnS S W d ys) : ∀ (ss : List Ss) (xs : List (Array Value)), RnL S W ss xs → RnL S W (ss ++ [d]) (xs ++ [nodeC 2 noF false sv])
  | [], xs, h => by
    obtain rfl : xs = [] := h
    exact ⟨_, [], sv, ys, rfl, rfl, hr, hd, rfl⟩
  | s :: ss, xs, h => by
    obtain ⟨x, zs, sv', ys', h1, h2, h3, h4, h5⟩ := h
    subst h1
    exact ⟨x, _, sv', ys', rfl, h2, h3, h4, RnL.snoc hr hd ss zs h5⟩
theorem RnL.toA {S : Nat → Prop} {W : World} {d : Ss} : ∀ (ss : List Ss) (xs : List (Array Value)), RnL S W (ss ++ [d]) xs → RnA S W (ahd ss (.one d)) xs
  | [], xs, h => by
    obtain ⟨x, zs, sv, ys, h1, h2, h3, h4, h5⟩ := h
    obtain rfl : zs = [] := h5
    unfold ahd RnA
    exact ⟨x, sv, ys, h1, h2, h3, h4⟩
  | s :: ss, xs, h => by
    obtain ⟨x, zs, sv, ys, h1, h2, h3, h4, h5⟩ := h
    unfold ahd RnA
    exact ⟨x, zs, sv, ys, h1, h2, h3, h4, RnL.toA ss zs h5⟩
theorem RnL.nv {S : Nat → Prop} {W : World} : ∀ (ss : List Ss) (xs : List (Array Value)), RnL S W ss xs → ∀ x ∈ xs, NV x
  | [], xs, h, x, hx => by obtain rfl : xs = [] := h; simp at hx
  | s :: ss, xs, h, x, hx => by
    obtain ⟨y, zs, sv, ys, rfl, rfl, h3, h4, h5⟩ := h
    rcases List.mem_cons.1 hx with rfl | hx
    · exact NV.node _ _ _ _ h3.one
    · exact RnL.nv ss zs h5 x hx
theorem RnS.snoc {S : Nat → Prop} {W : World} {u : U} {x : Array Value} (hx : RnU S W u x) : ∀ (d : Ss) (ys : List (Array Value)), RnS S W d ys → RnS S W (cat d (.cons u .nil)) (ys ++ [x]) := by
  intro d
  induction d using Ss.rec (motive_1 := fun _ => True) (motive_3 := fun _ => True) with
  | nil =>
    intro ys h
    unfold RnS at h
    subst h
    unfold cat RnS
    exact ⟨x, [], rfl, hx, by unfold RnS; rfl⟩
  | cons u' d _ ih =>
    intro ys h
    unfold RnS at h
    obtain ⟨y, zs, rfl, h1, h2⟩ := h
    unfold cat RnS
    exact ⟨y, _, rfl, h1, ih zs h2⟩
  | _ => trivial
theorem RnS.nv {S : Nat → Prop} {W : World} : ∀ (d : Ss) (ys : List (Array Value)), RnS S W d ys → ∀ x ∈ ys, NV x := by
  intro d
  induction d using Ss.rec (motive_1 := fun _ => True) (motive_3 := fun _ => True) with
  | nil => intro ys h x hx; unfold RnS at h; subst h; simp at hx
  | cons u' d _ ih =>
    intro ys h x hx
    unfold RnS at h
    obtain ⟨y, zs, rfl, h1, h2⟩ := h
    rcases List.mem_cons.1 hx with rfl | hx
    · exact h1.nv
    · exact ih zs h2 x hx
  | _ => trivial
/-- Blocks of what is done: behind the function's own three, and neither row that grows. -/
def Nest (A : Nat) (w : World) (p q : Value) (k : Nat) : Prop := A + 3 ≤ k ∧ k < w.heap.size ∧ p.ownBlock ≠ some k ∧ q.ownBlock ≠ some k
/-- What expression's loop keeps: W at the call, A the first of its blocks, ss the sequences that are done, d the one that is read. -/
structure EIn (W : World) (A : Nat) (ss : List Ss) (d : Ss) (wr : World) (p q : Value) (xs ys : List (Array Value)) : Prop where
  a : At wr A (nodeC 0 noF false nilS) 112
  b : At wr (A + 1) (nodeC 3 noF false p) 112
  c : At wr (A + 2) (nodeC 2 noF false q) 112
  below : Below A W wr
  size : A + 3 ≤ wr.heap.size
  r1 : wr.ownsRow 0 112 259 p xs.length (flat xs)
  r2 : wr.ownsRow 0 112 259 q ys.length (flat ys)
  o1 : ∀ g, p.ownBlock = some g → A + 3 ≤ g ∧ g < wr.heap.size
  o2 : ∀ g, q.ownBlock = some g → A + 3 ≤ g ∧ g < wr.heap.size
  ne : ∀ g, p.ownBlock = some g → q.ownBlock ≠ some g
  n1 : RnL (Nest A wr p q) wr ss xs
  n2 : RnS (Nest A wr p q) wr d ys
theorem nest_same {A : Nat} {w w' : World} {p q : Value} (h : ∀ k, k < w.heap.size → w'.heap[k]? = w.heap[k]?) (hs : w.heap.size ≤ w'.heap.size) : Same (Nest A w p q) w w' ∧ ∀ k, Nest A w p q k → Nest A w' p q k :=
  ⟨fun k hk => h k hk.2.1, fun _ hk => ⟨hk.1, Nat.lt_of_lt_of_le hk.2.1 hs, hk.2.2⟩⟩
theorem one_row {w : World} {e size n : Nat} {v : Value} {xs : List Value} (h : w.ownsRow 0 e size v n xs) : v.oneCell' = true := by
  rcases h.2 with ⟨rfl, _⟩ | ⟨g, cap, cur, rfl, _⟩ <;> rfl
section
variable {W : World} {A : Nat} {ss : List Ss} {d : Ss} {wr w2 : World} {p q : Value} {xs ys : List (Array Value)}
/-- All old blocks stay. -/
theorem EIn.keep (h : EIn W A ss d wr p q xs ys) (hb : Below wr.heap.size wr w2) : EIn W A ss d w2 p q xs ys := by
  have hn := nest_same (A := A) (p := p) (q := q) hb.block hb.size
  exact ⟨h.a.below hb, h.b.below hb, h.c.below hb, h.below.trans (hb.mono (by have := h.size; omega)), Nat.le_trans h.size hb.size,
    owns_same h.r1 (S := fun k => k < wr.heap.size) (fun g hg => (h.o1 g hg).2) (fun k hk => hb.block k hk), owns_same h.r2 (S := fun k => k < wr.heap.size) (fun g hg => (h.o2 g hg).2) (fun k hk => hb.block k hk),
    fun g hg => ⟨(h.o1 g hg).1, Nat.lt_of_lt_of_le (h.o1 g hg).2 hb.size⟩, fun g hg => ⟨(h.o2 g hg).1, Nat.lt_of_lt_of_le (h.o2 g hg).2 hb.size⟩, h.ne, RnL.same hn.1 hn.2 ss xs h.n1, RnS.same hn.1 hn.2 d ys h.n2⟩
theorem EIn.drewN (h : EIn W A ss d wr p q xs ys) (n : Nat) : EIn W A ss d (wr.drewN n) p q xs ys := h.keep ⟨rfl, rfl, rfl, Nat.le_refl _, fun _ _ => rfl⟩
theorem EIn.drew (h : EIn W A ss d wr p q xs ys) : EIn W A ss d wr.drew p q xs ys := h.keep ⟨rfl, rfl, rfl, Nat.le_refl _, fun _ _ => rfl⟩
/-- A store of a whole node into the block of a variable that is none of these. -/
theorem EIn.rowNew (h : EIn W A ss d wr p q xs ys) (B : Nat) (y : Array Value) (hB : wr.heap.size ≤ B) : EIn W A ss d (wr.setRow B y) p q xs ys :=
  h.keep ⟨rfl, rfl, rfl, by rw [size_setRow]; exact Nat.le_refl _, fun k hk => setRow_other wr B k y (by omega)⟩
/-- The sequence that is read grows. -/
theorem EIn.put {u : U} {x : Array Value} {wm w3 w4 : World} {q' : Value} {S : Nat → Prop} (h : EIn W A ss d wr p q xs ys) (hx : RnU S wr u x)
    (hS : ∀ k, S k → Nest A wr p q k) (hb : Below wr.heap.size wr wm)
    (hown : w3.ownsRow 0 112 259 q' (ys.length + 1) (flat ys ++ x.toList)) (hgrow : wm.grownBy w3 q.ownBlock) (hwh : q'.ownBlock = q.ownBlock ∨ ∃ g, q'.ownBlock = some g ∧ wm.heap.size ≤ g ∧ g < w3.heap.size)
    (hw4 : w4 = w3.setCell ⟨A + 2, 258, none⟩ q') : EIn W A ss (cat d (.cons u .nil)) w4 p q' xs (ys ++ [x]) := by
  have hm := h.keep hb
  have hq : ∀ k, q.ownBlock = some k → A + 3 ≤ k := fun k hk => (h.o2 k hk).1
  have hsz3 : wm.heap.size ≤ w3.heap.size := hgrow.size
  have hsz4 : w3.heap.size = w4.heap.size := by rw [hw4]; simp
  have hold : ∀ k, k < wm.heap.size → q.ownBlock ≠ some k → k ≠ A + 2 → w4.heap[k]? = wm.heap[k]? := fun k hk hne hk2 => by
    rw [hw4, Below.heap_setCell w3 ⟨A + 2, 258, none⟩ q' k hk2]
    exact hgrow.block k hk (fun e => hne e.symm)
  have hq1 : q'.oneCell' = true := one_row hown
  have hnest : ∀ k, Nest A wm p q k → Nest A w4 p q' k := fun k hk => ⟨hk.1, by have := hk.2.1; omega, hk.2.2.1, fun e => by
    rcases hwh with h1 | ⟨g, h1, h2, h3⟩
    · rw [h1] at e; exact hk.2.2.2 e
    · rw [h1] at e
      injection e with e
      have := hk.2.1
      omega⟩
  have hsame : Same (Nest A wm p q) wm w4 := fun k hk => hold k hk.2.1 hk.2.2.2 (by have := hk.1; omega)
  have hwr := nest_same (A := A) (p := p) (q := q) hb.block hb.size
  refine ⟨?_, ?_, ?_, ?_, by have := hm.size; omega, ?_, ?_, ?_, ?_, ?_, RnL.same hsame hnest ss xs hm.n1, ?_⟩
  · exact ⟨by rw [hold A (by have := hm.size; omega) (fun e => by have := hq _ e; omega) (by omega)]; exact hm.a.out⟩
  · exact ⟨by rw [hold (A + 1) (by have := hm.size; omega) (fun e => by have := hq _ e; omega) (by omega)]; exact hm.b.out⟩
  · rw [hw4, ← nodeC_setArgs 2 noF false q q']
    exact At.set ⟨by rw [hgrow.block (A + 2) (by have := hm.size; omega) (fun e => by have := hq _ e.symm; omega)]; exact hm.c.out⟩ 258 q'
  · rw [hw4]
    refine Below.setCell ?_ (by show A ≤ A + 2; omega) _
    exact (hm.below).grown hgrow (by have := hm.size; omega) (fun k hk => by have := hq k hk; omega)
  · refine owns_same hm.r1 (S := fun k => p.ownBlock = some k) (fun g hg => hg) (fun k hk => hold k (hm.o1 k hk).2 (fun e => hm.ne k hk e) (by have := (hm.o1 k hk).1; omega))
  · have h4 : w4.ownsRow 0 112 259 q' (ys.length + 1) (flat ys ++ x.toList) := by
      refine owns_same hown (S := fun k => q'.ownBlock = some k) (fun g hg => hg) (fun k hk => ?_)
      rw [hw4, Below.heap_setCell w3 ⟨A + 2, 258, none⟩ q' k (by
        show k ≠ A + 2
        rcases hwh with h1 | ⟨g, h1, h2, h3⟩
        · rw [h1] at hk; have := hq k hk; omega
        · rw [h1] at hk
          injection hk with hk
          have := hm.size; omega)]
    rw [flat_snoc, List.length_append]
    exact h4
  · exact fun g hg => ⟨(hm.o1 g hg).1, by have := (hm.o1 g hg).2; omega⟩
  · intro g hg
    rcases hwh with h1 | ⟨g', h1, h2, h3⟩
    · rw [h1] at hg
      exact ⟨hq g hg, by have := (hm.o2 g hg).2; omega⟩
    · rw [h1] at hg
      injection hg with hg
      have := hm.size
      exact ⟨by omega, by omega⟩
  · intro g hg e
    rcases hwh with h1 | ⟨g', h1, h2, h3⟩
    · rw [h1] at e; exact hm.ne g hg e
    · rw [h1] at e
      injection e with e
      have := (hm.o1 g hg).2
      omega
  · refine RnS.snoc ?_ d ys (RnS.same hsame hnest d ys hm.n2)
    exact RnU.same (fun k hk => hsame k hk) (fun k hk => hnest k hk) u x (RnU.same (fun k hk => hwr.1 k (hS k hk)) (fun k hk => hwr.2 k (hS k hk)) u x hx)
/-- The sequence that was read joins those that are done. -/
theorem EIn.push {wm w3 w4 : World} {p' : Value} (h : EIn W A ss d wr p q xs ys) (hb : Below wr.heap.size wr wm)
    (hown : w3.ownsRow 0 112 259 p' (xs.length + 1) (flat xs ++ (nodeC 2 noF false q).toList)) (hgrow : wm.grownBy w3 p.ownBlock) (hwh : p'.ownBlock = p.ownBlock ∨ ∃ g, p'.ownBlock = some g ∧ wm.heap.size ≤ g ∧ g < w3.heap.size)
    (hw4 : w4 = w3.setCell ⟨A + 1, 258, none⟩ p') : EIn W A (ss ++ [d]) .nil (w4.setRow (A + 2) (nodeC 2 noF false nilS)) p' nilS (xs ++ [nodeC 2 noF false q]) [] := by
  have hm := h.keep hb
  have hp : ∀ k, p.ownBlock = some k → A + 3 ≤ k := fun k hk => (h.o1 k hk).1
  have hsz3 : wm.heap.size ≤ w3.heap.size := hgrow.size
  have hsz4 : w3.heap.size = w4.heap.size := by rw [hw4]; simp
  have hszr : (w4.setRow (A + 2) (nodeC 2 noF false nilS)).heap.size = w4.heap.size := size_setRow _ _ _
  have hold : ∀ k, k < wm.heap.size → p.ownBlock ≠ some k → k ≠ A + 1 → k ≠ A + 2 → (w4.setRow (A + 2) (nodeC 2 noF false nilS)).heap[k]? = wm.heap[k]? := fun k hk hne hk2 hk3 => by
    rw [setRow_other w4 _ _ _ hk3, hw4, Below.heap_setCell w3 ⟨A + 1, 258, none⟩ p' k hk2]
    exact hgrow.block k hk (fun e => hne e.symm)
  have hq2 : ∀ g, q.ownBlock = some g → Nest A (w4.setRow (A + 2) (nodeC 2 noF false nilS)) p' nilS g := fun g hg => by
    have h1 := hm.o2 g hg
    refine ⟨h1.1, by omega, fun e => ?_, fun e => by cases e⟩
    rcases hwh with h2 | ⟨g', h2, h3, h4⟩
    · rw [h2] at e; exact hm.ne g e hg
    · rw [h2] at e
      injection e with e
      omega
  have hnest : ∀ k, Nest A wm p q k → Nest A (w4.setRow (A + 2) (nodeC 2 noF false nilS)) p' nilS k := fun k hk => ⟨hk.1, by have := hk.2.1; omega, fun e => by
    rcases hwh with h1 | ⟨g, h1, h2, h3⟩
    · rw [h1] at e; exact hk.2.2.1 e
    · rw [h1] at e
      injection e with e
      have := hk.2.1
      omega, fun e => by cases e⟩
  have hsame : Same (Nest A wm p q) wm (w4.setRow (A + 2) (nodeC 2 noF false nilS)) := fun k hk => hold k hk.2.1 hk.2.2.1 (by have := hk.1; omega) (by have := hk.1; omega)
  have hrow : RRow (Nest A (w4.setRow (A + 2) (nodeC 2 noF false nilS)) p' nilS) (w4.setRow (A + 2) (nodeC 2 noF false nilS)) q ys := by
    refine ⟨owns_same hm.r2 (S := fun k => q.ownBlock = some k) (fun g hg => hg) (fun k hk => hold k (hm.o2 k hk).2 (fun e => hm.ne k e hk) (by have := (hm.o2 k hk).1; omega) (by have := (hm.o2 k hk).1; omega)), RnS.nv d ys h.n2, hq2⟩
  refine ⟨?_, ?_, ?_, ?_, by have := hm.size; omega, ?_, World.ownsRow_nil _ _ _ _, ?_, fun g hg => (by cases hg), fun g _ e => (by cases e), ?_, by unfold RnS; rfl⟩
  · exact ⟨by rw [hold A (by have := hm.size; omega) (fun e => by have := hp _ e; omega) (by omega) (by omega)]; exact hm.a.out⟩
  · refine At.rowOther ?_ (by omega)
    rw [hw4, ← nodeC_setArgs 3 noF false p p']
    exact At.set ⟨by rw [hgrow.block (A + 1) (by have := hm.size; omega) (fun e => by have := hp _ e.symm; omega)]; exact hm.b.out⟩ 258 p'
  · refine At.row (c := nodeC 2 noF false q) ?_
    rw [hw4]
    exact ⟨by rw [Below.heap_setCell w3 ⟨A + 1, 258, none⟩ p' (A + 2) (by show A + 2 ≠ A + 1; omega), hgrow.block (A + 2) (by have := hm.size; omega) (fun e => by have := hp _ e.symm; omega)]; exact hm.c.out⟩
  · have h1 : Below A W w4 := by
      rw [hw4]
      exact Below.setCell ((hm.below).grown hgrow (by have := hm.size; omega) (fun k hk => by have := hp k hk; omega)) (by show A ≤ A + 1; omega) _
    exact ⟨h1.os, h1.tape, h1.output, by rw [hszr]; exact h1.size, fun k hk => by rw [setRow_other w4 _ _ _ (by omega)]; exact h1.block k hk⟩
  · have h4 : (w4.setRow (A + 2) (nodeC 2 noF false nilS)).ownsRow 0 112 259 p' (xs.length + 1) (flat xs ++ (nodeC 2 noF false q).toList) := by
      refine owns_same hown (S := fun k => p'.ownBlock = some k) (fun g hg => hg) (fun k hk => ?_)
      have hk3 : A + 3 ≤ k := by
        rcases hwh with h1 | ⟨g, h1, h2, h3⟩
        · rw [h1] at hk; exact hp k hk
        · rw [h1] at hk
          injection hk with hk
          have := hm.size; omega
      rw [setRow_other w4 _ _ _ (by omega), hw4, Below.heap_setCell w3 ⟨A + 1, 258, none⟩ p' k (by show k ≠ A + 1; omega)]
    rw [flat_snoc, List.length_append]
    exact h4
  · intro g hg
    rcases hwh with h1 | ⟨g', h1, h2, h3⟩
    · rw [h1] at hg
      exact ⟨hp g hg, by have := (hm.o1 g hg).2; omega⟩
    · rw [h1] at hg
      injection hg with hg
      have := hm.size
      exact ⟨by omega, by omega⟩
  · exact RnL.snoc hrow (RnS.same hsame hnest d ys hm.n2) ss xs (RnL.same hsame hnest ss xs hm.n1)
end
/-! ### What is left to read -/
def altRest (m : Nat) (ss : List Ss) (d : Ss) : List UInt8 → Option (As × List UInt8)
  | 124 :: r => (alts m r).map fun y => (ahd ss (.more d y.1), y.2)
  | r => some (ahd ss (.one d), r)
def expRest (m1 m2 : Nat) (ss : List Ss) (d : Ss) (l : List UInt8) : Option (As × List UInt8) := (seqs m1 l).bind fun x => altRest m2 ss (cat d x.1) x.2
theorem cat_nil_l (s : Ss) : cat .nil s = s := rfl
theorem altRest_map (m : Nat) (ss : List Ss) (s : Ss) (r : List UInt8) : altRest m ss s r = (altRest m [] s r).map fun y => (ahd ss y.1, y.2) := by
  unfold altRest
  split
  · rw [Option.map_map]; rfl
  · rfl
theorem alts_rest (m : Nat) (l : List UInt8) : alts (m + 1) l = expRest m m [] .nil l := by
  rw [alts]
  unfold expRest
  congr 1
  funext x
  obtain ⟨s, r⟩ := x
  show _ = altRest m [] s r
  by_cases h : ∃ r', r = 124 :: r'
  · obtain ⟨r', rfl⟩ := h
    rfl
  · unfold altRest
    rcases r with _ | ⟨c, r⟩
    · rfl
    · have hc : c ≠ 124 := fun e => h ⟨r, by rw [e]⟩
      simp only [ahd]
      split
      · rename_i e1; injection e1 with e1 _; exact absurd e1 hc
      · split
        · rename_i e1; injection e1 with e1 _; exact absurd e1 hc
        · rfl
theorem exp_bar (m1 k : Nat) (ss : List Ss) (d : Ss) (r : List UInt8) : expRest (m1 + 1) (k + 1) ss d (124 :: r) = expRest k k (ss ++ [d]) .nil r := by
  have h1 : seqs (m1 + 1) (124 :: r) = some (.nil, 124 :: r) := by simp [seqs]
  unfold expRest
  rw [h1]
  simp only [Option.bind_some, cat_nil]
  show (alts (k + 1) r).map _ = _
  rw [alts_rest]
  unfold expRest
  rw [Option.map_bind]
  congr 1
  funext x
  obtain ⟨s, l⟩ := x
  show (altRest k [] (cat .nil s) l).map _ = altRest k (ss ++ [d]) (cat .nil s) l
  rw [altRest_map k (ss ++ [d])]
  congr 1
  funext y
  rw [ahd_snoc]
theorem exp_end (m1 m2 : Nat) (ss : List Ss) (d : Ss) (l : List UInt8) (h : l = [] ∨ ∃ r, l = 41 :: r) : expRest (m1 + 1) m2 ss d l = some (ahd ss (.one d), l) := by
  unfold expRest
  rcases h with rfl | ⟨r, rfl⟩
  · have h1 : seqs (m1 + 1) [] = some (.nil, []) := by simp [seqs]
    rw [h1]
    simp only [Option.bind_some, cat_nil]
    rfl
  · have h1 : seqs (m1 + 1) (41 :: r) = some (.nil, 41 :: r) := by simp [seqs]
    rw [h1]
    simp only [Option.bind_some, cat_nil]
    rfl
theorem exp_none (m1 m2 : Nat) (ss : List Ss) (d : Ss) (c : UInt8) (r : List UInt8) (h1 : c ≠ 124) (h2 : c ≠ 41) (h : atom m1 (c :: r) = none) : expRest (m1 + 1) m2 ss d (c :: r) = none := by
  unfold expRest
  rw [seqs]
  simp only
  rw [if_neg (by rintro (e | e); exact h1 e; exact h2 e), h]
  rfl
theorem exp_some (m1 m2 : Nat) (ss : List Ss) (d : Ss) (c : UInt8) (r r1 : List UInt8) (u : U) (h1 : c ≠ 124) (h2 : c ≠ 41) (h : atom m1 (c :: r) = some (u, r1)) : expRest (m1 + 1) m2 ss d (c :: r) = expRest m1 m2 ss (cat d (.cons (quant u r1).1 .nil)) (quant u r1).2 := by
  unfold expRest
  rw [seqs]
  simp only
  rw [if_neg (by rintro (e | e); exact h1 e; exact h2 e), h]
  simp only [Option.bind_some]
  rw [Option.bind_map]
  congr 1
  funext x
  simp only [Function.comp]
  rw [cat_snoc]
theorem exp_quant (m1 m2 : Nat) (ss : List Ss) (d : Ss) (c : UInt8) (r : List UInt8) (h : c = 42 ∨ c = 43 ∨ c = 63) : expRest (m1 + 2) m2 ss d (c :: r) = none := by
  have hc : c ≠ 124 ∧ c ≠ 41 := by rcases h with rfl | rfl | rfl <;> decide
  refine exp_none (m1 + 1) m2 ss d c r hc.1 hc.2 ?_
  rcases h with rfl | rfl | rfl <;> rfl
end Go.Proofs.YthckgmbadmilfaaGreat
