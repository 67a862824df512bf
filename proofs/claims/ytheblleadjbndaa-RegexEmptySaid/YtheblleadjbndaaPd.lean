/- How a tree lies in memory. -/
import Derived.Test.YtheblleadjbndaaPc
namespace Go.Proofs.Ytheblleadjbndaa
open Go.RowKit Rx

def ptr (b : Nat) : Value := .pointer (some ⟨b, 0, none⟩)
/-- The blocks of S are the same in both worlds. -/
def Same (S : Nat → Prop) (W W' : World) : Prop := ∀ k, S k → W'.heap[k]? = W.heap[k]?
/-- The blocks that came. -/
def Fresh (W W' : World) (k : Nat) : Prop := W.heap.size ≤ k ∧ k < W'.heap.size
/-- A slice of trees. -/
def Parts (S : Nat → Prop) (W : World) (sv : Value) (xs : List Value) : Prop := W.ownsRow 0 37 1 sv xs.length xs ∧ ∀ g, sv.ownBlock = some g → S g
/-- A node with parts. -/
def Node (S : Nat → Prop) (W : World) (kind : Int) (v : Value) (P : List Value → Prop) : Prop := ∃ b sv xs, S b ∧ v = ptr b ∧ At W b (nd kind false 0 (.pointer none) sv) 54 ∧ Parts S W sv xs ∧ P xs
mutual
def IsU (S : Nat → Prop) (W : World) : U → Value → Prop
  | .byte c, v => ∃ b, S b ∧ v = ptr b ∧ At W b (nd 0 true c.toNat (.pointer none) (.slice none 0 0)) 54
  | .cls f, v => ∃ b k, S b ∧ S k ∧ v = ptr b ∧ At W b (nd 0 false 0 (ptr k) (.slice none 0 0)) 54 ∧ At W k (btab f 256) 102
  | .grp a, v => IsA S W a v
  | .star u, v => Node S W 3 v fun xs => ∃ x, xs = [x] ∧ IsU S W u x
  | .plus u, v => Node S W 4 v fun xs => ∃ x, xs = [x] ∧ IsU S W u x
  | .opt u, v => Node S W 5 v fun xs => ∃ x, xs = [x] ∧ IsU S W u x
def IsA (S : Nat → Prop) (W : World) : As → Value → Prop
  | .one s, v => Node S W 1 v fun xs => IsSl S W s xs
  | .more s a, v => Node S W 2 v fun xs => ∃ x ys, xs = x :: ys ∧ (Node S W 1 x fun zs => IsSl S W s zs) ∧ IsAl S W a ys
def IsAl (S : Nat → Prop) (W : World) : As → List Value → Prop
  | .one s, xs => ∃ x, xs = [x] ∧ Node S W 1 x fun zs => IsSl S W s zs
  | .more s a, xs => ∃ x ys, xs = x :: ys ∧ (Node S W 1 x fun zs => IsSl S W s zs) ∧ IsAl S W a ys
def IsSl (S : Nat → Prop) (W : World) : Ss → List Value → Prop
  | .nil, xs => xs = []
  | .cons u s, xs => ∃ x ys, xs = x :: ys ∧ IsU S W u x ∧ IsSl S W s ys
end

theorem At.same {S : Nat → Prop} {W W' : World} {b : Nat} {c : Array Value} {t : TypeId} (h : At W b c t) (hs : Same S W W') (hi : S b) : At W' b c t := ⟨by rw [hs b hi]; exact h.out⟩
theorem owns_same {S : Nat → Prop} {W W' : World} {e size n : Nat} {v : Value} {xs : List Value} (h : W.ownsRow 0 e size v n xs) (hc : ∀ g, v.ownBlock = some g → S g) (hs : Same S W W') : W'.ownsRow 0 e size v n xs := by
  obtain ⟨h1, h2 | ⟨g, cap, cur, h3, h4, h5, h6⟩⟩ := h
  · exact ⟨h1, .inl h2⟩
  · refine ⟨h1, .inr ⟨g, cap, cur, h3, h4, ?_, h6⟩⟩
    rw [hs g (hc g (by rw [h3]; rfl))]; exact h5
theorem Parts.same {S S' : Nat → Prop} {W W' : World} {sv : Value} {xs : List Value} (h : Parts S W sv xs) (hs : Same S W W') (hc : ∀ k, S k → S' k) : Parts S' W' sv xs :=
  ⟨owns_same h.1 h.2 hs, fun g hg => hc g (h.2 g hg)⟩
theorem Node.same {S S' : Nat → Prop} {W W' : World} {kind : Int} {v : Value} {P Q : List Value → Prop} (h : Node S W kind v P) (hs : Same S W W') (hc : ∀ k, S k → S' k) (hp : ∀ xs, P xs → Q xs) : Node S' W' kind v Q := by
  obtain ⟨b, sv, xs, h1, h2, h3, h4, h5⟩ := h
  exact ⟨b, sv, xs, hc b h1, h2, h3.same hs h1, h4.same hs hc, hp xs h5⟩
mutual
theorem IsU.same {S S' : Nat → Prop} {W W' : World} (hs : Same S W W') (hc : ∀ k, S k → S' k) : ∀ (u : U) (v : Value), IsU S W u v → IsU S' W' u v
  | .byte c, v, h => by
    unfold IsU at h ⊢
    obtain ⟨b, h1, h2, h3⟩ := h
    exact ⟨b, hc b h1, h2, h3.same hs h1⟩
  | .cls f, v, h => by
    unfold IsU at h ⊢
    obtain ⟨b, k, h1, h2, h3, h4, h5⟩ := h
    exact ⟨b, k, hc b h1, hc k h2, h3, h4.same hs h1, h5.same hs h2⟩
  | .grp a, v, h => by
    unfold IsU at h ⊢
    exact IsA.same hs hc a v h
  | .star u, v, h => by
    unfold IsU at h ⊢
    exact h.same hs hc fun xs ⟨x, e, hx⟩ => ⟨x, e, IsU.same hs hc u x hx⟩
  | .plus u, v, h => by
    unfold IsU at h ⊢
    exact h.same hs hc fun xs ⟨x, e, hx⟩ => ⟨x, e, IsU.same hs hc u x hx⟩
  | .opt u, v, h => by
    unfold IsU at h ⊢
    exact h.same hs hc fun xs ⟨x, e, hx⟩ => ⟨x, e, IsU.same hs hc u x hx⟩
theorem IsA.same {S S' : Nat → Prop} {W W' : World} (hs : Same S W W') (hc : ∀ k, S k → S' k) : ∀ (a : As) (v : Value), IsA S W a v → IsA S' W' a v
  | .one s, v, h => by
    unfold IsA at h ⊢
    exact h.same hs hc fun xs hx => IsSl.same hs hc s xs hx
  | .more s a, v, h => by
    unfold IsA at h ⊢
    exact h.same hs hc fun xs ⟨x, ys, e, h1, h2⟩ => ⟨x, ys, e, h1.same hs hc fun zs hz => IsSl.same hs hc s zs hz, IsAl.same hs hc a ys h2⟩
theorem IsAl.same {S S' : Nat → Prop} {W W' : World} (hs : Same S W W') (hc : ∀ k, S k → S' k) : ∀ (a : As) (xs : List Value), IsAl S W a xs → IsAl S' W' a xs
  | .one s, xs, h => by
    unfold IsAl at h ⊢
    obtain ⟨x, e, h1⟩ := h
    exact ⟨x, e, h1.same hs hc fun zs hz => IsSl.same hs hc s zs hz⟩
  | .more s a, xs, h => by
    unfold IsAl at h ⊢
    obtain ⟨x, ys, e, h1, h2⟩ := h
    exact ⟨x, ys, e, h1.same hs hc fun zs hz => IsSl.same hs hc s zs hz, IsAl.same hs hc a ys h2⟩
theorem IsSl.same {S S' : Nat → Prop} {W W' : World} (hs : Same S W W') (hc : ∀ k, S k → S' k) : ∀ (s : Ss) (xs : List Value), IsSl S W s xs → IsSl S' W' s xs
  | .nil, xs, h => by
    unfold IsSl at h ⊢
    exact h
  | .cons u s, xs, h => by
    unfold IsSl at h ⊢
    obtain ⟨x, ys, e, h1, h2⟩ := h
    exact ⟨x, ys, e, IsU.same hs hc u x h1, IsSl.same hs hc s ys h2⟩
end
theorem Same.keep {p : Nat} {S : Nat → Prop} {W W' : World} (h : Keep p W W') (hp : ∀ k, S k → k < W.heap.size ∧ k ≠ p) : Same S W W' := fun k h1 => h.block k (hp k h1).1 (hp k h1).2
theorem Same.below {S : Nat → Prop} {W W' : World} (h : Below W.heap.size W W') (hp : ∀ k, S k → k < W.heap.size) : Same S W W' := fun k h1 => h.block k (hp k h1)
theorem Same.refl (S : Nat → Prop) (W : World) : Same S W W := fun _ _ => rfl
/-- Trees that came in one call are kept in the next one. -/
theorem Fresh.keep {p : Nat} {W W1 W2 : World} (h : Keep p W1 W2) (hp : p < W.heap.size) : Same (Fresh W W1) W1 W2 ∧ ∀ k, Fresh W W1 k → Fresh W W2 k :=
  ⟨Same.keep h fun k ⟨h1, h2⟩ => ⟨h2, by omega⟩, fun k ⟨h1, h2⟩ => ⟨h1, Nat.lt_of_lt_of_le h2 h.size⟩⟩
end Go.Proofs.Ytheblleadjbndaa
