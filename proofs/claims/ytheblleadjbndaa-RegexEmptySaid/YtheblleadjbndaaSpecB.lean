/- How much a reader of regular expressions takes: plain Lean. -/
import Derived.Test.YtheblleadjbndaaSpec
namespace Go.Proofs.Ytheblleadjbndaa
namespace Rx
theorem item_short {l r : List UInt8} {a : UInt8} (h : item l = some (a, r)) : r.length < l.length := by
  rcases l with _ | ⟨c, l⟩
  · cases h
  · simp only [item] at h
    split at h
    · cases h
    · split at h
      · rcases l with _ | ⟨d, l⟩
        · cases h
        · simp only [Option.map_eq_some_iff, Prod.mk.injEq] at h
          obtain ⟨b, _, _, rfl⟩ := h
          simp; omega
      · simp only [Option.some.injEq, Prod.mk.injEq] at h
        obtain ⟨_, rfl⟩ := h
        simp
theorem last_short {a b : UInt8} {r r' : List UInt8} (h : last a r = some (b, r')) : r'.length ≤ r.length := by
  unfold last at h
  split at h
  · rw [Option.bind_eq_some_iff] at h
    obtain ⟨⟨x, t⟩, h1, h2⟩ := h
    simp only at h2
    split at h2
    · cases h2
    · injection h2 with h2
      injection h2 with _ h2
      subst h2
      have := item_short h1
      simp at this
      omega
  · injection h with h
    injection h with _ h
    subst h
    exact Nat.le_refl _
theorem items_short (n : Nat) : ∀ (g f : UInt8 → Bool) (l r : List UInt8), items n g l = some (f, r) → r.length < l.length := by
  induction n with
  | zero => intro g f l r h; cases h
  | succ n ih =>
    intro g f l r h
    rw [items, Option.bind_eq_some_iff] at h
    obtain ⟨⟨a, r1⟩, h1, h⟩ := h
    simp only at h
    rw [Option.bind_eq_some_iff] at h
    obtain ⟨⟨b, r2⟩, h2, h⟩ := h
    have e1 := item_short h1
    have e2 := last_short h2
    simp only at h
    split at h
    · injection h with h
      injection h with _ h
      subst h
      simp only [List.length_cons] at e2
      omega
    · have := ih _ _ _ _ h
      omega
theorem bracket_short {l r : List UInt8} {u : U} (h : bracket l = some (u, r)) : r.length < l.length := by
  unfold bracket at h
  split at h
  · rw [Option.map_eq_some_iff] at h
    obtain ⟨⟨g, t⟩, h1, h2⟩ := h
    injection h2 with _ h2
    subst h2
    have := items_short _ _ _ _ _ h1
    simp; omega
  · rw [Option.map_eq_some_iff] at h
    obtain ⟨⟨g, t⟩, h1, h2⟩ := h
    injection h2 with _ h2
    subst h2
    exact items_short _ _ _ _ _ h1
theorem quant_short (u : U) (l : List UInt8) : (quant u l).2.length ≤ l.length := by
  unfold quant
  split <;> simp
theorem short (n : Nat) : (∀ (l r : List UInt8) (a : As), alts n l = some (a, r) → r.length ≤ l.length) ∧ (∀ (l r : List UInt8) (s : Ss), seqs n l = some (s, r) → r.length ≤ l.length) ∧ (∀ (l r : List UInt8) (u : U), atom n l = some (u, r) → r.length < l.length) := by
  induction n with
  | zero => exact ⟨fun _ _ _ h => by simp [alts] at h, fun _ _ _ h => by simp [seqs] at h, fun _ _ _ h => by simp [atom] at h⟩
  | succ n ih =>
    obtain ⟨iA, iS, iU⟩ := ih
    refine ⟨?_, ?_, ?_⟩
    · intro l r a h
      rw [alts, Option.bind_eq_some_iff] at h
      obtain ⟨⟨s, r1⟩, h1, h⟩ := h
      have e1 := iS _ _ _ h1
      simp only at h
      split at h
      · rw [Option.map_eq_some_iff] at h
        obtain ⟨⟨a2, r2⟩, h2, h3⟩ := h
        injection h3 with _ h3
        subst h3
        have e2 := iA _ _ _ h2
        simp only [List.length_cons] at e1 e2 ⊢
        omega
      · injection h with h
        injection h with _ h
        subst h
        exact e1
    · intro l r s h
      rcases l with _ | ⟨c, t⟩
      · simp only [seqs] at h
        injection h with h
        injection h with _ h
        subst h
        exact Nat.le_refl _
      · simp only [seqs] at h
        split at h
        · injection h with h
          injection h with _ h
          subst h
          exact Nat.le_refl _
        · rw [Option.bind_eq_some_iff] at h
          obtain ⟨⟨u, r1⟩, h1, h⟩ := h
          rw [Option.map_eq_some_iff] at h
          obtain ⟨⟨a2, r2⟩, h2, h3⟩ := h
          injection h3 with _ h3
          subst h3
          have e1 := iU _ _ _ h1
          have e2 := iS _ _ _ h2
          have e3 := quant_short u r1
          simp only at e2 e3 ⊢
          omega
    · intro l r u h
      rcases l with _ | ⟨c, t⟩
      · simp [atom] at h
      · simp only [atom] at h
        split at h
        · rw [Option.bind_eq_some_iff] at h
          obtain ⟨⟨a, r1⟩, h1, h⟩ := h
          have e1 := iA _ _ _ h1
          simp only at h
          split at h
          · injection h with h
            injection h with _ h
            subst h
            simp only [List.length_cons] at e1 ⊢
            omega
          · cases h
        · split at h
          · have := bracket_short h
            simp; omega
          · split at h
            · injection h with h
              injection h with _ h
              subst h
              simp
            · split at h
              · split at h
                · cases h
                · rw [Option.map_eq_some_iff] at h
                  obtain ⟨_, _, h3⟩ := h
                  injection h3 with _ h3
                  subst h3
                  simp; omega
              · split at h
                · cases h
                · injection h with h
                  injection h with _ h
                  subst h
                  simp

/-- Factors behind factors. -/
def cat : Ss → Ss → Ss
  | .nil, s => s
  | .cons u d, s => .cons u (cat d s)
theorem cat_snoc (d : Ss) (u : U) (s : Ss) : cat (cat d (.cons u .nil)) s = cat d (.cons u s) := by
  induction d using Ss.rec (motive_1 := fun _ => True) (motive_3 := fun _ => True) with
  | nil => rfl
  | cons u' d _ ih => simp only [cat, ih]
  | _ => trivial
theorem cat_nil (d : Ss) : cat d .nil = d := by
  induction d using Ss.rec (motive_1 := fun _ => True) (motive_3 := fun _ => True) with
  | nil => rfl
  | cons u' d _ ih => simp only [cat, ih]
  | _ => trivial
/-- Sequences ahead of alternatives. -/
def ahd : List Ss → As → As
  | [], a => a
  | s :: l, a => .more s (ahd l a)
theorem ahd_snoc (l : List Ss) (s : Ss) (a : As) : ahd (l ++ [s]) a = ahd l (.more s a) := by
  induction l with
  | nil => rfl
  | cons x l ih => simp only [List.cons_append, ahd, ih]
end Rx
end Go.Proofs.Ytheblleadjbndaa
