/- How expressions in brackets are read: plain Lean. -/
import Derived.Test.YtheblleadjbndaaSpecE
namespace Go.Proofs.Ytheblleadjbndaa
namespace Rx
theorem items_mono (n : Nat) : ∀ (m : Nat) (g : UInt8 → Bool) (l : List UInt8) (x : (UInt8 → Bool) × List UInt8), n ≤ m → items n g l = some x → items m g l = some x := by
  induction n with
  | zero => intro m g l x _ h; simp [items] at h
  | succ n ih =>
    intro m g l x hm h
    obtain ⟨m, rfl⟩ : ∃ k, m = k + 1 := ⟨m - 1, by omega⟩
    rw [items, Option.bind_eq_some_iff] at h
    obtain ⟨⟨a, r⟩, h1, h⟩ := h
    simp only at h
    rw [Option.bind_eq_some_iff] at h
    obtain ⟨⟨b, r'⟩, h2, h⟩ := h
    rw [items, h1, Option.bind_some]
    simp only
    rw [h2, Option.bind_some]
    simp only at h ⊢
    split at h
    · exact h
    · rename_i hne
      exact ih m _ _ _ (by omega) h
theorem item_app {l r t : List UInt8} {a : UInt8} (h : item l = some (a, r)) : item (l ++ t) = some (a, r ++ t) := by
  rcases l with _ | ⟨c, l⟩
  · cases h
  · simp only [item] at h
    simp only [List.cons_append, item]
    split at h
    · cases h
    · rename_i h93
      rw [if_neg h93]
      split at h
      · rename_i h92
        rw [if_pos h92]
        rcases l with _ | ⟨d, l⟩
        · cases h
        · simp only [Option.map_eq_some_iff, Prod.mk.injEq] at h
          obtain ⟨b, h1, rfl, rfl⟩ := h
          simp [h1]
      · rename_i h92
        rw [if_neg h92]
        simp only [Option.some.injEq, Prod.mk.injEq] at h
        obtain ⟨rfl, rfl⟩ := h
        rfl
theorem items_dash (n : Nat) (g : UInt8 → Bool) : items n g [45] = none := by
  rcases n with _ | n
  · rfl
  · rcases n with _ | n
    · rfl
    · rfl
theorem last_app {r r' t : List UInt8} {a b : UInt8} (hr : r ≠ [45]) (h : last a r = some (b, r')) : last a (r ++ 41 :: t) = some (b, r' ++ 41 :: t) := by
  unfold last at h ⊢
  rcases r with _ | ⟨x, _ | ⟨y, r⟩⟩
  · simp only [isRange] at h
    have : isRange ([] ++ 41 :: t) = false := by rcases t with _ | ⟨u, t⟩ <;> rfl
    rw [this]
    simp only [Bool.false_eq_true, if_false] at h ⊢
    injection h with h
    injection h with h1 h2
    subst h1 h2
    rfl
  · simp only [isRange] at h
    have hx : x ≠ 45 := fun e => hr (by rw [e])
    have : isRange ([x] ++ 41 :: t) = false := by simp [isRange, hx]
    rw [this]
    simp only [Bool.false_eq_true, if_false] at h ⊢
    injection h with h
    injection h with h1 h2
    subst h1 h2
    rfl
  · have : isRange (x :: y :: r ++ 41 :: t) = isRange (x :: y :: r) := rfl
    rw [this]
    split at h
    · rename_i hi
      rw [if_pos hi]
      rw [Option.bind_eq_some_iff] at h
      obtain ⟨⟨b1, r1⟩, h1, h2⟩ := h
      have h3 := item_app (t := 41 :: t) h1
      simp only [List.tail_cons, List.cons_append] at h3 ⊢
      rw [h3, Option.bind_some]
      simp only at h2 ⊢
      split at h2
      · cases h2
      · rename_i hlt
        rw [if_neg hlt]
        injection h2 with h2
        injection h2 with h4 h5
        subst h4 h5
        rfl
    · rename_i hi
      rw [if_neg hi]
      injection h with h
      injection h with h1 h2
      subst h1 h2
      rfl
theorem items_app (n : Nat) : ∀ (g f : UInt8 → Bool) (l r t : List UInt8), items n g l = some (f, r) → items n g (l ++ 41 :: t) = some (f, r ++ 41 :: t) := by
  induction n with
  | zero => intro g f l r t h; simp [items] at h
  | succ n ih =>
    intro g f l r t h
    rw [items, Option.bind_eq_some_iff] at h
    obtain ⟨⟨a, r1⟩, h1, h⟩ := h
    simp only at h
    rw [Option.bind_eq_some_iff] at h
    obtain ⟨⟨b, r2⟩, h2, h⟩ := h
    simp only at h
    have hr1 : r1 ≠ [45] := fun e => by
      subst e
      simp only [last, isRange, Bool.false_eq_true, if_false] at h2
      injection h2 with h2
      injection h2 with _ h3
      subst h3
      rw [items_dash] at h
      cases h
    rw [items, item_app (t := 41 :: t) h1, Option.bind_some]
    simp only
    rw [last_app (t := t) hr1 h2, Option.bind_some]
    simp only
    split at h
    · injection h with h
      injection h with h3 h4
      subst h3 h4
      rfl
    · rename_i hne
      have h5 := ih _ _ _ _ t h
      rcases r2 with _ | ⟨x, r2⟩
      · exact h5
      · have hx : x ≠ 93 := fun e => hne r2 (by rw [e])
        split
        · rename_i r'' he
          simp only [List.cons_append] at he
          injection he with he _
          exact absurd he hx
        · exact h5
theorem bracket_app {l r t : List UInt8} {u : U} (h : bracket l = some (u, r)) : bracket (l ++ 41 :: t) = some (u, r ++ 41 :: t) := by
  unfold bracket at h
  split at h
  · rename_i r0
    rw [Option.map_eq_some_iff] at h
    obtain ⟨⟨g, r1⟩, h1, h2⟩ := h
    injection h2 with h3 h4
    subst h3 h4
    have h5 := items_mono _ ((r0 ++ 41 :: t).length + 1) _ _ _ (by simp) (items_app _ _ _ _ _ t h1)
    simp only [List.cons_append, bracket]
    rw [h5]; rfl
  · rename_i hne
    rw [Option.map_eq_some_iff] at h
    obtain ⟨⟨g, r1⟩, h1, h2⟩ := h
    injection h2 with h3 h4
    subst h3 h4
    have h5 := items_mono _ ((l ++ 41 :: t).length + 1) _ _ _ (by simp) (items_app _ _ _ _ _ t h1)
    unfold bracket
    split
    · rename_i r0 he
      rcases l with _ | ⟨x, l⟩
      · simp [items, item] at h1
      · simp only [List.cons_append] at he
        injection he with he _
        exact absurd (by rw [he]) (hne l)
    · rw [h5]; rfl
theorem quant_app (u : U) (l t : List UInt8) : quant u (l ++ 41 :: t) = ((quant u l).1, (quant u l).2 ++ 41 :: t) := by
  rcases l with _ | ⟨c, l⟩
  · rfl
  · unfold quant
    simp only [List.cons_append]
    split
    · rename_i h; injection h with h1 h2; subst h1 h2; rfl
    · rename_i h; injection h with h1 h2; subst h1 h2; rfl
    · rename_i h; injection h with h1 h2; subst h1 h2; rfl
    · rename_i h1 h2 h3
      split
      · rename_i h; injection h with h4 h5; exact absurd (by rw [h4]) (h1 _)
      · rename_i h; injection h with h4 h5; exact absurd (by rw [h4]) (h2 _)
      · rename_i h; injection h with h4 h5; exact absurd (by rw [h4]) (h3 _)
      · rfl
/-- More steps do no harm. -/
theorem fuel_mono (n : Nat) : (∀ (m : Nat) (l : List UInt8) (x : As × List UInt8), n ≤ m → alts n l = some x → alts m l = some x) ∧ (∀ (m : Nat) (l : List UInt8) (x : Ss × List UInt8), n ≤ m → seqs n l = some x → seqs m l = some x) ∧ (∀ (m : Nat) (l : List UInt8) (x : U × List UInt8), n ≤ m → atom n l = some x → atom m l = some x) := by
  induction n with
  | zero => exact ⟨fun _ _ _ _ h => by simp [alts] at h, fun _ _ _ _ h => by simp [seqs] at h, fun _ _ _ _ h => by simp [atom] at h⟩
  | succ n ih =>
    obtain ⟨iA, iS, iU⟩ := ih
    refine ⟨?_, ?_, ?_⟩
    · intro m l x hm h
      obtain ⟨m, rfl⟩ : ∃ k, m = k + 1 := ⟨m - 1, by omega⟩
      rw [alts, Option.bind_eq_some_iff] at h
      obtain ⟨⟨s, r1⟩, h1, h⟩ := h
      rw [alts, iS m _ _ (by omega) h1, Option.bind_some]
      simp only at h ⊢
      split at h
      · rw [Option.map_eq_some_iff] at h
        obtain ⟨y, h2, h3⟩ := h
        rw [iA m _ _ (by omega) h2]
        exact congrArg some h3
      · rename_i hne
        exact h
    · intro m l x hm h
      obtain ⟨m, rfl⟩ : ∃ k, m = k + 1 := ⟨m - 1, by omega⟩
      rcases l with _ | ⟨c, t⟩
      · simpa only [seqs] using h
      · simp only [seqs] at h ⊢
        split at h
        · rename_i hc
          rw [if_pos hc]; exact h
        · rename_i hc
          rw [if_neg hc]
          rw [Option.bind_eq_some_iff] at h
          obtain ⟨⟨u, r1⟩, h1, h⟩ := h
          rw [Option.map_eq_some_iff] at h
          obtain ⟨y, h2, h3⟩ := h
          rw [iU m _ _ (by omega) h1, Option.bind_some]
          simp only at h2 h3 ⊢
          rw [iS m _ _ (by omega) h2]
          exact congrArg some h3
    · intro m l x hm h
      obtain ⟨m, rfl⟩ : ∃ k, m = k + 1 := ⟨m - 1, by omega⟩
      rcases l with _ | ⟨c, t⟩
      · simp [atom] at h
      · simp only [atom] at h ⊢
        split at h
        · rename_i hc
          rw [if_pos hc]
          rw [Option.bind_eq_some_iff] at h
          obtain ⟨⟨a, r1⟩, h1, h⟩ := h
          rw [iA m _ _ (by omega) h1, Option.bind_some]
          exact h
        · rename_i hc
          rw [if_neg hc]
          exact h
/-- What was read ahead of the end is read ahead of a closing bracket, too. -/
theorem suffix (t : List UInt8) (n : Nat) : (∀ (l r : List UInt8) (a : As), alts n l = some (a, r) → alts n (l ++ 41 :: t) = some (a, r ++ 41 :: t)) ∧ (∀ (l r : List UInt8) (s : Ss), seqs n l = some (s, r) → seqs n (l ++ 41 :: t) = some (s, r ++ 41 :: t)) ∧ (∀ (l r : List UInt8) (u : U), atom n l = some (u, r) → atom n (l ++ 41 :: t) = some (u, r ++ 41 :: t)) := by
  induction n with
  | zero => exact ⟨fun _ _ _ h => by simp [alts] at h, fun _ _ _ h => by simp [seqs] at h, fun _ _ _ h => by simp [atom] at h⟩
  | succ n ih =>
    obtain ⟨iA, iS, iU⟩ := ih
    refine ⟨?_, ?_, ?_⟩
    · intro l r a h
      rw [alts, Option.bind_eq_some_iff] at h
      obtain ⟨⟨s, r1⟩, h1, h⟩ := h
      rw [alts, iS _ _ _ h1, Option.bind_some]
      simp only at h ⊢
      split at h
      · rw [Option.map_eq_some_iff] at h
        obtain ⟨⟨a2, r2⟩, h2, h3⟩ := h
        injection h3 with h3 h4
        subst h3 h4
        simp only [List.cons_append]
        rw [iA _ _ _ h2]; rfl
      · rename_i hne
        injection h with h
        injection h with h3 h4
        subst h3 h4
        rcases r1 with _ | ⟨x, r1⟩
        · rfl
        · simp only [List.cons_append]
          split
          · rename_i he
            injection he with he1 he2
            exact absurd (by rw [he1]) (hne r1)
          · rfl
    · intro l r s h
      rcases l with _ | ⟨c, l⟩
      · simp only [seqs] at h
        injection h with h
        injection h with h3 h4
        subst h3 h4
        simp [seqs]
      · simp only [seqs] at h
        simp only [List.cons_append, seqs]
        split at h
        · rename_i hc
          rw [if_pos hc]
          injection h with h
          injection h with h3 h4
          subst h3 h4
          rfl
        · rename_i hc
          rw [if_neg hc]
          rw [Option.bind_eq_some_iff] at h
          obtain ⟨⟨u, r1⟩, h1, h⟩ := h
          rw [Option.map_eq_some_iff] at h
          obtain ⟨⟨s2, r2⟩, h2, h3⟩ := h
          injection h3 with h3 h4
          subst h3 h4
          have h5 := iU _ _ _ h1
          simp only [List.cons_append] at h5
          rw [h5, Option.bind_some]
          simp only at h2 ⊢
          rw [quant_app]
          simp only
          rw [iS _ _ _ h2]
          rfl
    · intro l r u h
      rcases l with _ | ⟨c, l⟩
      · simp [atom] at h
      · simp only [atom] at h
        simp only [List.cons_append, atom]
        split at h
        · rename_i hc
          rw [if_pos hc]
          rw [Option.bind_eq_some_iff] at h
          obtain ⟨⟨a, r1⟩, h1, h⟩ := h
          rw [iA _ _ _ h1, Option.bind_some]
          simp only at h ⊢
          split at h
          · injection h with h
            injection h with h3 h4
            subst h3 h4
            rfl
          · cases h
        · rename_i hc
          rw [if_neg hc]
          split at h
          · rename_i hc2
            rw [if_pos hc2]
            exact bracket_app h
          · rename_i hc2
            rw [if_neg hc2]
            split at h
            · rename_i hc3
              rw [if_pos hc3]
              injection h with h
              injection h with h3 h4
              subst h3 h4
              rfl
            · rename_i hc3
              rw [if_neg hc3]
              split at h
              · rename_i hc4
                rw [if_pos hc4]
                rcases l with _ | ⟨d, l⟩
                · cases h
                · simp only [List.cons_append] at h ⊢
                  rw [Option.map_eq_some_iff] at h
                  obtain ⟨y, h2, h3⟩ := h
                  injection h3 with h3 h4
                  subst h3 h4
                  rw [h2]; rfl
              · rename_i hc4
                rw [if_neg hc4]
                split at h
                · cases h
                · rename_i hc5
                  rw [if_neg hc5]
                  injection h with h
                  injection h with h3 h4
                  subst h3 h4
                  rfl
theorem parse_alts {p : List UInt8} {a : As} (h : parse p = some a) : p.length ≤ 200 ∧ alts (fuel p.length) p = some (a, []) := by
  unfold parse at h
  split at h
  · cases h
  · rename_i hl
    refine ⟨by omega, ?_⟩
    split at h
    · rename_i a' h1
      injection h with h
      subst h
      exact h1
    · cases h
theorem parse_of {p : List UInt8} {a : As} (hl : p.length ≤ 200) (h : alts (fuel p.length) p = some (a, [])) : parse p = some a := by
  unfold parse
  rw [if_neg (by omega), h]
/-- An expression in brackets. -/
theorem atom_brk {p t : List UInt8} {a : As} (h : parse p = some a) {m : Nat} (hm : fuel p.length ≤ m) : atom (m + 1) (40 :: (p ++ 41 :: t)) = some (.grp a, t) := by
  have h1 := (suffix t _).1 _ _ _ (parse_alts h).2
  have h2 := (fuel_mono _).1 m _ _ hm h1
  simp only [atom]
  rw [if_pos trivial, h2, Option.bind_some]
  rfl
theorem seqs_end {m : Nat} (t : List UInt8) (h : t = [] ∨ ∃ r, t = 124 :: r) : seqs (m + 1) t = some (.nil, t) := by
  rcases h with rfl | ⟨r, rfl⟩
  · rfl
  · simp [seqs]
theorem quant_end (u : U) (t : List UInt8) (h : t = [] ∨ (∃ r, t = 124 :: r) ∨ ∃ r, t = 40 :: r) : quant u t = (u, t) := by
  rcases h with rfl | ⟨r, rfl⟩ | ⟨r, rfl⟩ <;> rfl
/-- A sequence that begins with an expression in brackets. -/
theorem seqs_grp {p t : List UInt8} {a : As} (h : parse p = some a) {m : Nat} (hm : fuel p.length ≤ m) : seqs (m + 2) (40 :: (p ++ 41 :: t)) = (seqs (m + 1) (quant (.grp a) t).2).map fun x => (.cons (quant (.grp a) t).1 x.1, x.2) := by
  rw [seqs]
  rw [if_neg (by decide), atom_brk h hm, Option.bind_some]
def g1 (a : As) : Ss := .cons (.grp a) .nil
theorem parse_either {p q : List UInt8} {a b : As} (ha : parse p = some a) (hb : parse q = some b) (hl : p.length + q.length + 5 ≤ 200) : parse (40 :: (p ++ 41 :: 124 :: 40 :: (q ++ [41]))) = some (.more (g1 a) (.one (g1 b))) := by
  apply parse_of (by simp; omega)
  have e : fuel (40 :: (p ++ 41 :: 124 :: 40 :: (q ++ [41]))).length = (4 * (p.length + q.length) + 20) + 4 := by simp [fuel]; omega
  rw [e, alts, seqs_grp ha (by unfold fuel; omega), quant_end _ _ (.inr (.inl ⟨_, rfl⟩)), seqs_end _ (.inr ⟨_, rfl⟩)]
  simp only [Option.map_some, Option.bind_some]
  rw [alts, seqs_grp hb (by unfold fuel; omega), quant_end _ _ (.inl rfl), seqs_end _ (.inl rfl)]
  rfl
theorem parse_concat {p q : List UInt8} {a b : As} (ha : parse p = some a) (hb : parse q = some b) (hl : p.length + q.length + 4 ≤ 200) : parse (40 :: (p ++ 41 :: 40 :: (q ++ [41]))) = some (.one (.cons (.grp a) (g1 b))) := by
  apply parse_of (by simp; omega)
  have e : fuel (40 :: (p ++ 41 :: 40 :: (q ++ [41]))).length = (4 * (p.length + q.length) + 16) + 4 := by simp [fuel]; omega
  rw [e, alts, seqs_grp ha (by unfold fuel; omega), quant_end _ _ (.inr (.inr ⟨_, rfl⟩)), seqs_grp hb (by unfold fuel; omega), quant_end _ _ (.inl rfl), seqs_end _ (.inl rfl)]
  rfl
theorem parse_quant {p : List UInt8} {a : As} (ha : parse p = some a) (hl : p.length + 3 ≤ 200) (c : UInt8) (u : U) (hc : quant (.grp a) [c] = (u, [])) : parse (40 :: (p ++ 41 :: [c])) = some (.one (.cons u .nil)) := by
  apply parse_of (by simp only [List.length_cons, List.length_append, List.length_nil]; omega)
  have e : fuel (40 :: (p ++ 41 :: [c])).length = (4 * p.length + 12) + 4 := by simp [fuel]; omega
  rw [e, alts, seqs_grp ha (by unfold fuel; omega), hc, seqs_end _ (.inl rfl)]
  rfl
theorem parse_long {p : List UInt8} (h : 200 < p.length) : parse p = none := by
  unfold parse
  rw [if_pos h]
end Rx
end Go.Proofs.Ytheblleadjbndaa
