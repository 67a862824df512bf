/- How expressions in brackets are read: plain Lean. What the laws of expressions come to: plain Lean. What the laws of concatenation, repetition, searching and prefixes come to: plain Lean. -/
import Derived.Test.YthckgmbadmilfaaGreatMAB
import Derived.Test.YthckgmbadmilfaaGreatMAD
namespace Go.Proofs.YthckgmbadmilfaaGreat
namespace Rx
theorem items_mono (n : Nat) : ∀ (m : Nat) (g : UInt8 → Bool) (l : List UInt8) (x : (UInt8 → Bool) × List UInt8), n ≤ m → items n g l = some x → items m g l = some x := by
  induction n with
  | zero => intro m g l x _ h; simp [items] at h
  | succ n ih =>
    intro m g l x hm h
    obtain ⟨m, rfl⟩ : ∃ k, m = k + 1 := ⟨m - 1, by omega⟩
    rw [items, Option.bind_eq_some_iff] at h
    obtain ⟨⟨a, r⟩, h1, h⟩ := h
    simp only at h
    rw [Option.bind_eq_some_iff] at h
    obtain ⟨⟨b, r'⟩, h2, h⟩ := h
    rw [items, h1, Option.bind_some]
    simp only
    rw [h2, Option.bind_some]
    simp only at h ⊢
    split at h
    · exact h
    · rename_i hne
      exact ih m _ _ _ (by omega) h
theorem item_app {l r t : List UInt8} {a : UInt8} (h : item l = some (a, r)) : item (l ++ t) = some (a, r ++ t) := by
  rcases l with _ | ⟨c, l⟩
  · cases h
  · simp only [item] at h
    simp only [List.cons_append, item]
    split at h
    · cases h
    · rename_i h93
      rw [if_neg h93]
      split at h
      · rename_i h92
        rw [if_pos h92]
        rcases l with _ | ⟨d, l⟩
        · cases h
        · simp only [Option.map_eq_some_iff, Prod.mk.injEq] at h
          obtain ⟨b, h1, rfl, rfl⟩ := h
          simp [h1]
      · rename_i h92
        rw [if_neg h92]
        simp only [Option.some.injEq, Prod.mk.injEq] at h
        obtain ⟨rfl, rfl⟩ := h
        rfl
theorem items_dash (n : Nat) (g : UInt8 → Bool) : items n g [45] = none := by
  rcases n with _ | n
  · rfl
  · rcases n with _ | n
    · rfl
    · rfl
theorem last_app {r r' t : List UInt8} {a b : UInt8} (hr : r ≠ [45]) (h : last a r = some (b, r')) : last a (r ++ 41 :: t) = some (b, r' ++ 41 :: t) := by
  unfold last at h ⊢
  rcases r with _ | ⟨x, _ | ⟨y, r⟩⟩
  · simp only [isRange] at h
    have : isRange ([] ++ 41 :: t) = false := by rcases t with _ | ⟨u, t⟩ <;> rfl
    rw [this]
    simp only [Bool.false_eq_true, if_false] at h ⊢
    injection h with h
    injection h with h1 h2
    subst h1 h2
    rfl
  · simp only [isRange] at h
    have hx : x ≠ 45 := fun e => hr (by rw [e])
    have : isRange ([x] ++ 41 :: t) = false := by simp [isRange, hx]
    rw [this]
    simp only [Bool.false_eq_true, if_false] at h ⊢
    injection h with h
    injection h with h1 h2
    subst h1 h2
    rfl
  · have : isRange (x :: y :: r ++ 41 :: t) = isRange (x :: y :: r) := rfl
    rw [this]
    split at h
    · rename_i hi
      rw [if_pos hi]
      rw [Option.bind_eq_some_iff] at h
      obtain ⟨⟨b1, r1⟩, h1, h2⟩ := h
      have h3 := item_app (t := 41 :: t) h1
      simp only [List.tail_cons, List.cons_append] at h3 ⊢
      rw [h3, Option.bind_some]
      simp only at h2 ⊢
      split at h2
      · cases h2
      · rename_i hlt
        rw [if_neg hlt]
        injection h2 with h2
        injection h2 with h4 h5
        subst h4 h5
        rfl
    · rename_i hi
      rw [if_neg hi]
      injection h with h
      injection h with h1 h2
      subst h1 h2
      rfl
theorem items_app (n : Nat) : ∀ (g f : UInt8 → Bool) (l r t : List UInt8), items n g l = some (f, r) → items n g (l ++ 41 :: t) = some (f, r ++ 41 :: t) := by
  induction n with
  | zero => intro g f l r t h; simp [items] at h
  | succ n ih =>
    intro g f l r t h
    rw [items, Option.bind_eq_some_iff] at h
    obtain ⟨⟨a, r1⟩, h1, h⟩ := h
    simp only at h
    rw [Option.bind_eq_some_iff] at h
    obtain ⟨⟨b, r2⟩, h2, h⟩ := h
    simp only at h
    have hr1 : r1 ≠ [45] := fun e => by
      subst e
      simp only [last, isRange, Bool.false_eq_true, if_false] at h2
      injection h2 with h2
      injection h2 with _ h3
      subst h3
      rw [items_dash] at h
      cases h
    rw [items, item_app (t := 41 :: t) h1, Option.bind_some]
    simp only
    rw [last_app (t := t) hr1 h2, Option.bind_some]
    simp only
    split at h
    · injection h with h
      injection h with h3 h4
      subst h3 h4
      rfl
    · rename_i hne
      have h5 := ih _ _ _ _ t h
      rcases r2 with _ | ⟨x, r2⟩
      · exact h5
      · have hx : x ≠ 93 := fun e => hne r2 (by rw [e])
        split
        · rename_i r'' he
          simp only [List.cons_append] at he
          injection he with he _
          exact absurd he hx
        · exact h5
theorem bracket_app {l r t : List UInt8} {u : U} (h : bracket l = some (u, r)) : bracket (l ++ 41 :: t) = some (u, r ++ 41 :: t) := by
  unfold bracket at h
  split at h
  · rename_i r0
    rw [Option.map_eq_some_iff] at h
    obtain ⟨⟨g, r1⟩, h1, h2⟩ := h
    injection h2 with h3 h4
    subst h3 h4
    have h5 := items_mono _ ((r0 ++ 41 :: t).length + 1) _ _ _ (by simp) (items_app _ _ _ _ _ t h1)
    simp only [List.cons_append, bracket]
    rw [h5]; rfl
  · rename_i hne
    rw [Option.map_eq_some_iff] at h
    obtain ⟨⟨g, r1⟩, h1, h2⟩ := h
    injection h2 with h3 h4
    subst h3 h4
    have h5 := items_mono _ ((l ++ 41 :: t).length + 1) _ _ _ (by simp) (items_app _ _ _ _ _ t h1)
    unfold bracket
    split
    · rename_i r0 he
      rcases l with _ | ⟨x, l⟩
      · simp [items, item] at h1
      · simp only [List.cons_append] at he
        injection he with he _
        exact absurd (by rw [he]) (hne l)
    · rw [h5]; rfl
theorem quant_app (u : U) (l t : List UInt8) : quant u (l ++ 41 :: t) = ((quant u l).1, (quant u l).2 ++ 41 :: t) := by
  rcases l with _ | ⟨c, l⟩
  · rfl
  · unfold quant
    simp only [List.cons_append]
    split
    · rename_i h; injection h with h1 h2; subst h1 h2; rfl
    · rename_i h; injection h with h1 h2; subst h1 h2; rfl
    · rename_i h; injection h with h1 h2; subst h1 h2; rfl
    · rename_i h1 h2 h3
      split
      · rename_i h; injection h with h4 h5; exact absurd (by rw [h4]) (h1 _)
      · rename_i h; injection h with h4 h5; exact absurd (by rw [h4]) (h2 _)
      · rename_i h; injection h with h4 h5; exact absurd (by rw [h4]) (h3 _)
      · rfl
/-- More steps do no harm. -/
theorem fuel_mono (n : Nat) : (∀ (m : Nat) (l : List UInt8) (x : As × List UInt8), n ≤ m → alts n l = some x → alts m l = some x) ∧ (∀ (m : Nat) (l : List UInt8) (x : Ss × List UInt8), n ≤ m → seqs n l = some x → seqs m l = some x) ∧ (∀ (m : Nat) (l : List UInt8) (x : U × List UInt8), n ≤ m → atom n l = some x → atom m l = some x) := by
  induction n with
  | zero => exact ⟨fun _ _ _ _ h => by simp [alts] at h, fun _ _ _ _ h => by simp [seqs] at h, fun _ _ _ _ h => by simp [atom] at h⟩
  | succ n ih =>
    obtain ⟨iA, iS, iU⟩ := ih
    refine ⟨?_, ?_, ?_⟩
    · intro m l x hm h
      obtain ⟨m, rfl⟩ : ∃ k, m = k + 1 := ⟨m - 1, by omega⟩
      rw [alts, Option.bind_eq_some_iff] at h
      obtain ⟨⟨s, r1⟩, h1, h⟩ := h
      rw [alts, iS m _ _ (by omega) h1, Option.bind_some]
      simp only at h ⊢
      split at h
      · rw [Option.map_eq_some_iff] at h
        obtain ⟨y, h2, h3⟩ := h
        rw [iA m _ _ (by omega) h2]
        exact congrArg some h3
      · rename_i hne
        exact h
    · intro m l x hm h
      obtain ⟨m, rfl⟩ : ∃ k, m = k + 1 := ⟨m - 1, by omega⟩
      rcases l with _ | ⟨c, t⟩
      · simpa only [seqs] using h
      · simp only [seqs] at h ⊢
        split at h
        · rename_i hc
          rw [if_pos hc]; exact h
        · rename_i hc
          rw [if_neg hc]
          rw [Option.bind_eq_some_iff] at h
          obtain ⟨⟨u, r1⟩, h1, h⟩ := h
          rw [Option.map_eq_some_iff] at h
          obtain ⟨y, h2, h3⟩ := h
          rw [iU m _ _ (by omega) h1, Option.bind_some]
          simp only at h2 h3 ⊢
          rw [iS m _ _ (by omega) h2]
          exact congrArg some h3
    · intro m l x hm h
      obtain ⟨m, rfl⟩ : ∃ k, m = k + 1 := ⟨m - 1, by omega⟩
      rcases l with _ | ⟨c, t⟩
      · simp [atom] at h
      · simp only [atom] at h ⊢
        split at h
        · rename_i hc
          rw [if_pos hc]
          rw [Option.bind_eq_some_iff] at h
          obtain ⟨⟨a, r1⟩, h1, h⟩ := h
          rw [iA m _ _ (by omega) h1, Option.bind_some]
          exact h
        · rename_i hc
          rw [if_neg hc]
          exact h
/-- What was read ahead of the end is read ahead of a closing bracket, too. -/
theorem suffix (t : List UInt8) (n : Nat) : (∀ (l r : List UInt8) (a : As), alts n l = some (a, r) → alts n (l ++ 41 :: t) = some (a, r ++ 41 :: t)) ∧ (∀ (l r : List UInt8) (s : Ss), seqs n l = some (s, r) → seqs n (l ++ 41 :: t) = some (s, r ++ 41 :: t)) ∧ (∀ (l r : List UInt8) (u : U), atom n l = some (u, r) → atom n (l ++ 41 :: t) = some (u, r ++ 41 :: t)) := by
  induction n with
  | zero => exact ⟨fun _ _ _ h => by simp [alts] at h, fun _ _ _ h => by simp [seqs] at h, fun _ _ _ h => by simp [atom] at h⟩
  | succ n ih =>
    obtain ⟨iA, iS, iU⟩ := ih
    refine ⟨?_, ?_, ?_⟩
    · intro l r a h
      rw [alts, Option.bind_eq_some_iff] at h
      obtain ⟨⟨s, r1⟩, h1, h⟩ := h
      rw [alts, iS _ _ _ h1, Option.bind_some]
      simp only at h ⊢
      split at h
      · rw [Option.map_eq_some_iff] at h
        obtain ⟨⟨a2, r2⟩, h2, h3⟩ := h
        injection h3 with h3 h4
        subst h3 h4
        simp only [List.cons_append]
        rw [iA _ _ _ h2]; rfl
      · rename_i hne
        injection h with h
        injection h with h3 h4
        subst h3 h4
        rcases r1 with _ | ⟨x, r1⟩
        · rfl
        · simp only [List.cons_append]
          split
          · rename_i he
            injection he with he1 he2
            exact absurd (by rw [he1]) (hne r1)
          · rfl
    · intro l r s h
      rcases l with _ | ⟨c, l⟩
      · simp only [seqs] at h
        injection h with h
        injection h with h3 h4
        subst h3 h4
        simp [seqs]
      · simp only [seqs] at h
        simp only [List.cons_append, seqs]
        split at h
        · rename_i hc
          rw [if_pos hc]
          injection h with h
          injection h with h3 h4
          subst h3 h4
          rfl
        · rename_i hc
          rw [if_neg hc]
          rw [Option.bind_eq_some_iff] at h
          obtain ⟨⟨u, r1⟩, h1, h⟩ := h
          rw [Option.map_eq_some_iff] at h
          obtain ⟨⟨s2, r2⟩, h2, h3⟩ := h
          injection h3 with h3 h4
          subst h3 h4
          have h5 := iU _ _ _ h1
          simp only [List.cons_append] at h5
          rw [h5, Option.bind_some]
          simp only at h2 ⊢
          rw [quant_app]
          simp only
          rw [iS _ _ _ h2]
          rfl
    · intro l r u h
      rcases l with _ | ⟨c, l⟩
      · simp [atom] at h
      · simp only [atom] at h
        simp only [List.cons_append, atom]
        split at h
        · rename_i hc
          rw [if_pos hc]
          rw [Option.bind_eq_some_iff] at h
          obtain ⟨⟨a, r1⟩, h1, h⟩ := h
          rw [iA _ _ _ h1, Option.bind_some]
          simp only at h ⊢
          split at h
          · injection h with h
            injection h with h3 h4
            subst h3 h4
            rfl
          · cases h
        · rename_i hc
          rw [if_neg hc]
          split at h
          · rename_i hc2
            rw [if_pos hc2]
            exact bracket_app h
          · rename_i hc2
            rw [if_neg hc2]
            split at h
            · rename_i hc3
              rw [if_pos hc3]
              injection h with h
              injection h with h3 h4
              subst h3 h4
              rfl
            · rename_i hc3
              rw [if_neg hc3]
              split at h
              · rename_i hc4
                rw [if_pos hc4]
                rcases l with _ | ⟨d, l⟩
                · cases h
                · simp only [List.cons_append] at h ⊢
                  rw [Option.map_eq_some_iff] at h
                  obtain ⟨y, h2, h3⟩ := h
                  injection h3 with h3 h4
                  subst h3 h4
                  rw [h2]; rfl
              · rename_i hc4
                rw [if_neg hc4]
                split at h
                · cases h
                · rename_i hc5
                  rw [if_neg hc5]
                  injection h with h
                  injection h with h3 h4
                  subst h3 h4
                  rfl
theorem parse_alts {p : List UInt8} {a : As} (h : parse p = some a) : p.length ≤ 200 ∧ alts (fuel p.length) p = some (a, []) := by
  unfold parse at h
  split at h
  · cases h
  · rename_i hl
    refine ⟨by omega, ?_⟩
    split at h
    · rename_i a' h1
      injection h with h
      subst h
      exact h1
    · cases h
theorem parse_of {p : List UInt8} {a : As} (hl : p.length ≤ 200) (h : alts (fuel p.length) p = some (a, [])) : parse p = some a := by
  unfold parse
  rw [if_neg (by omega), h]
/-- An expression in brackets. -/
theorem atom_brk {p t : List UInt8} {a : As} (h : parse p = some a) {m : Nat} (hm : fuel p.length ≤ m) : atom (m + 1) (40 :: (p ++ 41 :: t)) = some (.grp a, t) := by
  have h1 := (suffix t _).1 _ _ _ (parse_alts h).2
  have h2 := (fuel_mono _).1 m _ _ hm h1
  simp only [atom]
  rw [if_pos trivial, h2, Option.bind_some]
  rfl
theorem seqs_end {m : Nat} (t : List UInt8) (h : t = [] ∨ ∃ r, t = 124 :: r) : seqs (m + 1) t = some (.nil, t) := by
  rcases h with rfl | ⟨r, rfl⟩
  · rfl
  · simp [seqs]
theorem quant_end (u : U) (t : List UInt8) (h : t = [] ∨ (∃ r, t = 124 :: r) ∨ ∃ r, t = 40 :: r) : quant u t = (u, t) := by
  rcases h with rfl | ⟨r, rfl⟩ | ⟨r, rfl⟩ <;> rfl
/-- A sequence that begins with an expression in brackets. -/
theorem seqs_grp {p t : List UInt8} {a : As} (h : parse p = some a) {m : Nat} (hm : fuel p.length ≤ m) : seqs (m + 2) (40 :: (p ++ 41 :: t)) = (seqs (m + 1) (quant (.grp a) t).2).map fun x => (.cons (quant (.grp a) t).1 x.1, x.2) := by
  rw [seqs]
  rw [if_neg (by decide), atom_brk h hm, Option.bind_some]
def g1 (a : As) : Ss := .cons (.grp a) .nil
theorem parse_either {p q : List UInt8} {a b : As} (ha : parse p = some a) (hb : parse q = some b) (hl : p.length + q.length + 5 ≤ 200) : parse (40 :: (p ++ 41 :: 124 :: 40 :: (q ++ [41]))) = some (.more (g1 a) (.one (g1 b))) := by
  apply parse_of (by simp; omega)
  have e : fuel (40 :: (p ++ 41 :: 124 :: 40 :: (q ++ [41]))).length = (4 * (p.length + q.length) + 20) + 4 := by simp [fuel]; omega
  rw [e, alts, seqs_grp ha (by unfold fuel; omega), quant_end _ _ (.inr (.inl ⟨_, rfl⟩)), seqs_end _ (.inr ⟨_, rfl⟩)]
  simp only [Option.map_some, Option.bind_some]
  rw [alts, seqs_grp hb (by unfold fuel; omega), quant_end _ _ (.inl rfl), seqs_end _ (.inl rfl)]
  rfl
theorem parse_concat {p q : List UInt8} {a b : As} (ha : parse p = some a) (hb : parse q = some b) (hl : p.length + q.length + 4 ≤ 200) : parse (40 :: (p ++ 41 :: 40 :: (q ++ [41]))) = some (.one (.cons (.grp a) (g1 b))) := by
  apply parse_of (by simp; omega)
  have e : fuel (40 :: (p ++ 41 :: 40 :: (q ++ [41]))).length = (4 * (p.length + q.length) + 16) + 4 := by simp [fuel]; omega
  rw [e, alts, seqs_grp ha (by unfold fuel; omega), quant_end _ _ (.inr (.inr ⟨_, rfl⟩)), seqs_grp hb (by unfold fuel; omega), quant_end _ _ (.inl rfl), seqs_end _ (.inl rfl)]
  rfl
theorem parse_quant {p : List UInt8} {a : As} (ha : parse p = some a) (hl : p.length + 3 ≤ 200) (c : UInt8) (u : U) (hc : quant (.grp a) [c] = (u, [])) : parse (40 :: (p ++ 41 :: [c])) = some (.one (.cons u .nil)) := by
  apply parse_of (by simp only [List.length_cons, List.length_append, List.length_nil]; omega)
  have e : fuel (40 :: (p ++ 41 :: [c])).length = (4 * p.length + 12) + 4 := by simp [fuel]; omega
  rw [e, alts, seqs_grp ha (by unfold fuel; omega), hc, seqs_end _ (.inl rfl)]
  rfl
theorem parse_long {p : List UInt8} (h : 200 < p.length) : parse p = none := by
  unfold parse
  rw [if_pos h]
end Rx
end Go.Proofs.YthckgmbadmilfaaGreat

namespace Go.Proofs.YthckgmbadmilfaaGreat
namespace Rx
theorem checkR_zero {p : List UInt8} : checkR p = 0 ↔ ∃ a, parse p = some a := by
  unfold checkR
  by_cases h : 200 < p.length
  · rw [if_pos h, parse_long h]; simp
  · rw [if_neg h]
    rcases parse p with _ | a <;> simp
theorem bool_iff {x : Bool} {P : Prop} [Decidable P] (h : x = true ↔ P) : x = decide P := by
  by_cases hp : P
  · rw [h.2 hp, decide_eq_true hp]
  · rw [decide_eq_false hp]
    cases x
    · rfl
    · exact absurd (h.1 rfl) hp
theorem bool_same {x y : Bool} (h : x = true ↔ y = true) : x = y := by
  cases x <;> cases y <;> simp_all
theorem match_of {p l : List UInt8} {a : As} (ha : parse p = some a) : matchR p l = true ↔ MA a l := by
  rw [matchR_iff, ha]
  simp
def eitherS (p q : List UInt8) : List UInt8 := 40 :: (p ++ 41 :: 124 :: 40 :: (q ++ [41]))
def concatS (p q : List UInt8) : List UInt8 := 40 :: (p ++ 41 :: 40 :: (q ++ [41]))
def quantS (p : List UInt8) (c : UInt8) : List UInt8 := 40 :: (p ++ 41 :: [c])
theorem MS_one {u : U} {w : List UInt8} : MS (.cons u .nil) w ↔ MU u w := by
  simp only [MS]
  constructor
  · rintro ⟨x, y, rfl, h, rfl⟩; simpa using h
  · intro h; exact ⟨w, [], by simp, h, rfl⟩
theorem MS_g1 {a : As} {w : List UInt8} : MS (g1 a) w ↔ MA a w := by
  unfold g1
  rw [MS_one]; simp only [MU]
section
variable {p q : List UInt8} (hp : checkR p = 0) (hq : checkR q = 0)
include hp
theorem check_quant (c : UInt8) (hc : c = 42 ∨ c = 43 ∨ c = 63) : checkR (quantS p c) = if 200 < p.length + 3 then 4 else 0 := by
  have hl : (quantS p c).length = p.length + 3 := by simp [quantS]
  split
  · unfold checkR; rw [if_pos (by omega)]
  · obtain ⟨a, ha⟩ := checkR_zero.1 hp
    rw [checkR_zero]
    rcases hc with rfl | rfl | rfl
    · exact ⟨_, parse_quant ha (by omega) 42 (.star (.grp a)) rfl⟩
    · exact ⟨_, parse_quant ha (by omega) 43 (.plus (.grp a)) rfl⟩
    · exact ⟨_, parse_quant ha (by omega) 63 (.opt (.grp a)) rfl⟩
theorem match_opt (h : p.length + 3 ≤ 200) (s : List UInt8) : matchR (quantS p 63) s = (decide (s = []) || matchR p s) := by
  obtain ⟨a, ha⟩ := checkR_zero.1 hp
  apply bool_same
  rw [match_of (p := quantS p 63) (parse_quant ha h 63 (.opt (.grp a)) rfl), Bool.or_eq_true, match_of ha, decide_eq_true_eq]
  simp only [MA, MS_one, MU]
include hq
theorem check_either : checkR (eitherS p q) = if 200 < p.length + q.length + 5 then 4 else 0 := by
  have hl : (eitherS p q).length = p.length + q.length + 5 := by simp [eitherS]; omega
  split
  · unfold checkR; rw [if_pos (by omega)]
  · obtain ⟨a, ha⟩ := checkR_zero.1 hp
    obtain ⟨b, hb⟩ := checkR_zero.1 hq
    rw [checkR_zero]
    exact ⟨_, parse_either ha hb (by omega)⟩
theorem match_either (h : p.length + q.length + 5 ≤ 200) (s : List UInt8) : matchR (eitherS p q) s = (matchR p s || matchR q s) := by
  obtain ⟨a, ha⟩ := checkR_zero.1 hp
  obtain ⟨b, hb⟩ := checkR_zero.1 hq
  apply bool_same
  rw [match_of (p := eitherS p q) (parse_either ha hb h), Bool.or_eq_true, match_of ha, match_of hb]
  simp only [MA, MS_g1]
theorem check_concat : checkR (concatS p q) = if 200 < p.length + q.length + 4 then 4 else 0 := by
  have hl : (concatS p q).length = p.length + q.length + 4 := by simp [concatS]; omega
  split
  · unfold checkR; rw [if_pos (by omega)]
  · obtain ⟨a, ha⟩ := checkR_zero.1 hp
    obtain ⟨b, hb⟩ := checkR_zero.1 hq
    rw [checkR_zero]
    exact ⟨_, parse_concat ha hb (by omega)⟩
theorem match_concat (h : p.length + q.length + 4 ≤ 200) (s : List UInt8) : matchR (concatS p q) s = true ↔ ∃ x y, s = x ++ y ∧ matchR p x = true ∧ matchR q y = true := by
  obtain ⟨a, ha⟩ := checkR_zero.1 hp
  obtain ⟨b, hb⟩ := checkR_zero.1 hq
  rw [match_of (p := concatS p q) (parse_concat ha hb h)]
  simp only [MA, MS, MU, MS_g1, match_of ha, match_of hb]
end
end Rx
end Go.Proofs.YthckgmbadmilfaaGreat

namespace Go.Proofs.YthckgmbadmilfaaGreat
namespace Rx
/-- Some cut ahead of j parts a string into what f and what g accept. -/
def cuts (f g : List UInt8 → Bool) (l : List UInt8) (j : Nat) : Bool := (List.range j).any fun i => f (l.take i) && g (l.drop i)
theorem cuts_zero (f g : List UInt8 → Bool) (l : List UInt8) : cuts f g l 0 = false := rfl
theorem cuts_succ (f g : List UInt8 → Bool) (l : List UInt8) (j : Nat) : cuts f g l (j + 1) = (cuts f g l j || (f (l.take j) && g (l.drop j))) := by
  unfold cuts
  rw [List.range_succ, List.any_append]
  simp
theorem cuts_iff {f g : List UInt8 → Bool} {l : List UInt8} : cuts f g l (l.length + 1) = true ↔ ∃ x y, l = x ++ y ∧ f x = true ∧ g y = true := by
  unfold cuts
  rw [List.any_eq_true]
  constructor
  · rintro ⟨i, _, h⟩
    rw [Bool.and_eq_true] at h
    exact ⟨_, _, (List.take_append_drop i l).symm, h.1, h.2⟩
  · rintro ⟨x, y, rfl, h1, h2⟩
    refine ⟨x.length, by simp; omega, ?_⟩
    rw [List.take_left, List.drop_left, h1, h2]
    rfl
theorem match_concat_cuts {p q : List UInt8} (hp : checkR p = 0) (hq : checkR q = 0) (h : p.length + q.length + 4 ≤ 200) (s : List UInt8) : matchR (concatS p q) s = cuts (matchR p) (matchR q) s (s.length + 1) :=
  bool_same ((match_concat hp hq h s).trans cuts_iff.symm)
/-- The same with a first part that is not empty, and the empty string. -/
def some_ (f g : List UInt8 → Bool) (l : List UInt8) (j : Nat) : Bool := decide (l = []) || (List.range j).any fun i => decide (0 < i) && f (l.take i) && g (l.drop i)
theorem some_zero (f g : List UInt8 → Bool) (l : List UInt8) : some_ f g l 0 = decide (l = []) := by simp [some_]
theorem some_succ (f g : List UInt8 → Bool) (l : List UInt8) (j : Nat) : some_ f g l (j + 1) = (some_ f g l j || (decide (0 < j) && f (l.take j) && g (l.drop j))) := by
  unfold some_
  rw [List.range_succ, List.any_append, Bool.or_assoc]
  simp
theorem star_iff {L : List UInt8 → Prop} {w : List UInt8} : Star L w ↔ w = [] ∨ ∃ x y, x ≠ [] ∧ w = x ++ y ∧ L x ∧ Star L y := by
  constructor
  · intro h
    induction h with
    | nil => exact .inl rfl
    | cons x y hx hy ih =>
      by_cases e : x = []
      · subst e; exact ih
      · exact .inr ⟨x, y, e, rfl, hx, hy⟩
  · rintro (rfl | ⟨x, y, _, rfl, h1, h2⟩)
    · exact .nil
    · exact .cons _ _ h1 h2
theorem match_star {p : List UInt8} (hp : checkR p = 0) (h : p.length + 3 ≤ 200) (s : List UInt8) : matchR (quantS p 42) s = some_ (matchR p) (matchR (quantS p 42)) s (s.length + 1) := by
  obtain ⟨a, ha⟩ := checkR_zero.1 hp
  have hm : ∀ w, matchR (quantS p 42) w = true ↔ Star (MU (.grp a)) w := fun w => by
    rw [match_of (p := quantS p 42) (parse_quant ha h 42 (.star (.grp a)) rfl)]
    simp only [MA, MS_one, MU]
  have hg : ∀ w, matchR p w = true ↔ MU (.grp a) w := fun w => by rw [match_of ha]; simp only [MU]
  apply bool_same
  rw [hm, star_iff]
  unfold some_
  rw [Bool.or_eq_true, decide_eq_true_eq, List.any_eq_true]
  constructor
  · rintro (rfl | ⟨x, y, h1, rfl, h3, h4⟩)
    · exact .inl rfl
    · refine .inr ⟨x.length, by simp; omega, ?_⟩
      rw [List.take_left, List.drop_left, (hg x).2 h3, (hm y).2 h4, decide_eq_true (List.length_pos_iff.2 h1)]
      rfl
  · rintro (rfl | ⟨i, hi, h1⟩)
    · exact .inl rfl
    · rw [Bool.and_eq_true, Bool.and_eq_true, decide_eq_true_eq] at h1
      rcases s with _ | ⟨c, s⟩
      · exact .inl rfl
      · refine .inr ⟨_, _, ?_, (List.take_append_drop i _).symm, (hg _).1 h1.1.2, (hm _).1 h1.2⟩
        obtain ⟨i, rfl⟩ : ∃ k, i = k + 1 := ⟨i - 1, by have := h1.1.1; omega⟩
        simp
theorem match_plus {p : List UInt8} (hp : checkR p = 0) (h : p.length + 3 ≤ 200) (s : List UInt8) : matchR (quantS p 43) s = cuts (matchR p) (matchR (quantS p 42)) s (s.length + 1) := by
  obtain ⟨a, ha⟩ := checkR_zero.1 hp
  apply bool_same
  rw [cuts_iff, match_of (p := quantS p 43) (parse_quant ha h 43 (.plus (.grp a)) rfl)]
  have hm : ∀ w, matchR (quantS p 42) w = true ↔ Star (MU (.grp a)) w := fun w => by
    rw [match_of (p := quantS p 42) (parse_quant ha h 42 (.star (.grp a)) rfl)]
    simp only [MA, MS_one, MU]
  have hg : ∀ w, matchR p w = true ↔ MU (.grp a) w := fun w => by rw [match_of ha]; simp only [MU]
  simp only [MA, MS_one]
  simp only [hm, hg]
  rw [MU]
/-! ### Searching -/
theorem find_some {p l : List UInt8} {f e : Nat} (h : findR p l = some (f, e)) : f ≤ e ∧ e ≤ l.length ∧ matchR p (seg l f e) = true ∧ ∀ i k, i ≤ k → k ≤ l.length → matchR p (seg l i k) = true → f ≤ i ∧ (i = f → k ≤ e) := by
  unfold findR at h
  rw [Option.bind_eq_some_iff] at h
  obtain ⟨a, ha, hs⟩ := h
  have hr := search_res a false l
  rw [hs] at hr
  have h1 := (mt_iff a false l _ _).1 hr.1
  exact ⟨h1.2.1, h1.2.2.1, (match_of ha).2 h1.2.2.2, fun i k h2 h3 h4 => hr.2 i k ((mt_iff a false l i k).2 ⟨.inl rfl, h2, h3, (match_of ha).1 h4⟩)⟩
theorem find_none {p l : List UInt8} (h : findR p l = none) (i k : Nat) (h2 : i ≤ k) (h3 : k ≤ l.length) : matchR p (seg l i k) = false := by
  rcases hm : matchR p (seg l i k) with _ | _
  · rfl
  · obtain ⟨a, ha, hx⟩ := (matchR_iff _ _).1 hm
    have hr := search_res a false l
    unfold findR at h
    rw [ha] at h
    rw [show search a false l = none from h] at hr
    exact absurd ((mt_iff a false l i k).2 ⟨.inl rfl, h2, h3, hx⟩) (hr i k)
end Rx
end Go.Proofs.YthckgmbadmilfaaGreat
