/- What the laws of concatenation, repetition, searching and prefixes come to: plain Lean. -/
import Derived.Test.YtheblleadjbndaaLawA
namespace Go.Proofs.Ytheblleadjbndaa
namespace Rx
/-- Some cut ahead of j parts a string into what f and what g accept. -/
def cuts (f g : List UInt8 → Bool) (l : List UInt8) (j : Nat) : Bool := (List.range j).any fun i => f (l.take i) && g (l.drop i)
theorem cuts_zero (f g : List UInt8 → Bool) (l : List UInt8) : cuts f g l 0 = false := rfl
theorem cuts_succ (f g : List UInt8 → Bool) (l : List UInt8) (j : Nat) : cuts f g l (j + 1) = (cuts f g l j || (f (l.take j) && g (l.drop j))) := by
  unfold cuts
  rw [List.range_succ, List.any_append]
  simp
theorem cuts_iff {f g : List UInt8 → Bool} {l : List UInt8} : cuts f g l (l.length + 1) = true ↔ ∃ x y, l = x ++ y ∧ f x = true ∧ g y = true := by
  unfold cuts
  rw [List.any_eq_true]
  constructor
  · rintro ⟨i, _, h⟩
    rw [Bool.and_eq_true] at h
    exact ⟨_, _, (List.take_append_drop i l).symm, h.1, h.2⟩
  · rintro ⟨x, y, rfl, h1, h2⟩
    refine ⟨x.length, by simp; omega, ?_⟩
    rw [List.take_left, List.drop_left, h1, h2]
    rfl
theorem match_concat_cuts {p q : List UInt8} (hp : checkR p = 0) (hq : checkR q = 0) (h : p.length + q.length + 4 ≤ 200) (s : List UInt8) : matchR (concatS p q) s = cuts (matchR p) (matchR q) s (s.length + 1) :=
  bool_same ((match_concat hp hq h s).trans cuts_iff.symm)
/-- The same with a first part that is not empty, and the empty string. -/
def some_ (f g : List UInt8 → Bool) (l : List UInt8) (j : Nat) : Bool := decide (l = []) || (List.range j).any fun i => decide (0 < i) && f (l.take i) && g (l.drop i)
theorem some_zero (f g : List UInt8 → Bool) (l : List UInt8) : some_ f g l 0 = decide (l = []) := by simp [some_]
theorem some_succ (f g : List UInt8 → Bool) (l : List UInt8) (j : Nat) : some_ f g l (j + 1) = (some_ f g l j || (decide (0 < j) && f (l.take j) && g (l.drop j))) := by
  unfold some_
  rw [List.range_succ, List.any_append, Bool.or_assoc]
  simp
theorem star_iff {L : List UInt8 → Prop} {w : List UInt8} : Star L w ↔ w = [] ∨ ∃ x y, x ≠ [] ∧ w = x ++ y ∧ L x ∧ Star L y := by
  constructor
  · intro h
    induction h with
    | nil => exact .inl rfl
    | cons x y hx hy ih =>
      by_cases e : x = []
      · subst e; exact ih
      · exact .inr ⟨x, y, e, rfl, hx, hy⟩
  · rintro (rfl | ⟨x, y, _, rfl, h1, h2⟩)
    · exact .nil
    · exact .cons _ _ h1 h2
theorem match_star {p : List UInt8} (hp : checkR p = 0) (h : p.length + 3 ≤ 200) (s : List UInt8) : matchR (quantS p 42) s = some_ (matchR p) (matchR (quantS p 42)) s (s.length + 1) := by
  obtain ⟨a, ha⟩ := checkR_zero.1 hp
  have hm : ∀ w, matchR (quantS p 42) w = true ↔ Star (MU (.grp a)) w := fun w => by
    rw [match_of (p := quantS p 42) (parse_quant ha h 42 (.star (.grp a)) rfl)]
    simp only [MA, MS_one, MU]
  have hg : ∀ w, matchR p w = true ↔ MU (.grp a) w := fun w => by rw [match_of ha]; simp only [MU]
  apply bool_same
  rw [hm, star_iff]
  unfold some_
  rw [Bool.or_eq_true, decide_eq_true_eq, List.any_eq_true]
  constructor
  · rintro (rfl | ⟨x, y, h1, rfl, h3, h4⟩)
    · exact .inl rfl
    · refine .inr ⟨x.length, by simp; omega, ?_⟩
      rw [List.take_left, List.drop_left, (hg x).2 h3, (hm y).2 h4, decide_eq_true (List.length_pos_iff.2 h1)]
      rfl
  · rintro (rfl | ⟨i, hi, h1⟩)
    · exact .inl rfl
    · rw [Bool.and_eq_true, Bool.and_eq_true, decide_eq_true_eq] at h1
      rcases s with _ | ⟨c, s⟩
      · exact .inl rfl
      · refine .inr ⟨_, _, ?_, (List.take_append_drop i _).symm, (hg _).1 h1.1.2, (hm _).1 h1.2⟩
        obtain ⟨i, rfl⟩ : ∃ k, i = k + 1 := ⟨i - 1, by have := h1.1.1; omega⟩
        simp
theorem match_plus {p : List UInt8} (hp : checkR p = 0) (h : p.length + 3 ≤ 200) (s : List UInt8) : matchR (quantS p 43) s = cuts (matchR p) (matchR (quantS p 42)) s (s.length + 1) := by
  obtain ⟨a, ha⟩ := checkR_zero.1 hp
  apply bool_same
  rw [cuts_iff, match_of (p := quantS p 43) (parse_quant ha h 43 (.plus (.grp a)) rfl)]
  have hm : ∀ w, matchR (quantS p 42) w = true ↔ Star (MU (.grp a)) w := fun w => by
    rw [match_of (p := quantS p 42) (parse_quant ha h 42 (.star (.grp a)) rfl)]
    simp only [MA, MS_one, MU]
  have hg : ∀ w, matchR p w = true ↔ MU (.grp a) w := fun w => by rw [match_of ha]; simp only [MU]
  simp only [MA, MS_one]
  simp only [hm, hg]
  rw [MU]
/-! ### Searching -/
theorem find_some {p l : List UInt8} {f e : Nat} (h : findR p l = some (f, e)) : f ≤ e ∧ e ≤ l.length ∧ matchR p (seg l f e) = true ∧ ∀ i k, i ≤ k → k ≤ l.length → matchR p (seg l i k) = true → f ≤ i ∧ (i = f → k ≤ e) := by
  unfold findR at h
  rw [Option.bind_eq_some_iff] at h
  obtain ⟨a, ha, hs⟩ := h
  have hr := search_res a false l
  rw [hs] at hr
  have h1 := (mt_iff a false l _ _).1 hr.1
  exact ⟨h1.2.1, h1.2.2.1, (match_of ha).2 h1.2.2.2, fun i k h2 h3 h4 => hr.2 i k ((mt_iff a false l i k).2 ⟨.inl rfl, h2, h3, (match_of ha).1 h4⟩)⟩
theorem find_none {p l : List UInt8} (h : findR p l = none) (i k : Nat) (h2 : i ≤ k) (h3 : k ≤ l.length) : matchR p (seg l i k) = false := by
  rcases hm : matchR p (seg l i k) with _ | _
  · rfl
  · obtain ⟨a, ha, hx⟩ := (matchR_iff _ _).1 hm
    have hr := search_res a false l
    unfold findR at h
    rw [ha] at h
    rw [show search a false l = none from h] at hr
    exact absurd ((mt_iff a false l i k).2 ⟨.inl rfl, h2, h3, hx⟩) (hr i k)
end Rx
end Go.Proofs.Ytheblleadjbndaa
