/- How a machine runs: the spreading of threads, plain Lean. -/
import Derived.Test.YtheblleadjbndaaSpecC
namespace Go.Proofs.Ytheblleadjbndaa
namespace Rx
/-- A state with the position at which its match begins. -/
abbrev Th := Nat × Nat
/-- A set of threads with a further one, and all that it reaches without reading, and the marks. -/
def spreadF (M : List St) : Nat → List Th → List Nat → Nat → Nat → Nat → List Th × List Nat
  | 0, ts, mk, _, _, _ => (ts, mk)
  | n + 1, ts, mk, q, f, k =>
    if mk[q]? = some k then (ts, mk) else
    match M[q]? with
    | some (.ep qs) => if q = 0 then (ts ++ [(q, f)], mk.set q k) else qs.foldl (fun r p => spreadF M n r.1 r.2 p f k) (ts, mk.set q k)
    | _ => (ts ++ [(q, f)], mk.set q k)
/-- All next states are there. -/
def Nx : St → List Nat
  | .rd _ q => [q]
  | .ep qs => qs
def Ok (M : List St) : Prop := ∀ (i : Nat) (s : St), M[i]? = some s → ∀ q ∈ Nx s, q < M.length
/-- How many states are not marked. -/
def free (k : Nat) (mk : List Nat) : Nat := mk.countP (fun x => x != k)
theorem free_set {k : Nat} {mk : List Nat} {q : Nat} (h : q < mk.length) (h2 : mk[q]? ≠ some k) : free k (mk.set q k) + 1 = free k mk := by
  unfold free
  induction mk generalizing q with
  | nil => simp at h
  | cons a mk ih =>
    rcases q with _ | q
    · simp only [List.getElem?_cons_zero] at h2
      have ha : a ≠ k := fun e => h2 (by rw [e])
      simp [ha]
    · simp only [List.getElem?_cons_succ, List.length_cons] at h2 h
      have := ih (q := q) (by omega) h2
      simp only [List.set_cons_succ, List.countP_cons]
      omega
/-- The bounds of a spreading. -/
def Fct (k : Nat) (ts : List Th) (mk : List Nat) (r : List Th × List Nat) : Prop := r.2.length = mk.length ∧ free k r.2 ≤ free k mk ∧ r.1.length + free k r.2 ≤ ts.length + free k mk
theorem Fct.refl (k : Nat) (ts : List Th) (mk : List Nat) : Fct k ts mk (ts, mk) := ⟨rfl, Nat.le_refl _, Nat.le_refl _⟩
theorem Fct.trans {k : Nat} {ts : List Th} {mk : List Nat} {r r' : List Th × List Nat} (h : Fct k ts mk r) (h2 : Fct k r.1 r.2 r') : Fct k ts mk r' :=
  ⟨h2.1.trans h.1, Nat.le_trans h2.2.1 h.2.1, Nat.le_trans h2.2.2 h.2.2⟩
theorem spread_facts (M : List St) (hOk : Ok M) (k f : Nat) : ∀ (n : Nat) (ts : List Th) (mk : List Nat) (q : Nat), mk.length = M.length → q < M.length → Fct k ts mk (spreadF M n ts mk q f k) := by
  intro n
  induction n with
  | zero => intro ts mk q _ _; exact Fct.refl _ _ _
  | succ n ih =>
    intro ts mk q hm hq
    simp only [spreadF]
    by_cases h : mk[q]? = some k
    · rw [if_pos h]; exact Fct.refl _ _ _
    · rw [if_neg h]
      have hf := free_set (k := k) (mk := mk) (q := q) (by omega) h
      have h0 : Fct k ts mk (ts ++ [(q, f)], mk.set q k) := ⟨by simp, by simp only; omega, by simp only [List.length_append, List.length_singleton]; omega⟩
      split
      · rename_i qs he
        split
        · exact h0
        · have h1 : Fct k ts mk (ts, mk.set q k) := ⟨by simp, by simp only; omega, by simp only; omega⟩
          have hin : ∀ p ∈ qs, p < M.length := hOk q _ he
          have : ∀ (l : List Nat) (r : List Th × List Nat), (∀ p ∈ l, p < M.length) → Fct k ts mk r → r.2.length = M.length → Fct k ts mk (l.foldl (fun r p => spreadF M n r.1 r.2 p f k) r) := by
            intro l
            induction l with
            | nil => intro r _ h _; exact h
            | cons p l ihl =>
              intro r hl h hr
              rw [List.foldl_cons]
              have h2 := ih r.1 r.2 p hr (hl p (by simp))
              exact ihl _ (fun x hx => hl x (by simp [hx])) (h.trans h2) (h2.1.trans hr)
          exact this qs _ hin h1 (by simp [hm])
      · exact h0
/-- The same along a list of states. -/
theorem fold_facts (M : List St) (hOk : Ok M) (k f n : Nat) : ∀ (l : List Nat) (r : List Th × List Nat), (∀ p ∈ l, p < M.length) → r.2.length = M.length → Fct k r.1 r.2 (l.foldl (fun r p => spreadF M n r.1 r.2 p f k) r)
  | [], r, _, _ => Fct.refl _ _ _
  | p :: l, r, hl, hr => by
    rw [List.foldl_cons]
    have h2 := spread_facts M hOk k f n r.1 r.2 p hr (hl p (by simp))
    exact h2.trans (fold_facts M hOk k f n l _ (fun x hx => hl x (by simp [hx])) (h2.1.trans hr))
/-! ### The search -/
/-- The best match so far, the threads at a position looked at. -/
def scan (at_ : Nat) : List Th → Option (Nat × Nat) → Option (Nat × Nat)
  | [], b => b
  | t :: l, b => scan at_ l (if t.1 = 0 ∧ (∀ x, b = some x → t.2 ≤ x.1) then some (t.2, at_) else b)
/-- The threads behind a byte. -/
def step (M : List St) (n : Nat) (b : Option (Nat × Nat)) (c : UInt8) (k : Nat) : List Th → List Th × List Nat → List Th × List Nat
  | [], r => r
  | t :: l, r => if (∃ x, b = some x ∧ x.1 < t.2) then r else step M n b c k l (match M[t.1]? with
    | some (.rd f q) => if f c then spreadF M n r.1 r.2 q t.2 k else r
    | _ => r)
/-- The threads at a position. -/
def begin_ (M : List St) (n st : Nat) (anch : Bool) (at_ : Nat) (now : List Th) (mk : List Nat) (b : Option (Nat × Nat)) : List Th × List Nat := if b = none ∧ (at_ = 0 ∨ anch = false) then spreadF M n now mk st at_ (at_ + 1) else (now, mk)
/-- The search from a position on. -/
def findF (M : List St) (n st : Nat) (anch : Bool) : List UInt8 → Nat → List Th → List Nat → Option (Nat × Nat) → Option (Nat × Nat)
  | l, at_, now, mk, b =>
    match l with
    | [] => scan at_ (begin_ M n st anch at_ now mk b).1 b
    | c :: l' => if (begin_ M n st anch at_ now mk b).1 = [] ∧ ((scan at_ (begin_ M n st anch at_ now mk b).1 b).isSome = true ∨ anch = true) then scan at_ (begin_ M n st anch at_ now mk b).1 b else
      findF M n st anch l' (at_ + 1) (step M n (scan at_ (begin_ M n st anch at_ now mk b).1 b) c (at_ + 2) (begin_ M n st anch at_ now mk b).1 ([], (begin_ M n st anch at_ now mk b).2)).1 (step M n (scan at_ (begin_ M n st anch at_ now mk b).1 b) c (at_ + 2) (begin_ M n st anch at_ now mk b).1 ([], (begin_ M n st anch at_ now mk b).2)).2 (scan at_ (begin_ M n st anch at_ now mk b).1 b)
theorem step_facts (M : List St) (hOk : Ok M) (k n : Nat) (b : Option (Nat × Nat)) (c : UInt8) : ∀ (l : List Th) (r : List Th × List Nat), r.2.length = M.length → Fct k r.1 r.2 (step M n b c k l r)
  | [], r, _ => Fct.refl _ _ _
  | t :: l, r, hr => by
    simp only [step]
    split
    · exact Fct.refl _ _ _
    · split
      · rename_i f q he
        have hq : q < M.length := hOk _ _ he q (by simp [Nx])
        split
        · have h1 := spread_facts M hOk k t.2 n r.1 r.2 q hr hq
          exact h1.trans (step_facts M hOk k n b c l _ (h1.1.trans hr))
        · exact step_facts M hOk k n b c l _ hr
      · exact step_facts M hOk k n b c l _ hr
end Rx
end Go.Proofs.Ytheblleadjbndaa
