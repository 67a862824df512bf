/- Regular expressions as the chapter has them, in plain Lean: their structure and how they are read; no program. How much a reader of regular expressions takes: plain Lean. The machine of a regular expression, as a list of states: plain Lean. How a machine runs: the spreading of threads, plain Lean. The machine of an expression is in order; what Match and Find tell: plain Lean. What a tree matches, and that its machine accepts this: plain Lean. The search tells the leftmost longest match: plain Lean. The search tells the leftmost longest match: the loop. Plain Lean. How expressions in brackets are read: plain Lean. What the laws of expressions come to: plain Lean. What the laws of concatenation, repetition, searching and prefixes come to: plain Lean. -/
namespace Go.Proofs.Ytheblleadjbndaa

def digB (c : UInt8) : Bool := decide (48 ≤ c.toNat) && decide (c.toNat ≤ 57)
def letB (c : UInt8) : Bool := (decide (97 ≤ c.toNat) && decide (c.toNat ≤ 122)) || (decide (65 ≤ c.toNat) && decide (c.toNat ≤ 90))
def wordB (c : UInt8) : Bool := (letB c || digB c) || decide (c.toNat = 95)

namespace Rx
mutual
/-- A factor. -/
inductive U where
  | byte (c : UInt8)
  | cls (f : UInt8 → Bool)
  | grp (a : As)
  | star (u : U)
  | plus (u : U)
  | opt (u : U)
/-- A sequence of factors. -/
inductive Ss where
  | nil
  | cons (u : U) (s : Ss)
/-- Alternatives. -/
inductive As where
  | one (s : Ss)
  | more (s : Ss) (a : As)
end

def special (c : UInt8) : Bool := [46, 91, 93, 40, 41, 124, 42, 43, 63, 92].contains c
/-- The byte for which an escape stands. -/
def escB (c : UInt8) : Option UInt8 := if c = 110 then some 10 else if c = 116 then some 9 else if letB c || digB c then none else some c
def escU (c : UInt8) : Option U := if c = 110 then some (.byte 10) else if c = 116 then some (.byte 9) else if c = 100 then some (.cls digB) else if c = 119 then some (.cls wordB) else if letB c || digB c then none else some (.byte c)
/-- An item of a class. -/
def item : List UInt8 → Option (UInt8 × List UInt8)
  | [] => none
  | c :: r => if c = 93 then none else if c = 92 then (match r with | [] => none | d :: r' => (escB d).map fun b => (b, r')) else some (c, r)
def isRange : List UInt8 → Bool
  | a :: b :: _ => a == 45 && b != 93
  | _ => false
def add (g : UInt8 → Bool) (a b : UInt8) : UInt8 → Bool := fun c => g c || (decide (a.toNat ≤ c.toNat) && decide (c.toNat ≤ b.toNat))
/-- The last byte of an item or a range, and what follows. -/
def last (a : UInt8) (r : List UInt8) : Option (UInt8 × List UInt8) := if isRange r then (item r.tail).bind fun (b, r') => if b.toNat < a.toNat then none else some (b, r') else some (a, r)
def items : Nat → (UInt8 → Bool) → List UInt8 → Option ((UInt8 → Bool) × List UInt8)
  | 0, _, _ => none
  | n + 1, g, l => (item l).bind fun (a, r) => (last a r).bind fun (b, r') => match r' with | 93 :: r'' => some (add g a b, r'') | _ => items n (add g a b) r'
def bracket (l : List UInt8) : Option (U × List UInt8) :=
  match l with
  | 94 :: r => (items (r.length + 1) (fun _ => false) r).map fun (g, r') => (.cls (fun c => g c != true), r')
  | _ => (items (l.length + 1) (fun _ => false) l).map fun (g, r') => (.cls (fun c => g c != false), r')
def quant (u : U) (l : List UInt8) : U × List UInt8 :=
  match l with
  | 42 :: r => (.star u, r)
  | 43 :: r => (.plus u, r)
  | 63 :: r => (.opt u, r)
  | _ => (u, l)
mutual
def alts : Nat → List UInt8 → Option (As × List UInt8)
  | 0, _ => none
  | n + 1, l => (seqs n l).bind fun (s, r) => match r with | 124 :: r' => (alts n r').map fun (a, r'') => (.more s a, r'') | _ => some (.one s, r)
def seqs : Nat → List UInt8 → Option (Ss × List UInt8)
  | 0, _ => none
  | n + 1, l => match l with
    | [] => some (.nil, [])
    | c :: r => if c = 124 ∨ c = 41 then some (.nil, c :: r) else (atom n (c :: r)).bind fun (u, r1) => (seqs n (quant u r1).2).map fun (s, r2) => (.cons (quant u r1).1 s, r2)
def atom : Nat → List UInt8 → Option (U × List UInt8)
  | 0, _ => none
  | n + 1, l => match l with
    | [] => none
    | c :: r =>
      if c = 40 then (alts n r).bind fun (a, r') => match r' with | 41 :: r'' => some (.grp a, r'') | _ => none
      else if c = 91 then bracket r
      else if c = 46 then some (.cls fun _ => true, r)
      else if c = 92 then (match r with | [] => none | d :: r' => (escU d).map fun u => (u, r'))
      else if special c then none else some (.byte c, r)
end
/-- Steps that suffice to read so many bytes. -/
def fuel (n : Nat) : Nat := 4 * n + 4
def parse (l : List UInt8) : Option As := if 200 < l.length then none else match alts (fuel l.length) l with | some (a, []) => some a | _ => none
end Rx
end Go.Proofs.Ytheblleadjbndaa

namespace Go.Proofs.Ytheblleadjbndaa
namespace Rx
theorem item_short {l r : List UInt8} {a : UInt8} (h : item l = some (a, r)) : r.length < l.length := by
  rcases l with _ | ⟨c, l⟩
  · cases h
  · simp only [item] at h
    split at h
    · cases h
    · split at h
      · rcases l with _ | ⟨d, l⟩
        · cases h
        · simp only [Option.map_eq_some_iff, Prod.mk.injEq] at h
          obtain ⟨b, _, _, rfl⟩ := h
          simp; omega
      · simp only [Option.some.injEq, Prod.mk.injEq] at h
        obtain ⟨_, rfl⟩ := h
        simp
theorem last_short {a b : UInt8} {r r' : List UInt8} (h : last a r = some (b, r')) : r'.length ≤ r.length := by
  unfold last at h
  split at h
  · rw [Option.bind_eq_some_iff] at h
    obtain ⟨⟨x, t⟩, h1, h2⟩ := h
    simp only at h2
    split at h2
    · cases h2
    · injection h2 with h2
      injection h2 with _ h2
      subst h2
      have := item_short h1
      simp at this
      omega
  · injection h with h
    injection h with _ h
    subst h
    exact Nat.le_refl _
theorem items_short (n : Nat) : ∀ (g f : UInt8 → Bool) (l r : List UInt8), items n g l = some (f, r) → r.length < l.length := by
  induction n with
  | zero => intro g f l r h; cases h
  | succ n ih =>
    intro g f l r h
    rw [items, Option.bind_eq_some_iff] at h
    obtain ⟨⟨a, r1⟩, h1, h⟩ := h
    simp only at h
    rw [Option.bind_eq_some_iff] at h
    obtain ⟨⟨b, r2⟩, h2, h⟩ := h
    have e1 := item_short h1
    have e2 := last_short h2
    simp only at h
    split at h
    · injection h with h
      injection h with _ h
      subst h
      simp only [List.length_cons] at e2
      omega
    · have := ih _ _ _ _ h
      omega
theorem bracket_short {l r : List UInt8} {u : U} (h : bracket l = some (u, r)) : r.length < l.length := by
  unfold bracket at h
  split at h
  · rw [Option.map_eq_some_iff] at h
    obtain ⟨⟨g, t⟩, h1, h2⟩ := h
    injection h2 with _ h2
    subst h2
    have := items_short _ _ _ _ _ h1
    simp; omega
  · rw [Option.map_eq_some_iff] at h
    obtain ⟨⟨g, t⟩, h1, h2⟩ := h
    injection h2 with _ h2
    subst h2
    exact items_short _ _ _ _ _ h1
theorem quant_short (u : U) (l : List UInt8) : (quant u l).2.length ≤ l.length := by
  unfold quant
  split <;> simp
theorem short (n : Nat) : (∀ (l r : List UInt8) (a : As), alts n l = some (a, r) → r.length ≤ l.length) ∧ (∀ (l r : List UInt8) (s : Ss), seqs n l = some (s, r) → r.length ≤ l.length) ∧ (∀ (l r : List UInt8) (u : U), atom n l = some (u, r) → r.length < l.length) := by
  induction n with
  | zero => exact ⟨fun _ _ _ h => by simp [alts] at h, fun _ _ _ h => by simp [seqs] at h, fun _ _ _ h => by simp [atom] at h⟩
  | succ n ih =>
    obtain ⟨iA, iS, iU⟩ := ih
    refine ⟨?_, ?_, ?_⟩
    · intro l r a h
      rw [alts, Option.bind_eq_some_iff] at h
      obtain ⟨⟨s, r1⟩, h1, h⟩ := h
      have e1 := iS _ _ _ h1
      simp only at h
      split at h
      · rw [Option.map_eq_some_iff] at h
        obtain ⟨⟨a2, r2⟩, h2, h3⟩ := h
        injection h3 with _ h3
        subst h3
        have e2 := iA _ _ _ h2
        simp only [List.length_cons] at e1 e2 ⊢
        omega
      · injection h with h
        injection h with _ h
        subst h
        exact e1
    · intro l r s h
      rcases l with _ | ⟨c, t⟩
      · simp only [seqs] at h
        injection h with h
        injection h with _ h
        subst h
        exact Nat.le_refl _
      · simp only [seqs] at h
        split at h
        · injection h with h
          injection h with _ h
          subst h
          exact Nat.le_refl _
        · rw [Option.bind_eq_some_iff] at h
          obtain ⟨⟨u, r1⟩, h1, h⟩ := h
          rw [Option.map_eq_some_iff] at h
          obtain ⟨⟨a2, r2⟩, h2, h3⟩ := h
          injection h3 with _ h3
          subst h3
          have e1 := iU _ _ _ h1
          have e2 := iS _ _ _ h2
          have e3 := quant_short u r1
          simp only at e2 e3 ⊢
          omega
    · intro l r u h
      rcases l with _ | ⟨c, t⟩
      · simp [atom] at h
      · simp only [atom] at h
        split at h
        · rw [Option.bind_eq_some_iff] at h
          obtain ⟨⟨a, r1⟩, h1, h⟩ := h
          have e1 := iA _ _ _ h1
          simp only at h
          split at h
          · injection h with h
            injection h with _ h
            subst h
            simp only [List.length_cons] at e1 ⊢
            omega
          · cases h
        · split at h
          · have := bracket_short h
            simp; omega
          · split at h
            · injection h with h
              injection h with _ h
              subst h
              simp
            · split at h
              · split at h
                · cases h
                · rw [Option.map_eq_some_iff] at h
                  obtain ⟨_, _, h3⟩ := h
                  injection h3 with _ h3
                  subst h3
                  simp; omega
              · split at h
                · cases h
                · injection h with h
                  injection h with _ h
                  subst h
                  simp

/-- Factors behind factors. -/
def cat : Ss → Ss → Ss
  | .nil, s => s
  | .cons u d, s => .cons u (cat d s)
theorem cat_snoc (d : Ss) (u : U) (s : Ss) : cat (cat d (.cons u .nil)) s = cat d (.cons u s) := by
  induction d using Ss.rec (motive_1 := fun _ => True) (motive_3 := fun _ => True) with
  | nil => rfl
  | cons u' d _ ih => simp only [cat, ih]
  | _ => trivial
theorem cat_nil (d : Ss) : cat d .nil = d := by
  induction d using Ss.rec (motive_1 := fun _ => True) (motive_3 := fun _ => True) with
  | nil => rfl
  | cons u' d _ ih => simp only [cat, ih]
  | _ => trivial
/-- Sequences ahead of alternatives. -/
def ahd : List Ss → As → As
  | [], a => a
  | s :: l, a => .more s (ahd l a)
theorem ahd_snoc (l : List Ss) (s : Ss) (a : As) : ahd (l ++ [s]) a = ahd l (.more s a) := by
  induction l with
  | nil => rfl
  | cons x l ih => simp only [List.cons_append, ahd, ih]
end Rx
end Go.Proofs.Ytheblleadjbndaa

namespace Go.Proofs.Ytheblleadjbndaa
/-- A state of a machine. -/
inductive St where
  | rd (f : UInt8 → Bool) (q : Nat)
  | ep (qs : List Nat)
namespace Rx
mutual
/-- The states of a tree that is followed by the state q: the one with which it begins, and all states. -/
def addU : U → List St → Nat → Nat × List St
  | .byte c, M, q => (M.length, M ++ [.rd (fun x => x == c) q])
  | .cls f, M, q => (M.length, M ++ [.rd f q])
  | .grp a, M, q => addA a M q
  | .star u, M, q => (M.length, (addU u (M ++ [.ep []]) M.length).2.set M.length (.ep [(addU u (M ++ [.ep []]) M.length).1, q]))
  | .plus u, M, q => ((addU u (M ++ [.ep []]) M.length).1, (addU u (M ++ [.ep []]) M.length).2.set M.length (.ep [(addU u (M ++ [.ep []]) M.length).1, q]))
  | .opt u, M, q => ((addU u M q).2.length, (addU u M q).2 ++ [.ep [(addU u M q).1, q]])
def addA : As → List St → Nat → Nat × List St
  | .one s, M, q => addS s M q
  | .more s a, M, q => ((addL a (addS s M q).2 q).2.length, (addL a (addS s M q).2 q).2 ++ [.ep ((addS s M q).1 :: (addL a (addS s M q).2 q).1)])
def addL : As → List St → Nat → List Nat × List St
  | .one s, M, q => ([(addS s M q).1], (addS s M q).2)
  | .more s a, M, q => ((addS s M q).1 :: (addL a (addS s M q).2 q).1, (addL a (addS s M q).2 q).2)
def addS : Ss → List St → Nat → Nat × List St
  | .nil, M, q => (q, M)
  | .cons u s, M, q => addU u (addS s M q).2 (addS s M q).1
end
mutual
/-- How many states a tree has. -/
def szU : U → Nat
  | .byte _ => 1
  | .cls _ => 1
  | .grp a => szA a + 1
  | .star u => szU u + 1
  | .plus u => szU u + 1
  | .opt u => szU u + 1
def szA : As → Nat
  | .one s => szS s
  | .more s a => szS s + szA a + 1
def szS : Ss → Nat
  | .nil => 0
  | .cons u s => szU u + szS s
end
mutual
theorem addU_len : ∀ (u : U) (M : List St) (q : Nat), M.length ≤ (addU u M q).2.length ∧ (addU u M q).2.length ≤ M.length + szU u
  | .byte c, M, q => by simp [addU, szU]
  | .cls f, M, q => by simp [addU, szU]
  | .grp a, M, q => by
    have := addA_len a M q
    simp only [addU, szU]; omega
  | .star u, M, q => by
    have := addU_len u (M ++ [.ep []]) M.length
    simp only [List.length_append, List.length_singleton] at this
    simp only [addU, szU, List.length_set]; omega
  | .plus u, M, q => by
    have := addU_len u (M ++ [.ep []]) M.length
    simp only [List.length_append, List.length_singleton] at this
    simp only [addU, szU, List.length_set]; omega
  | .opt u, M, q => by
    have := addU_len u M q
    simp only [addU, szU, List.length_append, List.length_singleton]; omega
theorem addA_len : ∀ (a : As) (M : List St) (q : Nat), M.length ≤ (addA a M q).2.length ∧ (addA a M q).2.length ≤ M.length + szA a + 1
  | .one s, M, q => by
    have := addS_len s M q
    simp only [addA, szA]; omega
  | .more s a, M, q => by
    have h1 := addS_len s M q
    have h2 := addL_len a (addS s M q).2 q
    simp only [addA, szA, List.length_append, List.length_singleton]; omega
theorem addL_len : ∀ (a : As) (M : List St) (q : Nat), M.length ≤ (addL a M q).2.length ∧ (addL a M q).2.length ≤ M.length + szA a
  | .one s, M, q => by
    have := addS_len s M q
    simp only [addL, szA]; omega
  | .more s a, M, q => by
    have h1 := addS_len s M q
    have h2 := addL_len a (addS s M q).2 q
    simp only [addL, szA]; omega
theorem addS_len : ∀ (s : Ss) (M : List St) (q : Nat), M.length ≤ (addS s M q).2.length ∧ (addS s M q).2.length ≤ M.length + szS s
  | .nil, M, q => by simp [addS, szS]
  | .cons u s, M, q => by
    have h1 := addS_len s M q
    have h2 := addU_len u (addS s M q).2 (addS s M q).1
    simp only [addS, szS]; omega
end
theorem get_set_len {M : List St} {n i : Nat} {s : St} (h : i < n) : (M.set n s)[i]? = M[i]? := by
  rw [List.getElem?_set_ne (by omega)]
theorem get_app {M : List St} {i : Nat} {l : List St} (h : i < M.length) : (M ++ l)[i]? = M[i]? := List.getElem?_append_left h
mutual
/-- What was there stays. -/
theorem addU_old : ∀ (u : U) (M : List St) (q : Nat) (i : Nat), i < M.length → (addU u M q).2[i]? = M[i]?
  | .byte c, M, q, i, h => by simp only [addU]; exact get_app h
  | .cls f, M, q, i, h => by simp only [addU]; exact get_app h
  | .grp a, M, q, i, h => by simp only [addU]; exact addA_old a M q i h
  | .star u, M, q, i, h => by
    simp only [addU]
    rw [get_set_len h, addU_old u _ _ i (by simp; omega), get_app h]
  | .plus u, M, q, i, h => by
    simp only [addU]
    rw [get_set_len h, addU_old u _ _ i (by simp; omega), get_app h]
  | .opt u, M, q, i, h => by
    simp only [addU]
    have := (addU_len u M q).1
    rw [get_app (by omega), addU_old u _ _ i h]
theorem addA_old : ∀ (a : As) (M : List St) (q : Nat) (i : Nat), i < M.length → (addA a M q).2[i]? = M[i]?
  | .one s, M, q, i, h => by simp only [addA]; exact addS_old s M q i h
  | .more s a, M, q, i, h => by
    simp only [addA]
    have h1 := (addS_len s M q).1
    have h2 := (addL_len a (addS s M q).2 q).1
    rw [get_app (by omega), addL_old a _ _ i (by omega), addS_old s _ _ i h]
theorem addL_old : ∀ (a : As) (M : List St) (q : Nat) (i : Nat), i < M.length → (addL a M q).2[i]? = M[i]?
  | .one s, M, q, i, h => by simp only [addL]; exact addS_old s M q i h
  | .more s a, M, q, i, h => by
    simp only [addL]
    have h1 := (addS_len s M q).1
    rw [addL_old a _ _ i (by omega), addS_old s _ _ i h]
theorem addS_old : ∀ (s : Ss) (M : List St) (q : Nat) (i : Nat), i < M.length → (addS s M q).2[i]? = M[i]?
  | .nil, M, q, i, h => by simp only [addS]
  | .cons u s, M, q, i, h => by
    simp only [addS]
    have h1 := (addS_len s M q).1
    rw [addU_old u _ _ i (by omega), addS_old s _ _ i h]
end
mutual
/-- The state with which a tree begins is one of its own, or the one that follows. -/
theorem addU_at : ∀ (u : U) (M : List St) (q : Nat), (addU u M q).1 < (addU u M q).2.length ∨ (addU u M q).1 = q
  | .byte c, M, q => by simp [addU]
  | .cls f, M, q => by simp [addU]
  | .grp a, M, q => by simp only [addU]; exact addA_at a M q
  | .star u, M, q => by
    have := (addU_len u (M ++ [.ep []]) M.length).1
    simp only [List.length_append, List.length_singleton] at this
    simp only [addU, List.length_set]; omega
  | .plus u, M, q => by
    have := (addU_len u (M ++ [.ep []]) M.length).1
    have h2 := addU_at u (M ++ [.ep []]) M.length
    simp only [List.length_append, List.length_singleton] at this
    simp only [addU, List.length_set]; omega
  | .opt u, M, q => by simp [addU]
theorem addA_at : ∀ (a : As) (M : List St) (q : Nat), (addA a M q).1 < (addA a M q).2.length ∨ (addA a M q).1 = q
  | .one s, M, q => by simp only [addA]; exact addS_at s M q
  | .more s a, M, q => by simp [addA]
theorem addS_at : ∀ (s : Ss) (M : List St) (q : Nat), (addS s M q).1 < (addS s M q).2.length ∨ (addS s M q).1 = q
  | .nil, M, q => by simp [addS]
  | .cons u s, M, q => by
    have h1 := addS_at s M q
    have h2 := addU_at u (addS s M q).2 (addS s M q).1
    have h3 := (addU_len u (addS s M q).2 (addS s M q).1).1
    simp only [addS]; omega
end
theorem szU_byte_pos (u : U) : 1 ≤ szU u := by
  cases u <;> simp [szU]

/-! ### How large a tree is that was read -/
theorem cat_sz (d s : Ss) : szS (cat d s) = szS d + szS s := by
  induction d using Ss.rec (motive_1 := fun _ => True) (motive_3 := fun _ => True) with
  | nil => simp [cat, szS]
  | cons u' d _ ih => simp only [cat, szS, ih]; omega
  | _ => trivial
theorem escU_sz {d : UInt8} {u : U} (h : escU d = some u) : szU u = 1 := by
  unfold escU at h
  repeat' split at h
  all_goals (cases h <;> simp [szU])
theorem bracket_sz {l r : List UInt8} {u : U} (h : bracket l = some (u, r)) : szU u = 1 := by
  unfold bracket at h
  split at h
  all_goals
    rw [Option.map_eq_some_iff] at h
    obtain ⟨⟨g, t⟩, h1, h2⟩ := h
    injection h2 with h2 _
    subst h2
    simp [szU]
theorem quant_sz (u : U) (l : List UInt8) : szU (quant u l).1 + (quant u l).2.length ≤ szU u + l.length := by
  unfold quant
  split <;> simp [szU] <;> omega
/-- Each byte read makes one state at most. -/
theorem sized (n : Nat) : (∀ (l r : List UInt8) (a : As), alts n l = some (a, r) → szA a + r.length ≤ l.length) ∧ (∀ (l r : List UInt8) (s : Ss), seqs n l = some (s, r) → szS s + r.length ≤ l.length) ∧ (∀ (l r : List UInt8) (u : U), atom n l = some (u, r) → szU u + r.length ≤ l.length) := by
  induction n with
  | zero => exact ⟨fun _ _ _ h => by simp [alts] at h, fun _ _ _ h => by simp [seqs] at h, fun _ _ _ h => by simp [atom] at h⟩
  | succ n ih =>
    obtain ⟨iA, iS, iU⟩ := ih
    refine ⟨?_, ?_, ?_⟩
    · intro l r a h
      rw [alts, Option.bind_eq_some_iff] at h
      obtain ⟨⟨s, r1⟩, h1, h⟩ := h
      have e1 := iS _ _ _ h1
      simp only at h
      split at h
      · rw [Option.map_eq_some_iff] at h
        obtain ⟨⟨a2, r2⟩, h2, h3⟩ := h
        injection h3 with h3 h4
        subst h3 h4
        have e2 := iA _ _ _ h2
        simp only [szA, List.length_cons] at e1 e2 ⊢
        omega
      · injection h with h
        injection h with h h4
        subst h h4
        exact e1
    · intro l r s h
      rcases l with _ | ⟨c, t⟩
      · simp only [seqs] at h
        injection h with h
        injection h with h h4
        subst h h4
        simp [szS]
      · simp only [seqs] at h
        split at h
        · injection h with h
          injection h with h h4
          subst h h4
          simp [szS]
        · rw [Option.bind_eq_some_iff] at h
          obtain ⟨⟨u, r1⟩, h1, h⟩ := h
          rw [Option.map_eq_some_iff] at h
          obtain ⟨⟨a2, r2⟩, h2, h3⟩ := h
          injection h3 with h3 h4
          subst h3 h4
          have e1 := iU _ _ _ h1
          have e2 := iS _ _ _ h2
          have e3 := quant_sz u r1
          simp only [szS] at e1 e2 e3 ⊢
          omega
    · intro l r u h
      rcases l with _ | ⟨c, t⟩
      · simp [atom] at h
      · simp only [atom] at h
        split at h
        · rw [Option.bind_eq_some_iff] at h
          obtain ⟨⟨a, r1⟩, h1, h⟩ := h
          have e1 := iA _ _ _ h1
          simp only at h
          split at h
          · injection h with h
            injection h with h h4
            subst h h4
            simp only [szU, List.length_cons] at e1 ⊢
            omega
          · cases h
        · split at h
          · have h1 := bracket_short h
            have h2 := bracket_sz h
            simp; omega
          · split at h
            · injection h with h
              injection h with h h4
              subst h h4
              simp [szU]; omega
            · split at h
              · split at h
                · cases h
                · rw [Option.map_eq_some_iff] at h
                  obtain ⟨_, h2, h3⟩ := h
                  injection h3 with h3 h4
                  subst h3 h4
                  have := escU_sz h2
                  simp; omega
              · split at h
                · cases h
                · injection h with h
                  injection h with h h4
                  subst h h4
                  simp [szU]; omega
theorem parse_sz {l : List UInt8} {a : As} (h : parse l = some a) : szA a ≤ 200 := by
  unfold parse at h
  split at h
  · cases h
  · rename_i hl
    split at h
    · rename_i a' h1
      injection h with h
      subst h
      have := (sized _).1 _ _ _ h1
      simp at this
      omega
    · cases h
end Rx
end Go.Proofs.Ytheblleadjbndaa

namespace Go.Proofs.Ytheblleadjbndaa
namespace Rx
/-- A state with the position at which its match begins. -/
abbrev Th := Nat × Nat
/-- A set of threads with a further one, and all that it reaches without reading, and the marks. -/
def spreadF (M : List St) : Nat → List Th → List Nat → Nat → Nat → Nat → List Th × List Nat
  | 0, ts, mk, _, _, _ => (ts, mk)
  | n + 1, ts, mk, q, f, k =>
    if mk[q]? = some k then (ts, mk) else
    match M[q]? with
    | some (.ep qs) => if q = 0 then (ts ++ [(q, f)], mk.set q k) else qs.foldl (fun r p => spreadF M n r.1 r.2 p f k) (ts, mk.set q k)
    | _ => (ts ++ [(q, f)], mk.set q k)
/-- All next states are there. -/
def Nx : St → List Nat
  | .rd _ q => [q]
  | .ep qs => qs
def Ok (M : List St) : Prop := ∀ (i : Nat) (s : St), M[i]? = some s → ∀ q ∈ Nx s, q < M.length
/-- How many states are not marked. -/
def free (k : Nat) (mk : List Nat) : Nat := mk.countP (fun x => x != k)
theorem free_set {k : Nat} {mk : List Nat} {q : Nat} (h : q < mk.length) (h2 : mk[q]? ≠ some k) : free k (mk.set q k) + 1 = free k mk := by
  unfold free
  induction mk generalizing q with
  | nil => simp at h
  | cons a mk ih =>
    rcases q with _ | q
    · simp only [List.getElem?_cons_zero] at h2
      have ha : a ≠ k := fun e => h2 (by rw [e])
      simp [ha]
    · simp only [List.getElem?_cons_succ, List.length_cons] at h2 h
      have := ih (q := q) (by omega) h2
      simp only [List.set_cons_succ, List.countP_cons]
      omega
/-- The bounds of a spreading. -/
def Fct (k : Nat) (ts : List Th) (mk : List Nat) (r : List Th × List Nat) : Prop := r.2.length = mk.length ∧ free k r.2 ≤ free k mk ∧ r.1.length + free k r.2 ≤ ts.length + free k mk
theorem Fct.refl (k : Nat) (ts : List Th) (mk : List Nat) : Fct k ts mk (ts, mk) := ⟨rfl, Nat.le_refl _, Nat.le_refl _⟩
theorem Fct.trans {k : Nat} {ts : List Th} {mk : List Nat} {r r' : List Th × List Nat} (h : Fct k ts mk r) (h2 : Fct k r.1 r.2 r') : Fct k ts mk r' :=
  ⟨h2.1.trans h.1, Nat.le_trans h2.2.1 h.2.1, Nat.le_trans h2.2.2 h.2.2⟩
theorem spread_facts (M : List St) (hOk : Ok M) (k f : Nat) : ∀ (n : Nat) (ts : List Th) (mk : List Nat) (q : Nat), mk.length = M.length → q < M.length → Fct k ts mk (spreadF M n ts mk q f k) := by
  intro n
  induction n with
  | zero => intro ts mk q _ _; exact Fct.refl _ _ _
  | succ n ih =>
    intro ts mk q hm hq
    simp only [spreadF]
    by_cases h : mk[q]? = some k
    · rw [if_pos h]; exact Fct.refl _ _ _
    · rw [if_neg h]
      have hf := free_set (k := k) (mk := mk) (q := q) (by omega) h
      have h0 : Fct k ts mk (ts ++ [(q, f)], mk.set q k) := ⟨by simp, by simp only; omega, by simp only [List.length_append, List.length_singleton]; omega⟩
      split
      · rename_i qs he
        split
        · exact h0
        · have h1 : Fct k ts mk (ts, mk.set q k) := ⟨by simp, by simp only; omega, by simp only; omega⟩
          have hin : ∀ p ∈ qs, p < M.length := hOk q _ he
          have : ∀ (l : List Nat) (r : List Th × List Nat), (∀ p ∈ l, p < M.length) → Fct k ts mk r → r.2.length = M.length → Fct k ts mk (l.foldl (fun r p => spreadF M n r.1 r.2 p f k) r) := by
            intro l
            induction l with
            | nil => intro r _ h _; exact h
            | cons p l ihl =>
              intro r hl h hr
              rw [List.foldl_cons]
              have h2 := ih r.1 r.2 p hr (hl p (by simp))
              exact ihl _ (fun x hx => hl x (by simp [hx])) (h.trans h2) (h2.1.trans hr)
          exact this qs _ hin h1 (by simp [hm])
      · exact h0
/-- The same along a list of states. -/
theorem fold_facts (M : List St) (hOk : Ok M) (k f n : Nat) : ∀ (l : List Nat) (r : List Th × List Nat), (∀ p ∈ l, p < M.length) → r.2.length = M.length → Fct k r.1 r.2 (l.foldl (fun r p => spreadF M n r.1 r.2 p f k) r)
  | [], r, _, _ => Fct.refl _ _ _
  | p :: l, r, hl, hr => by
    rw [List.foldl_cons]
    have h2 := spread_facts M hOk k f n r.1 r.2 p hr (hl p (by simp))
    exact h2.trans (fold_facts M hOk k f n l _ (fun x hx => hl x (by simp [hx])) (h2.1.trans hr))
/-! ### The search -/
/-- The best match so far, the threads at a position looked at. -/
def scan (at_ : Nat) : List Th → Option (Nat × Nat) → Option (Nat × Nat)
  | [], b => b
  | t :: l, b => scan at_ l (if t.1 = 0 ∧ (∀ x, b = some x → t.2 ≤ x.1) then some (t.2, at_) else b)
/-- The threads behind a byte. -/
def step (M : List St) (n : Nat) (b : Option (Nat × Nat)) (c : UInt8) (k : Nat) : List Th → List Th × List Nat → List Th × List Nat
  | [], r => r
  | t :: l, r => if (∃ x, b = some x ∧ x.1 < t.2) then r else step M n b c k l (match M[t.1]? with
    | some (.rd f q) => if f c then spreadF M n r.1 r.2 q t.2 k else r
    | _ => r)
/-- The threads at a position. -/
def begin_ (M : List St) (n st : Nat) (anch : Bool) (at_ : Nat) (now : List Th) (mk : List Nat) (b : Option (Nat × Nat)) : List Th × List Nat := if b = none ∧ (at_ = 0 ∨ anch = false) then spreadF M n now mk st at_ (at_ + 1) else (now, mk)
/-- The search from a position on. -/
def findF (M : List St) (n st : Nat) (anch : Bool) : List UInt8 → Nat → List Th → List Nat → Option (Nat × Nat) → Option (Nat × Nat)
  | l, at_, now, mk, b =>
    match l with
    | [] => scan at_ (begin_ M n st anch at_ now mk b).1 b
    | c :: l' => if (begin_ M n st anch at_ now mk b).1 = [] ∧ ((scan at_ (begin_ M n st anch at_ now mk b).1 b).isSome = true ∨ anch = true) then scan at_ (begin_ M n st anch at_ now mk b).1 b else
      findF M n st anch l' (at_ + 1) (step M n (scan at_ (begin_ M n st anch at_ now mk b).1 b) c (at_ + 2) (begin_ M n st anch at_ now mk b).1 ([], (begin_ M n st anch at_ now mk b).2)).1 (step M n (scan at_ (begin_ M n st anch at_ now mk b).1 b) c (at_ + 2) (begin_ M n st anch at_ now mk b).1 ([], (begin_ M n st anch at_ now mk b).2)).2 (scan at_ (begin_ M n st anch at_ now mk b).1 b)
theorem step_facts (M : List St) (hOk : Ok M) (k n : Nat) (b : Option (Nat × Nat)) (c : UInt8) : ∀ (l : List Th) (r : List Th × List Nat), r.2.length = M.length → Fct k r.1 r.2 (step M n b c k l r)
  | [], r, _ => Fct.refl _ _ _
  | t :: l, r, hr => by
    simp only [step]
    split
    · exact Fct.refl _ _ _
    · split
      · rename_i f q he
        have hq : q < M.length := hOk _ _ he q (by simp [Nx])
        split
        · have h1 := spread_facts M hOk k t.2 n r.1 r.2 q hr hq
          exact h1.trans (step_facts M hOk k n b c l _ (h1.1.trans hr))
        · exact step_facts M hOk k n b c l _ hr
      · exact step_facts M hOk k n b c l _ hr
end Rx
end Go.Proofs.Ytheblleadjbndaa

namespace Go.Proofs.Ytheblleadjbndaa
namespace Rx
theorem Ok.app {M : List St} {s : St} (h : Ok M) (hs : ∀ q ∈ Nx s, q < M.length + 1) : Ok (M ++ [s]) := by
  intro i t hi q hq
  rw [List.length_append, List.length_singleton]
  by_cases e : i < M.length
  · rw [List.getElem?_append_left e] at hi
    have := h i t hi q hq
    omega
  · have e2 : i = M.length := by
      have := (List.getElem?_eq_some_iff.1 hi).1
      simp at this; omega
    subst e2
    simp at hi
    subst hi
    exact hs q hq
theorem Ok.set {M : List St} {s : St} (h : Ok M) (n : Nat) (hs : ∀ q ∈ Nx s, q < M.length) : Ok (M.set n s) := by
  intro i t hi q hq
  rw [List.length_set]
  by_cases e : n = i
  · subst e
    have hl := (List.getElem?_eq_some_iff.1 hi).1
    rw [List.length_set] at hl
    rw [List.getElem?_set_self hl] at hi
    injection hi with hi
    subst hi
    exact hs q hq
  · rw [List.getElem?_set_ne e] at hi
    exact h i t hi q hq
theorem addU_lt (u : U) (M : List St) (q : Nat) (hq : q < M.length) : (addU u M q).1 < (addU u M q).2.length := by
  have := addU_len u M q
  rcases addU_at u M q with h | h <;> omega
theorem addA_lt (a : As) (M : List St) (q : Nat) (hq : q < M.length) : (addA a M q).1 < (addA a M q).2.length := by
  have := addA_len a M q
  rcases addA_at a M q with h | h <;> omega
theorem addS_lt (s : Ss) (M : List St) (q : Nat) (hq : q < M.length) : (addS s M q).1 < (addS s M q).2.length := by
  have := addS_len s M q
  rcases addS_at s M q with h | h <;> omega
theorem addL_lt : ∀ (a : As) (M : List St) (q : Nat), q < M.length → ∀ x ∈ (addL a M q).1, x < (addL a M q).2.length
  | .one s, M, q, hq, x, hx => by
    simp only [addL, List.mem_singleton] at hx ⊢
    subst hx
    exact addS_lt s M q hq
  | .more s a, M, q, hq, x, hx => by
    have h1 := addS_lt s M q hq
    have h2 := (addS_len s M q).1
    have h3 := (addL_len a (addS s M q).2 q).1
    simp only [addL, List.mem_cons] at hx ⊢
    rcases hx with rfl | hx
    · omega
    · exact addL_lt a _ q (by omega) x hx
mutual
theorem addU_ok : ∀ (u : U) (M : List St) (q : Nat), Ok M → q < M.length → Ok (addU u M q).2
  | .byte c, M, q, h, hq => by simp only [addU]; exact h.app (by simp [Nx]; omega)
  | .cls f, M, q, h, hq => by simp only [addU]; exact h.app (by simp [Nx]; omega)
  | .grp a, M, q, h, hq => by simp only [addU]; exact addA_ok a M q h hq
  | .star u, M, q, h, hq => by
    simp only [addU]
    have h1 := addU_ok u (M ++ [.ep []]) M.length (h.app (by simp [Nx])) (by simp)
    have h2 := addU_lt u (M ++ [.ep []]) M.length (by simp)
    have h3 := (addU_len u (M ++ [.ep []]) M.length).1
    simp only [List.length_append, List.length_singleton] at h3
    exact h1.set _ (by simp only [Nx, List.mem_cons, List.not_mem_nil, or_false]; rintro x (rfl | rfl) <;> omega)
  | .plus u, M, q, h, hq => by
    simp only [addU]
    have h1 := addU_ok u (M ++ [.ep []]) M.length (h.app (by simp [Nx])) (by simp)
    have h2 := addU_lt u (M ++ [.ep []]) M.length (by simp)
    have h3 := (addU_len u (M ++ [.ep []]) M.length).1
    simp only [List.length_append, List.length_singleton] at h3
    exact h1.set _ (by simp only [Nx, List.mem_cons, List.not_mem_nil, or_false]; rintro x (rfl | rfl) <;> omega)
  | .opt u, M, q, h, hq => by
    simp only [addU]
    have h1 := addU_ok u M q h hq
    have h2 := addU_lt u M q hq
    have h3 := (addU_len u M q).1
    exact h1.app (by simp only [Nx, List.mem_cons, List.not_mem_nil, or_false]; rintro x (rfl | rfl) <;> omega)
theorem addA_ok : ∀ (a : As) (M : List St) (q : Nat), Ok M → q < M.length → Ok (addA a M q).2
  | .one s, M, q, h, hq => by simp only [addA]; exact addS_ok s M q h hq
  | .more s a, M, q, h, hq => by
    simp only [addA]
    have h1 := addS_lt s M q hq
    have h2 := (addS_len s M q).1
    have h3 := (addL_len a (addS s M q).2 q).1
    refine (addL_ok a _ q (addS_ok s M q h hq) (by omega)).app ?_
    simp only [Nx, List.mem_cons]
    rintro x (rfl | hx)
    · omega
    · have := addL_lt a (addS s M q).2 q (by omega) x hx
      omega
theorem addL_ok : ∀ (a : As) (M : List St) (q : Nat), Ok M → q < M.length → Ok (addL a M q).2
  | .one s, M, q, h, hq => by simp only [addL]; exact addS_ok s M q h hq
  | .more s a, M, q, h, hq => by
    simp only [addL]
    have h2 := (addS_len s M q).1
    exact addL_ok a _ q (addS_ok s M q h hq) (by omega)
theorem addS_ok : ∀ (s : Ss) (M : List St) (q : Nat), Ok M → q < M.length → Ok (addS s M q).2
  | .nil, M, q, h, hq => by simp only [addS]; exact h
  | .cons u s, M, q, h, hq => by
    simp only [addS]
    exact addU_ok u _ _ (addS_ok s M q h hq) (addS_lt s M q hq)
end
/-- An expression's machine. -/
def mach (a : As) : Nat × List St := addA a [.ep []] 0
theorem mach_ok (a : As) : Ok (mach a).2 := addA_ok a _ _ (fun i s hi q hq => by
  rcases i with _ | i
  · simp at hi; subst hi; simp [Nx] at hq
  · simp at hi) (by simp)
theorem mach_lt (a : As) : (mach a).1 < (mach a).2.length := addA_lt a _ _ (by simp)
theorem mach_len (a : As) : (mach a).2.length ≤ szA a + 2 := by
  have := (addA_len a [.ep []] 0).2
  simp only [List.length_singleton] at this
  unfold mach; omega
/-- What a search tells. -/
def search (a : As) (anch : Bool) (l : List UInt8) : Option (Nat × Nat) := findF (mach a).2 ((mach a).2.length + 1) (mach a).1 anch l 0 [] (List.replicate (mach a).2.length 0) none
def matchR (p l : List UInt8) : Bool := match parse p with
  | none => false
  | some a => match search a true l with
    | none => false
    | some x => x.2 == l.length
def findR (p l : List UInt8) : Option (Nat × Nat) := (parse p).bind fun a => search a false l
def checkR (p : List UInt8) : Nat := if 200 < p.length then 4 else if (parse p).isSome then 0 else 3
end Rx
end Go.Proofs.Ytheblleadjbndaa

namespace Go.Proofs.Ytheblleadjbndaa
namespace Rx
/-- Strings that consist of strings of a language. -/
inductive Star (L : List UInt8 → Prop) : List UInt8 → Prop
  | nil : Star L []
  | cons (x y : List UInt8) : L x → Star L y → Star L (x ++ y)
mutual
/-- What a factor matches. -/
def MU : U → List UInt8 → Prop
  | .byte c, w => w = [c]
  | .cls f, w => ∃ c, w = [c] ∧ f c = true
  | .grp a, w => MA a w
  | .star u, w => Star (MU u) w
  | .plus u, w => ∃ x y, w = x ++ y ∧ MU u x ∧ Star (MU u) y
  | .opt u, w => w = [] ∨ MU u w
/-- What alternatives match. -/
def MA : As → List UInt8 → Prop
  | .one s, w => MS s w
  | .more s a, w => MS s w ∨ MA a w
/-- What a sequence matches. -/
def MS : Ss → List UInt8 → Prop
  | .nil, w => w = []
  | .cons u s, w => ∃ x y, w = x ++ y ∧ MU u x ∧ MS s y
end
/-- From the state i a machine gets to state 0 in n steps, reading w. -/
def AccN (N : List St) : Nat → Nat → List UInt8 → Prop
  | 0, i, w => i = 0 ∧ w = []
  | n + 1, i, w => (∃ f q c w', N[i]? = some (.rd f q) ∧ w = c :: w' ∧ f c = true ∧ AccN N n q w') ∨ (∃ qs q, N[i]? = some (.ep qs) ∧ q ∈ qs ∧ AccN N n q w)
def Acc (N : List St) (i : Nat) (w : List UInt8) : Prop := ∃ n, AccN N n i w
theorem Acc.rd {N : List St} {i q : Nat} {f : UInt8 → Bool} {c : UInt8} {w : List UInt8} (h : N[i]? = some (.rd f q)) (hc : f c = true) (ha : Acc N q w) : Acc N i (c :: w) := by
  obtain ⟨n, ha⟩ := ha
  exact ⟨n + 1, .inl ⟨f, q, c, w, h, rfl, hc, ha⟩⟩
theorem Acc.ep {N : List St} {i q : Nat} {qs : List Nat} {w : List UInt8} (h : N[i]? = some (.ep qs)) (hq : q ∈ qs) (ha : Acc N q w) : Acc N i w := by
  obtain ⟨n, ha⟩ := ha
  exact ⟨n + 1, .inr ⟨qs, q, h, hq, ha⟩⟩
theorem AccN.rd {N : List St} {i q n : Nat} {f : UInt8 → Bool} {w : List UInt8} (h : N[i]? = some (.rd f q)) (hi : i ≠ 0) (ha : AccN N n i w) : ∃ k c w', n = k + 1 ∧ w = c :: w' ∧ f c = true ∧ AccN N k q w' := by
  rcases n with _ | n
  · exact absurd ha.1 hi
  · rcases ha with ⟨f', q', c, w', h2, h3, h4, h5⟩ | ⟨qs, q', h2, _⟩
    · rw [h] at h2
      injection h2 with h2
      injection h2 with e1 e2
      subst e1 e2
      exact ⟨n, c, w', rfl, h3, h4, h5⟩
    · rw [h] at h2
      injection h2 with h2
      cases h2
theorem AccN.ep {N : List St} {i n : Nat} {qs : List Nat} {w : List UInt8} (h : N[i]? = some (.ep qs)) (hi : i ≠ 0) (ha : AccN N n i w) : ∃ k q, n = k + 1 ∧ q ∈ qs ∧ AccN N k q w := by
  rcases n with _ | n
  · exact absurd ha.1 hi
  · rcases ha with ⟨f', q', c, w', h2, _⟩ | ⟨qs', q', h2, h3, h4⟩
    · rw [h] at h2
      injection h2 with h2
      cases h2
    · rw [h] at h2
      injection h2 with h2
      injection h2 with e1
      subst e1
      exact ⟨n, q', rfl, h3, h4⟩
/-- What a state tells that begins a language, ahead of the state q. -/
structure Beg (N : List St) (L : List UInt8 → Prop) (i q : Nat) : Prop where
  to : ∀ n w, AccN N n i w → ∃ x y k, k ≤ n ∧ w = x ++ y ∧ L x ∧ AccN N k q y
  fro : ∀ x y, L x → Acc N q y → Acc N i (x ++ y)
/-- The same of a list of states. -/
structure Begs (N : List St) (L : List UInt8 → Prop) (l : List Nat) (q : Nat) : Prop where
  to : ∀ i ∈ l, ∀ n w, AccN N n i w → ∃ x y k, k ≤ n ∧ w = x ++ y ∧ L x ∧ AccN N k q y
  fro : ∀ x y, L x → Acc N q y → ∃ i ∈ l, Acc N i (x ++ y)
/-- N is M from the state b on. -/
def Ext (b : Nat) (M N : List St) : Prop := ∀ j, b ≤ j → j < M.length → N[j]? = M[j]?
theorem Ext.mono {b b' : Nat} {M N : List St} (h : Ext b M N) (hb : b ≤ b') : Ext b' M N := fun j h1 h2 => h j (Nat.le_trans hb h1) h2
theorem beg_star {N : List St} {L : List UInt8 → Prop} {i q p : Nat} (hp : p ≠ 0) (h : N[p]? = some (.ep [i, q])) (hb : Beg N L i p) : Beg N (Star L) p q := by
  refine ⟨?_, ?_⟩
  · intro n
    induction n using Nat.strongRecOn with
    | _ n ih =>
      intro w hw
      obtain ⟨k, j, rfl, hj, hk⟩ := AccN.ep h hp hw
      simp only [List.mem_cons, List.not_mem_nil, or_false] at hj
      rcases hj with rfl | rfl
      · obtain ⟨x, y, k2, h1, rfl, h3, h4⟩ := hb.to _ _ hk
        obtain ⟨x2, y2, k3, h5, rfl, h7, h8⟩ := ih k2 (by omega) _ h4
        exact ⟨x ++ x2, y2, k3, by omega, by simp, .cons _ _ h3 h7, h8⟩
      · exact ⟨[], w, k, by omega, rfl, .nil, hk⟩
  · intro x y hx hy
    induction hx with
    | nil => exact Acc.ep h (by simp) hy
    | cons x1 x2 h1 _ ih =>
      rw [List.append_assoc]
      exact Acc.ep h (by simp) (hb.fro _ _ h1 ih)
mutual
theorem begU : ∀ (u : U) (M N : List St) (q : Nat), 0 < M.length → Ext M.length (addU u M q).2 N → Beg N (MU u) (addU u M q).1 q
  | .byte c, M, N, q, hM, hx => by
    simp only [addU, MU] at hx ⊢
    have h : N[M.length]? = some (.rd (fun x => x == c) q) := by rw [hx M.length (Nat.le_refl _) (by simp)]; simp
    refine ⟨fun n w hw => ?_, fun x y hx hy => ?_⟩
    · obtain ⟨k, d, w', rfl, rfl, h3, h4⟩ := AccN.rd h (by omega) hw
      exact ⟨[d], w', k, by omega, rfl, by rw [eq_of_beq h3], h4⟩
    · subst hx
      exact Acc.rd h (by simp) hy
  | .cls f, M, N, q, hM, hx => by
    simp only [addU, MU] at hx ⊢
    have h : N[M.length]? = some (.rd f q) := by rw [hx M.length (Nat.le_refl _) (by simp)]; simp
    refine ⟨fun n w hw => ?_, fun x y hx hy => ?_⟩
    · obtain ⟨k, d, w', rfl, rfl, h3, h4⟩ := AccN.rd h (by omega) hw
      exact ⟨[d], w', k, by omega, rfl, ⟨d, rfl, h3⟩, h4⟩
    · obtain ⟨d, rfl, hd⟩ := hx
      exact Acc.rd h hd hy
  | .grp a, M, N, q, hM, hx => by
    simp only [addU] at hx ⊢
    have := begA a M N q hM hx
    exact ⟨fun n w hw => by simpa only [MU] using this.to n w hw, fun x y h1 h2 => this.fro x y (by simpa only [MU] using h1) h2⟩
  | .star u, M, N, q, hM, hx => by
    simp only [addU] at hx ⊢
    have hl := (addU_len u (M ++ [.ep []]) M.length).1
    simp only [List.length_append, List.length_singleton] at hl
    have h : N[M.length]? = some (.ep [(addU u (M ++ [.ep []]) M.length).1, q]) := by
      rw [hx M.length (Nat.le_refl _) (by rw [List.length_set]; omega), List.getElem?_set_self (by omega)]
    have hb : Beg N (MU u) (addU u (M ++ [.ep []]) M.length).1 M.length := begU u _ N _ (by simp) (fun j h1 h2 => by
      simp only [List.length_append, List.length_singleton] at h1
      rw [hx j (by omega) (by rw [List.length_set]; exact h2), List.getElem?_set_ne (by omega)])
    have := beg_star (by omega) h hb
    exact ⟨fun n w hw => by simpa only [MU] using this.to n w hw, fun x y h1 h2 => this.fro x y (by simpa only [MU] using h1) h2⟩
  | .plus u, M, N, q, hM, hx => by
    simp only [addU] at hx ⊢
    have hl := (addU_len u (M ++ [.ep []]) M.length).1
    simp only [List.length_append, List.length_singleton] at hl
    have h : N[M.length]? = some (.ep [(addU u (M ++ [.ep []]) M.length).1, q]) := by
      rw [hx M.length (Nat.le_refl _) (by rw [List.length_set]; omega), List.getElem?_set_self (by omega)]
    have hb : Beg N (MU u) (addU u (M ++ [.ep []]) M.length).1 M.length := begU u _ N _ (by simp) (fun j h1 h2 => by
      simp only [List.length_append, List.length_singleton] at h1
      rw [hx j (by omega) (by rw [List.length_set]; exact h2), List.getElem?_set_ne (by omega)])
    have hs := beg_star (by omega) h hb
    refine ⟨fun n w hw => ?_, fun x y h1 h2 => ?_⟩
    · obtain ⟨x, y, k, h1, rfl, h3, h4⟩ := hb.to n w hw
      obtain ⟨x2, y2, k2, h5, rfl, h7, h8⟩ := hs.to k y h4
      exact ⟨x ++ x2, y2, k2, by omega, by simp, by simp only [MU]; exact ⟨x, x2, rfl, h3, h7⟩, h8⟩
    · simp only [MU] at h1
      obtain ⟨a, b, rfl, h3, h4⟩ := h1
      rw [List.append_assoc]
      exact hb.fro _ _ h3 (hs.fro _ _ h4 h2)
  | .opt u, M, N, q, hM, hx => by
    simp only [addU] at hx ⊢
    have hl := (addU_len u M q).1
    have h : N[(addU u M q).2.length]? = some (.ep [(addU u M q).1, q]) := by
      rw [hx _ hl (by simp)]; simp
    have hb : Beg N (MU u) (addU u M q).1 q := begU u M N q hM (fun j h1 h2 => by rw [hx j h1 (by simp; omega), List.getElem?_append_left h2])
    refine ⟨fun n w hw => ?_, fun x y h1 h2 => ?_⟩
    · obtain ⟨k, j, rfl, hj, hk⟩ := AccN.ep h (by omega) hw
      simp only [List.mem_cons, List.not_mem_nil, or_false] at hj
      rcases hj with rfl | rfl
      · obtain ⟨x, y, k2, h3, h4, h5, h6⟩ := hb.to _ _ hk
        exact ⟨x, y, k2, by omega, h4, by simp only [MU]; exact .inr h5, h6⟩
      · exact ⟨[], w, k, by omega, rfl, by unfold MU; exact .inl rfl, hk⟩
    · simp only [MU] at h1
      rcases h1 with rfl | h1
      · exact Acc.ep h (by simp) h2
      · exact Acc.ep h (by simp) (hb.fro _ _ h1 h2)
theorem begA : ∀ (a : As) (M N : List St) (q : Nat), 0 < M.length → Ext M.length (addA a M q).2 N → Beg N (MA a) (addA a M q).1 q
  | .one s, M, N, q, hM, hx => by
    simp only [addA] at hx ⊢
    have := begS s M N q hM hx
    exact ⟨fun n w hw => by simpa only [MA] using this.to n w hw, fun x y h1 h2 => this.fro x y (by simpa only [MA] using h1) h2⟩
  | .more s a, M, N, q, hM, hx => by
    simp only [addA] at hx ⊢
    have hl1 := (addS_len s M q).1
    have hl2 := (addL_len a (addS s M q).2 q).1
    have h : N[(addL a (addS s M q).2 q).2.length]? = some (.ep ((addS s M q).1 :: (addL a (addS s M q).2 q).1)) := by
      rw [hx _ (by omega) (by simp)]; simp
    have h1 : Beg N (MS s) (addS s M q).1 q := begS s M N q hM (fun j h1 h2 => by
      rw [hx j h1 (by simp; omega), List.getElem?_append_left (by omega), addL_old a _ _ j h2])
    have h2 : Begs N (MA a) (addL a (addS s M q).2 q).1 q := begL a _ N q (by omega) (fun j h1 h2 => by
      rw [hx j (by omega) (by simp; omega), List.getElem?_append_left h2])
    refine ⟨fun n w hw => ?_, fun x y h3 h4 => ?_⟩
    · obtain ⟨k, j, rfl, hj, hk⟩ := AccN.ep h (by omega) hw
      simp only [List.mem_cons] at hj
      rcases hj with rfl | hj
      · obtain ⟨x, y, k2, h3, h4, h5, h6⟩ := h1.to _ _ hk
        exact ⟨x, y, k2, by omega, h4, by simp only [MA]; exact .inl h5, h6⟩
      · obtain ⟨x, y, k2, h3, h4, h5, h6⟩ := h2.to j hj _ _ hk
        exact ⟨x, y, k2, by omega, h4, by simp only [MA]; exact .inr h5, h6⟩
    · simp only [MA] at h3
      rcases h3 with h3 | h3
      · exact Acc.ep h (by simp) (h1.fro _ _ h3 h4)
      · obtain ⟨i, hi, h5⟩ := h2.fro _ _ h3 h4
        exact Acc.ep h (by simp [hi]) h5
theorem begL : ∀ (a : As) (M N : List St) (q : Nat), 0 < M.length → Ext M.length (addL a M q).2 N → Begs N (MA a) (addL a M q).1 q
  | .one s, M, N, q, hM, hx => by
    simp only [addL] at hx ⊢
    have := begS s M N q hM hx
    refine ⟨fun i hi n w hw => ?_, fun x y h1 h2 => ⟨_, List.mem_singleton.2 rfl, this.fro x y (by simpa only [MA] using h1) h2⟩⟩
    rw [List.mem_singleton] at hi
    subst hi
    simpa only [MA] using this.to n w hw
  | .more s a, M, N, q, hM, hx => by
    simp only [addL] at hx ⊢
    have hl1 := (addS_len s M q).1
    have hl2 := (addL_len a (addS s M q).2 q).1
    have h1 : Beg N (MS s) (addS s M q).1 q := begS s M N q hM (fun j h1 h2 => by
      rw [hx j h1 (by omega), addL_old a _ _ j h2])
    have h2 : Begs N (MA a) (addL a (addS s M q).2 q).1 q := begL a _ N q (by omega) (fun j h1 h2 => hx j (by omega) h2)
    refine ⟨fun i hi n w hw => ?_, fun x y h3 h4 => ?_⟩
    · simp only [List.mem_cons] at hi
      rcases hi with rfl | hi
      · obtain ⟨x, y, k2, h3, h4, h5, h6⟩ := h1.to _ _ hw
        exact ⟨x, y, k2, h3, h4, by simp only [MA]; exact .inl h5, h6⟩
      · obtain ⟨x, y, k2, h3, h4, h5, h6⟩ := h2.to i hi _ _ hw
        exact ⟨x, y, k2, h3, h4, by simp only [MA]; exact .inr h5, h6⟩
    · simp only [MA] at h3
      rcases h3 with h3 | h3
      · exact ⟨_, by simp, h1.fro _ _ h3 h4⟩
      · obtain ⟨i, hi, h5⟩ := h2.fro _ _ h3 h4
        exact ⟨i, by simp [hi], h5⟩
theorem begS : ∀ (s : Ss) (M N : List St) (q : Nat), 0 < M.length → Ext M.length (addS s M q).2 N → Beg N (MS s) (addS s M q).1 q
  | .nil, M, N, q, hM, hx => by
    simp only [addS] at hx ⊢
    refine ⟨fun n w hw => ⟨[], w, n, Nat.le_refl _, rfl, by simp only [MS], hw⟩, fun x y h1 h2 => ?_⟩
    simp only [MS] at h1
    subst h1
    exact h2
  | .cons u s, M, N, q, hM, hx => by
    simp only [addS] at hx ⊢
    have hl1 := (addS_len s M q).1
    have hl2 := (addU_len u (addS s M q).2 (addS s M q).1).1
    have h1 : Beg N (MS s) (addS s M q).1 q := begS s M N q hM (fun j h1 h2 => by rw [hx j h1 (by omega), addU_old u _ _ j h2])
    have h2 : Beg N (MU u) (addU u (addS s M q).2 (addS s M q).1).1 (addS s M q).1 := begU u _ N _ (by omega) (hx.mono hl1)
    refine ⟨fun n w hw => ?_, fun x y h3 h4 => ?_⟩
    · obtain ⟨x, y, k, h3, rfl, h5, h6⟩ := h2.to n w hw
      obtain ⟨x2, y2, k2, h7, rfl, h9, h10⟩ := h1.to k y h6
      exact ⟨x ++ x2, y2, k2, by omega, by simp, by simp only [MS]; exact ⟨x, x2, rfl, h5, h9⟩, h10⟩
    · simp only [MS] at h3
      obtain ⟨a, b, rfl, h5, h6⟩ := h3
      rw [List.append_assoc]
      exact h2.fro _ _ h5 (h1.fro _ _ h6 h4)
end
theorem mach_zero (a : As) : (mach a).2[0]? = some (.ep []) := by
  unfold mach
  rw [addA_old a _ _ 0 (by simp)]; rfl
/-- A machine accepts what its tree matches. -/
theorem mach_acc (a : As) (w : List UInt8) : Acc (mach a).2 (mach a).1 w ↔ MA a w := by
  have h := begA a [.ep []] (mach a).2 0 (by simp) (fun j _ _ => rfl)
  constructor
  · rintro ⟨n, hn⟩
    obtain ⟨x, y, k, _, rfl, h2, h3⟩ := h.to n w hn
    rcases k with _ | k
    · obtain ⟨_, rfl⟩ := h3
      simpa using h2
    · rcases h3 with ⟨f, q, c, w', h4, _⟩ | ⟨qs, q, h4, h5, _⟩
      · rw [mach_zero] at h4; cases h4
      · rw [mach_zero] at h4
        injection h4 with h4
        injection h4 with h4
        subst h4
        simp at h5
  · intro hw
    have := h.fro w [] hw ⟨0, rfl, rfl⟩
    rw [List.append_nil] at this
    exact this
end Rx
end Go.Proofs.Ytheblleadjbndaa

namespace Go.Proofs.Ytheblleadjbndaa
namespace Rx
theorem free_le' (k : Nat) (mk : List Nat) : free k mk ≤ mk.length := List.countP_le_length
/-- From i to j without reading. -/
inductive Eps (M : List St) : Nat → Nat → Prop
  | refl (i : Nat) : Eps M i i
  | step {i p j : Nat} {qs : List Nat} : M[i]? = some (.ep qs) → i ≠ 0 → p ∈ qs → Eps M p j → Eps M i j
theorem Eps.trans {M : List St} {i j k : Nat} (h : Eps M i j) (h2 : Eps M j k) : Eps M i k := by
  induction h with
  | refl => exact h2
  | step a b c _ ih => exact .step a b c (ih h2)
def Stop (M : List St) (q : Nat) : Prop := q = 0 ∨ ∃ f p, M[q]? = some (.rd f p)
/-- A state is dealt with. -/
structure Done (M : List St) (k : Nat) (ts : List Th) (mk : List Nat) (x : Nat) : Prop where
  stop : Stop M x → ∃ f, (x, f) ∈ ts
  ep : ∀ qs, M[x]? = some (.ep qs) → x ≠ 0 → ∀ p ∈ qs, mk[p]? = some k
theorem Done.mono {M : List St} {k : Nat} {ts ts' : List Th} {mk mk' : List Nat} {x : Nat} (h : Done M k ts mk x) (h1 : ∀ t ∈ ts, t ∈ ts') (h2 : ∀ (y : Nat), mk[y]? = some k → mk'[y]? = some k) : Done M k ts' mk' x :=
  ⟨fun hs => by obtain ⟨f, hf⟩ := h.stop hs; exact ⟨f, h1 _ hf⟩, fun qs a b p hp => h2 _ (h.ep qs a b p hp)⟩
/-- What a spreading does. -/
structure Sp (M : List St) (k f : Nat) (S : List Nat) (r0 r : List Th × List Nat) : Prop where
  mono : ∀ (x : Nat), r0.2[x]? = some k → r.2[x]? = some k
  src : ∀ q ∈ S, r.2[q]? = some k
  app : ∃ l, r.1 = r0.1 ++ l ∧ ∀ t ∈ l, t.2 = f ∧ Stop M t.1 ∧ ∃ q ∈ S, Eps M q t.1
  done : ∀ (x : Nat), r.2[x]? = some k → r0.2[x]? = some k ∨ Done M k r.1 r.2 x
  val : ∀ (x v : Nat), r.2[x]? = some v → v = k ∨ r0.2[x]? = some v
theorem Sp.sub {M : List St} {k f : Nat} {src : List Nat} {r0 r : List Th × List Nat} (h : Sp M k f src r0 r) : ∀ t ∈ r0.1, t ∈ r.1 := fun t ht => by
  obtain ⟨l, hl, _⟩ := h.app
  rw [hl]; exact List.mem_append_left _ ht
theorem Sp.trans {M : List St} {k f : Nat} {a b : List Nat} {r0 r1 r2 : List Th × List Nat} (h : Sp M k f a r0 r1) (h2 : Sp M k f b r1 r2) : Sp M k f (a ++ b) r0 r2 := by
  refine ⟨fun x hx => h2.mono x (h.mono x hx), ?_, ?_, ?_, ?_⟩
  · intro q hq
    rcases List.mem_append.1 hq with hq | hq
    · exact h2.mono q (h.src q hq)
    · exact h2.src q hq
  · obtain ⟨l1, e1, h3⟩ := h.app
    obtain ⟨l2, e2, h4⟩ := h2.app
    refine ⟨l1 ++ l2, by rw [e2, e1, List.append_assoc], fun t ht => ?_⟩
    rcases List.mem_append.1 ht with ht | ht
    · obtain ⟨x, y, q, hq, z⟩ := h3 t ht
      exact ⟨x, y, q, List.mem_append_left _ hq, z⟩
    · obtain ⟨x, y, q, hq, z⟩ := h4 t ht
      exact ⟨x, y, q, List.mem_append_right _ hq, z⟩
  · intro x hx
    rcases h2.done x hx with h3 | h3
    · rcases h.done x h3 with h4 | h4
      · exact .inl h4
      · exact .inr (h4.mono h2.sub h2.mono)
    · exact .inr h3
  · intro x v hx
    rcases h2.val x v hx with h3 | h3
    · exact .inl h3
    · exact h.val x v h3
theorem get_set_of {mk : List Nat} {q k x v : Nat} (h : (mk.set q k)[x]? = some v) : (x = q ∧ v = k) ∨ (x ≠ q ∧ mk[x]? = some v) := by
  by_cases e : q = x
  · subst e
    have hl := (List.getElem?_eq_some_iff.1 h).1
    rw [List.length_set] at hl
    rw [List.getElem?_set_self hl] at h
    injection h with h
    exact .inl ⟨rfl, h.symm⟩
  · rw [List.getElem?_set_ne e] at h
    exact .inr ⟨fun h2 => e h2.symm, h⟩
theorem set_mono {mk : List Nat} {q k x : Nat} (hq : q < mk.length) (h : mk[x]? = some k) : (mk.set q k)[x]? = some k := by
  by_cases e : q = x
  · subst e; rw [List.getElem?_set_self hq]
  · rw [List.getElem?_set_ne e]; exact h
theorem spread_sp (M : List St) (hOk : Ok M) (k f : Nat) : ∀ (n : Nat) (ts : List Th) (mk : List Nat) (q : Nat), free k mk < n → mk.length = M.length → q < M.length → Sp M k f [q] (ts, mk) (spreadF M n ts mk q f k) := by
  intro n
  induction n with
  | zero => intro ts mk q h; omega
  | succ n ih =>
    intro ts mk q hfr hm hq
    have hqm : q < mk.length := by omega
    simp only [spreadF]
    by_cases h : mk[q]? = some k
    · rw [if_pos h]
      exact ⟨fun x hx => hx, fun x hx => by rw [List.mem_singleton] at hx; subst hx; exact h, ⟨[], by simp, fun t ht => by simp at ht⟩, fun x hx => .inl hx, fun x v hx => .inr hx⟩
    · rw [if_neg h]
      have hstop : Stop M q → (∀ qs, M[q]? = some (.ep qs) → q = 0) → Sp M k f [q] (ts, mk) (ts ++ [(q, f)], mk.set q k) := by
        intro hs he
        refine ⟨fun x hx => set_mono hqm hx, fun x hx => ?_, ⟨[(q, f)], rfl, fun t ht => ?_⟩, fun x hx => ?_, fun x v hx => ?_⟩
        · rw [List.mem_singleton] at hx
          subst hx
          exact List.getElem?_set_self hqm
        · rw [List.mem_singleton] at ht
          subst ht
          exact ⟨rfl, hs, q, by simp, .refl _⟩
        · rcases get_set_of hx with ⟨rfl, _⟩ | ⟨_, hx⟩
          · exact .inr ⟨fun _ => ⟨f, by simp⟩, fun qs h1 h2 => absurd (he qs h1) h2⟩
          · exact .inl hx
        · rcases get_set_of hx with ⟨rfl, hv⟩ | ⟨_, hx⟩
          · exact .inl hv
          · exact .inr hx
      obtain ⟨s, hs⟩ : ∃ s, M[q]? = some s := ⟨_, List.getElem?_eq_getElem hq⟩
      rcases s with ⟨g, p⟩ | qs
      · rw [hs]
        exact hstop (.inr ⟨g, p, hs⟩) (fun qs h => by rw [hs] at h; cases h)
      · rw [hs]
        simp only
        by_cases h0 : q = 0
        · rw [if_pos h0]
          exact hstop (.inl h0) (fun _ _ => h0)
        · rw [if_neg h0]
          have hfs := free_set (k := k) (mk := mk) (q := q) hqm h
          have fold : ∀ (l : List Nat) (r : List Th × List Nat), (∀ p ∈ l, p < M.length) → free k r.2 < n → r.2.length = M.length → Sp M k f l r (l.foldl (fun r p => spreadF M n r.1 r.2 p f k) r) := by
            intro l
            induction l with
            | nil => intro r _ _ _; exact ⟨fun x hx => hx, fun x hx => by simp at hx, ⟨[], by simp, fun t ht => by simp at ht⟩, fun x hx => .inl hx, fun x v hx => .inr hx⟩
            | cons p l ihl =>
              intro r hl hfr2 hr
              rw [List.foldl_cons]
              have h1 := ih r.1 r.2 p hfr2 hr (hl p (by simp))
              have h2 := spread_facts M hOk k f n r.1 r.2 p hr (hl p (by simp))
              exact Sp.trans (a := [p]) h1 (ihl _ (fun x hx => hl x (by simp [hx])) (Nat.lt_of_le_of_lt h2.2.1 hfr2) (h2.1.trans hr))
          have hf := fold qs (ts, mk.set q k) (hOk q _ hs) (by simp only; omega) (by simp [hm])
          generalize qs.foldl (fun r p => spreadF M n r.1 r.2 p f k) (ts, mk.set q k) = r at hf
          refine ⟨fun x hx => hf.mono x (set_mono hqm hx), fun x hx => ?_, ?_, fun x hx => ?_, fun x v hx => ?_⟩
          · rw [List.mem_singleton] at hx
            subst hx
            exact hf.mono _ (List.getElem?_set_self hqm)
          · obtain ⟨l, e, h2⟩ := hf.app
            refine ⟨l, e, fun t ht => ?_⟩
            obtain ⟨h3, h4, p, hp, h5⟩ := h2 t ht
            exact ⟨h3, h4, q, by simp, .step hs h0 hp h5⟩
          · rcases hf.done x hx with h1 | h1
            · rcases get_set_of h1 with ⟨rfl, _⟩ | ⟨_, h1⟩
              · refine .inr ⟨fun h2 => ?_, fun qs' h2 _ p hp => ?_⟩
                · rcases h2 with h2 | ⟨_, _, h2⟩
                  · exact absurd h2 h0
                  · rw [hs] at h2; cases h2
                · rw [hs] at h2
                  injection h2 with h2
                  injection h2 with h2
                  subst h2
                  exact hf.src p hp
              · exact .inl h1
            · exact .inr h1
          · rcases hf.val x v hx with h1 | h1
            · exact .inl h1
            · rcases get_set_of h1 with ⟨_, h1⟩ | ⟨_, h1⟩
              · exact .inl h1
              · exact .inr h1
/-- A set of threads that is closed, in order, and none of which begins behind b. -/
structure G (M : List St) (k : Nat) (r : List Th × List Nat) (b : Nat) : Prop where
  closed : ∀ (x : Nat), r.2[x]? = some k → Done M k r.1 r.2 x
  le : ∀ t ∈ r.1, t.2 ≤ b
  sorted : r.1.Pairwise (fun s t => s.2 ≤ t.2)
  len : r.2.length = M.length
theorem G.mono {M : List St} {k : Nat} {r : List Th × List Nat} {b b' : Nat} (h : G M k r b) (hb : b ≤ b') : G M k r b' := ⟨h.closed, fun t ht => Nat.le_trans (h.le t ht) hb, h.sorted, h.len⟩
theorem G.eps {M : List St} {k : Nat} {r : List Th × List Nat} {b : Nat} (h : G M k r b) {i j : Nat} (he : Eps M i j) : r.2[i]? = some k → r.2[j]? = some k := by
  induction he with
  | refl => exact id
  | step a b c _ ih => exact fun hk => ih ((h.closed _ hk).ep _ a b _ c)
structure Grow (M : List St) (k f q : Nat) (r r' : List Th × List Nat) : Prop where
  g : G M k r' f
  keep : ∀ t ∈ r.1, t ∈ r'.1
  comp : ∀ x, Stop M x → Eps M q x → ∃ f', f' ≤ f ∧ (x, f') ∈ r'.1
  sound : ∀ t ∈ r'.1, t ∈ r.1 ∨ (t.2 = f ∧ Stop M t.1 ∧ Eps M q t.1)
  val : ∀ (x v : Nat), r'.2[x]? = some v → v = k ∨ r.2[x]? = some v
theorem G.spread {M : List St} (hOk : Ok M) {k : Nat} {r : List Th × List Nat} {b : Nat} (h : G M k r b) {q f : Nat} (hb : b ≤ f) (hq : q < M.length) : Grow M k f q r (spreadF M (M.length + 1) r.1 r.2 q f k) := by
  have h1 := spread_sp M hOk k f (M.length + 1) r.1 r.2 q (by have := free_le' k r.2; have := h.len; omega) h.len hq
  have h2 := spread_facts M hOk k f (M.length + 1) r.1 r.2 q h.len hq
  generalize spreadF M (M.length + 1) r.1 r.2 q f k = r' at *
  obtain ⟨l, e, hl⟩ := h1.app
  have hg : G M k r' f := by
    refine ⟨fun x hx => ?_, fun t ht => ?_, ?_, h2.1.trans h.len⟩
    · rcases h1.done x hx with h3 | h3
      · exact (h.closed x h3).mono h1.sub h1.mono
      · exact h3
    · rw [e] at ht
      rcases List.mem_append.1 ht with ht | ht
      · exact Nat.le_trans (h.le t ht) hb
      · rw [(hl t ht).1]; exact Nat.le_refl _
    · rw [e, List.pairwise_append]
      refine ⟨h.sorted, ?_, fun s hs t ht => ?_⟩
      · rw [List.pairwise_iff_forall_sublist]
        intro s t hst
        rw [(hl s (hst.subset (by simp))).1, (hl t (hst.subset (by simp))).1]
        exact Nat.le_refl _
      · rw [(hl t ht).1]
        exact Nat.le_trans (h.le s hs) hb
  refine ⟨hg, h1.sub, fun x hx he => ?_, fun t ht => ?_, h1.val⟩
  · obtain ⟨f', hf'⟩ := (hg.closed x (hg.eps he (h1.src q (by simp)))).stop hx
    exact ⟨f', hg.le _ hf', hf'⟩
  · rw [e] at ht
    rcases List.mem_append.1 ht with ht | ht
    · exact .inl ht
    · obtain ⟨h3, h4, p, hp, h5⟩ := hl t ht
      rw [List.mem_singleton] at hp
      subst hp
      exact .inr ⟨h3, h4, h5⟩
/-- What the threads are behind a byte. -/
structure Stp (M : List St) (k : Nat) (bd : Option (Nat × Nat)) (c : UInt8) (l : List Th) (B : Nat) (r r' : List Th × List Nat) : Prop where
  g : G M k r' B
  keep : ∀ t ∈ r.1, t ∈ r'.1
  comp : ∀ u ∈ l, (∀ y, bd = some y → u.2 ≤ y.1) → ∀ g p, M[u.1]? = some (.rd g p) → g c = true → ∀ x, Stop M x → Eps M p x → ∃ f', f' ≤ u.2 ∧ (x, f') ∈ r'.1
  sound : ∀ t ∈ r'.1, t ∈ r.1 ∨ (Stop M t.1 ∧ ∃ u ∈ l, u.2 = t.2 ∧ ∃ g p, M[u.1]? = some (.rd g p) ∧ g c = true ∧ Eps M p t.1)
  val : ∀ (x v : Nat), r'.2[x]? = some v → v = k ∨ r.2[x]? = some v
theorem step_stp {M : List St} (hOk : Ok M) {k : Nat} {bd : Option (Nat × Nat)} {c : UInt8} : ∀ (l : List Th) (r : List Th × List Nat) (b B : Nat), G M k r b → b ≤ B → (∀ t ∈ l, b ≤ t.2 ∧ t.2 ≤ B) → l.Pairwise (fun s t => s.2 ≤ t.2) → Stp M k bd c l B r (step M (M.length + 1) bd c k l r)
  | [], r, b, B, h, hB, _, _ => ⟨h.mono hB, fun t ht => ht, fun u hu => by simp at hu, fun t ht => .inl ht, fun x v hv => .inr hv⟩
  | t :: l, r, b, B, h, hB, hl, hs => by
    simp only [step]
    rw [List.pairwise_cons] at hs
    by_cases hb : ∃ x, bd = some x ∧ x.1 < t.2
    · rw [if_pos hb]
      obtain ⟨x, hx, hlt⟩ := hb
      refine ⟨h.mono hB, fun t ht => ht, fun u hu hy => ?_, fun t ht => .inl ht, fun x v hv => .inr hv⟩
      have h1 := hy x hx
      have h2 : t.2 ≤ u.2 := by
        rcases List.mem_cons.1 hu with rfl | hu
        · exact Nat.le_refl _
        · exact hs.1 u hu
      omega
    · rw [if_neg hb]
      have hno : (∀ g p, M[t.1]? = some (.rd g p) → g c = false) → Stp M k bd c (t :: l) B r (step M (M.length + 1) bd c k l r) := fun hn => by
        have ih := step_stp hOk (bd := bd) (c := c) l r b B h hB (fun u hu => hl u (by simp [hu])) hs.2
        refine ⟨ih.g, ih.keep, fun u hu hy g p hg hc => ?_, fun u hu => ?_, ih.val⟩
        · rcases List.mem_cons.1 hu with rfl | hu
          · rw [hn g p hg] at hc; cases hc
          · exact ih.comp u hu hy g p hg hc
        · rcases ih.sound u hu with h1 | ⟨h1, v, hv, h2⟩
          · exact .inl h1
          · exact .inr ⟨h1, v, by simp [hv], h2⟩
      split
      · rename_i f q he
        split
        · rename_i hf
          have ht := hl t (by simp)
          have h1 := h.spread hOk (q := q) (f := t.2) ht.1 (hOk _ _ he q (by simp [Nx]))
          have ih := step_stp hOk (bd := bd) (c := c) l _ t.2 B h1.g ht.2 (fun u hu => ⟨hs.1 u hu, (hl u (by simp [hu])).2⟩) hs.2
          refine ⟨ih.g, fun u hu => ih.keep u (h1.keep u hu), fun u hu hy g p hg hc x hx hex => ?_, fun u hu => ?_, fun x v hv => ?_⟩
          · rcases List.mem_cons.1 hu with rfl | hu
            · rw [he] at hg
              injection hg with hg
              injection hg with e1 e2
              subst e1 e2
              obtain ⟨f', h2, h3⟩ := h1.comp x hx hex
              exact ⟨f', h2, ih.keep _ h3⟩
            · exact ih.comp u hu hy g p hg hc x hx hex
          · rcases ih.sound u hu with h2 | ⟨h2, v, hv, h3⟩
            · rcases h1.sound u h2 with h3 | ⟨h3, h4, h5⟩
              · exact .inl h3
              · exact .inr ⟨h4, t, by simp, h3.symm, f, q, he, hf, h5⟩
            · exact .inr ⟨h2, v, by simp [hv], h3⟩
          · rcases ih.val x v hv with h2 | h2
            · exact .inl h2
            · exact h1.val x v h2
        · rename_i hf
          exact hno fun g p hg => by
            rw [he] at hg
            injection hg with hg
            injection hg with e1 e2
            subst e1
            simpa using hf
      · rename_i hne
        exact hno fun g p hg => absurd hg (hne g p)
end Rx
end Go.Proofs.Ytheblleadjbndaa

namespace Go.Proofs.Ytheblleadjbndaa
namespace Rx
/-- From i to x, reading w. -/
inductive Rch (M : List St) (i : Nat) : List UInt8 → Nat → Prop
  | nil {x : Nat} : Eps M i x → Rch M i [] x
  | snoc {w : List UInt8} {r p x : Nat} {g : UInt8 → Bool} {c : UInt8} : Rch M i w r → M[r]? = some (.rd g p) → g c = true → Eps M p x → Rch M i (w ++ [c]) x
theorem Rch.eps {M : List St} {i x y : Nat} {w : List UInt8} (h : Rch M i w x) (he : Eps M x y) : Rch M i w y := by
  cases h with
  | nil h => exact .nil (h.trans he)
  | snoc a b c d => exact .snoc a b c (d.trans he)
theorem Rch.nil_inv {M : List St} {i x : Nat} (h : Rch M i [] x) : Eps M i x := by
  generalize hw : ([] : List UInt8) = w at h
  cases h with
  | nil h => exact h
  | snoc _ _ _ _ => simp at hw
theorem acc_eps {M : List St} {i x : Nat} (h : Eps M i x) {v : List UInt8} : Acc M x v → Acc M i v := by
  induction h with
  | refl => exact id
  | step a _ c _ ih => exact fun hv => Acc.ep a c (ih hv)
theorem Rch.acc {M : List St} {i x : Nat} {w v : List UInt8} (h : Rch M i w x) (hv : Acc M x v) : Acc M i (w ++ v) := by
  induction h generalizing v with
  | nil h => exact acc_eps h hv
  | snoc _ b c d ih =>
    rw [List.append_assoc]
    exact ih (Acc.rd b c (acc_eps d hv))
theorem acc_rch {M : List St} (h0 : M[0]? = some (.ep [])) {i : Nat} : ∀ (n x : Nat) (w v : List UInt8), Rch M i w x → AccN M n x v → Rch M i (w ++ v) 0 := by
  intro n
  induction n with
  | zero =>
    rintro x w v h ⟨rfl, rfl⟩
    simpa using h
  | succ n ih =>
    rintro x w v h (⟨f, q, c, w', h1, rfl, h3, h4⟩ | ⟨qs, q, h1, h2, h3⟩)
    · have := ih q (w ++ [c]) w' (.snoc h h1 h3 (.refl _)) h4
      simpa using this
    · have hx : x ≠ 0 := fun e => by
        subst e
        rw [h0] at h1
        injection h1 with h1
        injection h1 with h1
        subst h1
        simp at h2
      exact ih q w v (h.eps (.step h1 hx h2 (.refl _))) h3
theorem rch_iff {M : List St} (h0 : M[0]? = some (.ep [])) {i : Nat} {w : List UInt8} : Rch M i w 0 ↔ Acc M i w := by
  constructor
  · intro h
    have := h.acc (v := []) ⟨0, rfl, rfl⟩
    simpa using this
  · rintro ⟨n, h⟩
    exact acc_rch h0 n i [] w (.nil (.refl _)) h
/-- Ahead of a further byte there is a state that reads. -/
theorem Rch.mid {M : List St} {i x : Nat} {u : List UInt8} (h : Rch M i u x) : ∀ w v, u = w ++ v → v ≠ [] → ∃ r, Stop M r ∧ Rch M i w r := by
  induction h with
  | nil h =>
    intro w v e hv
    have := congrArg List.length e
    simp only [List.length_nil, List.length_append] at this
    exact absurd (List.length_eq_zero_iff.1 (by omega)) hv
  | @snoc w0 r p x g c a b cc d ih =>
    intro w v e hv
    obtain ⟨v', c', rfl⟩ : ∃ v' c', v = v' ++ [c'] := ⟨v.dropLast, v.getLast hv, (List.dropLast_concat_getLast hv).symm⟩
    rw [← List.append_assoc] at e
    have e1 := List.append_inj' e rfl
    by_cases hv' : v' = []
    · subst hv'
      rw [List.append_nil] at e1
      rw [← e1.1]
      exact ⟨r, .inr ⟨g, p, b⟩, a⟩
    · exact ih w v' e1.1 hv'
/-- A part of a string. -/
def seg (l : List UInt8) (f a : Nat) : List UInt8 := (l.take a).drop f
theorem seg_self (l : List UInt8) (a : Nat) : seg l a a = [] := by
  unfold seg
  exact List.drop_eq_nil_of_le (by rw [List.length_take]; omega)
theorem seg_succ {l : List UInt8} {f a : Nat} {c : UInt8} (hf : f ≤ a) (hc : l[a]? = some c) : seg l f (a + 1) = seg l f a ++ [c] := by
  have hl : a < l.length := (List.getElem?_eq_some_iff.1 hc).1
  have hc2 : l[a] = c := (List.getElem?_eq_some_iff.1 hc).2
  unfold seg
  rw [List.take_succ_eq_append_getElem hl, hc2, List.drop_append_of_le_length (by rw [List.length_take]; omega)]
theorem seg_split {l : List UInt8} {f a e : Nat} (hf : f ≤ a) (ha : a ≤ e) (he : e ≤ l.length) : seg l f e = seg l f a ++ seg l a e := by
  unfold seg
  have h1 : l.take e = l.take a ++ (l.take e).drop a := by
    have := List.take_append_drop a (l.take e)
    rw [List.take_take, Nat.min_eq_left ha] at this
    exact this.symm
  conv => lhs; rw [h1]
  rw [List.drop_append_of_le_length (by rw [List.length_take]; omega)]
theorem seg_len {l : List UInt8} {f e : Nat} (he : e ≤ l.length) : (seg l f e).length = e - f := by
  unfold seg
  rw [List.length_drop, List.length_take, Nat.min_eq_left he]
section
variable (M : List St) (st : Nat) (anch : Bool) (l : List UInt8)
def allowed (f : Nat) : Prop := anch = false ∨ f = 0
/-- A part matches. -/
structure Mt (f e : Nat) : Prop where
  al : allowed anch f
  le : f ≤ e
  len : e ≤ l.length
  rch : Rch M st (seg l f e) 0
/-- What a result must tell. -/
def Res : Option (Nat × Nat) → Prop
  | none => ∀ f e, ¬ Mt M st anch l f e
  | some y => Mt M st anch l y.1 y.2 ∧ ∀ f e, Mt M st anch l f e → y.1 ≤ f ∧ (f = y.1 → e ≤ y.2)
/-- What is known of the best part among those that end ahead of a. -/
structure Bst (a : Nat) (b : Option (Nat × Nat)) : Prop where
  mt : ∀ y, b = some y → Mt M st anch l y.1 y.2 ∧ y.2 < a
  no : b = none → ∀ f e, e < a → ¬ Mt M st anch l f e
  best : ∀ y, b = some y → ∀ f e, e < a → Mt M st anch l f e → y.1 ≤ f ∧ (f = y.1 → e ≤ y.2)
/-- What is known of the threads: those that begin ahead of c. -/
structure Thr (a c : Nat) (ts : List Th) (b : Option (Nat × Nat)) : Prop where
  sound : ∀ t ∈ ts, allowed anch t.2 ∧ t.2 ≤ a ∧ Stop M t.1 ∧ Rch M st (seg l t.2 a) t.1
  comp : ∀ f x, allowed anch f → f < c → (∀ y, b = some y → f ≤ y.1) → Stop M x → Rch M st (seg l f a) x → ∃ f', f' ≤ f ∧ (x, f') ∈ ts
end
theorem scan_some (a : Nat) : ∀ (l : List Th) (b : Option (Nat × Nat)) (y : Nat × Nat), b = some y → ∃ y1, scan a l b = some y1 ∧ y1.1 ≤ y.1 ∧ (y1 = y ∨ y1.2 = a)
  | [], b, y, h => ⟨y, h, Nat.le_refl _, .inl rfl⟩
  | t :: l, b, y, h => by
    simp only [scan]
    split
    · rename_i hc
      obtain ⟨y1, h1, h2, h3⟩ := scan_some a l (some (t.2, a)) (t.2, a) rfl
      exact ⟨y1, h1, Nat.le_trans h2 (hc.2 y h), .inr ((h3.elim (fun e => by rw [e]) id))⟩
    · exact scan_some a l b y h
theorem scan_mem (a : Nat) : ∀ (l : List Th) (b : Option (Nat × Nat)) (f : Nat), (0, f) ∈ l → (∀ y, b = some y → f ≤ y.1) → ∃ y, scan a l b = some y ∧ y.1 ≤ f ∧ y.2 = a
  | [], b, f, h, _ => by simp at h
  | t :: l, b, f, h, hy => by
    simp only [scan]
    have hnew : ∀ t2 : Nat, t2 ≤ f → ∃ y, scan a l (some (t2, a)) = some y ∧ y.1 ≤ f ∧ y.2 = a := fun t2 ht2 => by
      obtain ⟨y1, h1, h2, h3⟩ := scan_some a l (some (t2, a)) (t2, a) rfl
      exact ⟨y1, h1, Nat.le_trans h2 ht2, (h3.elim (fun e => by rw [e]) id)⟩
    rcases List.mem_cons.1 h with rfl | h
    · rw [if_pos ⟨rfl, hy⟩]
      exact hnew f (Nat.le_refl _)
    · split
      · by_cases hlt : f ≤ t.2
        · exact scan_mem a l _ f h (fun y hy2 => by injection hy2 with hy2; subst hy2; exact hlt)
        · exact hnew t.2 (by omega)
      · exact scan_mem a l b f h hy
theorem scan_from (a : Nat) : ∀ (l : List Th) (b : Option (Nat × Nat)) (y : Nat × Nat), scan a l b = some y → b = some y ∨ (y.2 = a ∧ (0, y.1) ∈ l)
  | [], b, y, h => .inl h
  | t :: l, b, y, h => by
    simp only [scan] at h
    split at h
    · rename_i hc
      rcases scan_from a l _ y h with h1 | ⟨h1, h2⟩
      · injection h1 with h1
        subst h1
        obtain ⟨t1, t2⟩ := t
        simp only at hc
        obtain ⟨rfl, _⟩ := hc
        exact .inr ⟨rfl, by simp⟩
      · exact .inr ⟨h1, by simp [h2]⟩
    · rcases scan_from a l b y h with h1 | ⟨h1, h2⟩
      · exact .inl h1
      · exact .inr ⟨h1, by simp [h2]⟩
section
variable {M : List St} {st : Nat} {anch : Bool} {l : List UInt8}
theorem scan_bst {a : Nat} {ts : List Th} {b : Option (Nat × Nat)} (ha : a ≤ l.length) (h : Bst M st anch l a b) (ht : Thr M st anch l a (a + 1) ts b) : Bst M st anch l (a + 1) (scan a ts b) := by
  have hat : ∀ f, Mt M st anch l f a → ∀ y, scan a ts b = some y → y.1 ≤ f ∧ (f = y.1 → a ≤ y.2) := by
    intro f hf y hy
    by_cases hb : ∀ y, b = some y → f ≤ y.1
    · obtain ⟨f', h1, h2⟩ := ht.comp f 0 hf.al (by have := hf.le; omega) hb (.inl rfl) hf.rch
      obtain ⟨y2, h3, h4, h5⟩ := scan_mem a ts b f' h2 (fun y hy => Nat.le_trans h1 (hb y hy))
      rw [hy] at h3
      injection h3 with h3
      subst h3
      exact ⟨by omega, fun _ => by omega⟩
    · simp only [Classical.not_forall, Nat.not_le] at hb
      obtain ⟨y0, hy0, hlt⟩ := hb
      obtain ⟨y2, h3, h4, _⟩ := scan_some a ts b y0 hy0
      rw [hy] at h3
      injection h3 with h3
      subst h3
      exact ⟨by omega, fun _ => by omega⟩
  refine ⟨fun y hy => ?_, fun hn f e he hm => ?_, fun y hy f e he hm => ?_⟩
  · rcases scan_from a ts b y hy with h1 | ⟨h1, h2⟩
    · have := h.mt y h1
      exact ⟨this.1, by omega⟩
    · obtain ⟨h3, h4, _, h6⟩ := ht.sound _ h2
      simp only at h3 h4 h6
      exact ⟨⟨h3, by rw [h1]; exact h4, by omega, by rw [h1]; exact h6⟩, by omega⟩
  · have hbn : b = none := by
      rcases b with _ | y
      · rfl
      · obtain ⟨y1, h1, _⟩ := scan_some a ts (some y) y rfl
        rw [hn] at h1; cases h1
    by_cases hea : e < a
    · exact h.no hbn f e hea hm
    · obtain rfl : e = a := by omega
      obtain ⟨f', h1, h2⟩ := ht.comp f 0 hm.al (by have := hm.le; omega) (fun y hy => by rw [hbn] at hy; cases hy) (.inl rfl) hm.rch
      obtain ⟨y2, h3, _⟩ := scan_mem e ts b f' h2 (fun y hy => by rw [hbn] at hy; cases hy)
      rw [hn] at h3; cases h3
  · by_cases hea : e < a
    · rcases hb : b with _ | y0
      · exact absurd hm (h.no hb f e hea)
      · obtain ⟨y1, h1, h2, h3⟩ := scan_some a ts b y0 hb
        rw [hy] at h1
        injection h1 with h1
        subst h1
        have h4 := h.best y0 hb f e hea hm
        refine ⟨by omega, fun hf => ?_⟩
        rcases h3 with rfl | h3
        · exact h4.2 hf
        · omega
    · obtain rfl : e = a := by omega
      exact hat f hm y hy
theorem begin_thr {a : Nat} {now : List Th} {mk : List Nat} {b : Option (Nat × Nat)} (hOk : Ok M) (hst : st < M.length) (hg : G M (a + 1) (now, mk) a) (ht : Thr M st anch l a a now b) (hb : Bst M st anch l a b) :
    Thr M st anch l a (a + 1) (begin_ M (M.length + 1) st anch a now mk b).1 b ∧ G M (a + 1) (begin_ M (M.length + 1) st anch a now mk b) a ∧ ∀ x v : Nat, (begin_ M (M.length + 1) st anch a now mk b).2[x]? = some v → v = a + 1 ∨ mk[x]? = some v := by
  unfold begin_
  split
  · rename_i hc
    have h1 := hg.spread hOk (q := st) (f := a) (Nat.le_refl _) hst
    refine ⟨⟨fun t htm => ?_, fun f x hal hf hy hx hr => ?_⟩, h1.g, h1.val⟩
    · rcases h1.sound t htm with h2 | ⟨h2, h3, h4⟩
      · exact ht.sound t h2
      · rw [h2]
        exact ⟨hc.2.elim .inr .inl, Nat.le_refl _, h3, by rw [seg_self]; exact .nil h4⟩
    · by_cases hfa : f < a
      · obtain ⟨f', h2, h3⟩ := ht.comp f x hal hfa hy hx hr
        exact ⟨f', h2, h1.keep _ h3⟩
      · obtain rfl : f = a := by omega
        rw [seg_self] at hr
        exact h1.comp x hx hr.nil_inv
  · rename_i hc
    refine ⟨⟨ht.sound, fun f x hal hf hy hx hr => ?_⟩, hg, fun x v hv => .inr hv⟩
    by_cases hfa : f < a
    · exact ht.comp f x hal hfa hy hx hr
    · obtain rfl : f = a := by omega
      exfalso
      rcases hbb : b with _ | y
      · apply hc
        refine ⟨hbb, ?_⟩
        rcases hal with h2 | h2
        · exact .inr h2
        · exact .inl h2
      · have h2 := hb.mt y hbb
        have h3 := hy y hbb
        have := h2.1.le
        omega
theorem find_res {n : Nat} (hOk : Ok M) (hst : st < M.length) : ∀ (a : Nat) (now : List Th) (mk : List Nat) (b : Option (Nat × Nat)), a + n = l.length → G M (a + 1) (now, mk) a → Thr M st anch l a a now b → Bst M st anch l a b → (∀ x v : Nat, mk[x]? = some v → v ≤ a + 1) → Res M st anch l (findF M (M.length + 1) st anch (l.drop a) a now mk b) := by
  induction n with
  | zero =>
    intro a now mk b ha hg ht hb hv
    obtain ⟨h1, h2, h3⟩ := begin_thr hOk hst hg ht hb
    have h4 := scan_bst (by omega) hb h1
    rw [List.drop_eq_nil_of_le (by omega)]
    show Res M st anch l (scan a _ b)
    generalize hB : scan a (begin_ M (M.length + 1) st anch a now mk b).1 b = B at h4
    rcases B with _ | y
    · exact fun f e hm => h4.no rfl f e (by have := hm.len; omega) hm
    · exact ⟨(h4.mt y rfl).1, fun f e hm => h4.best y rfl f e (by have := hm.len; omega) hm⟩
  | succ n ih =>
    intro a now mk b ha hg ht hb hv
    obtain ⟨h1, h2, h3⟩ := begin_thr hOk hst hg ht hb
    have h4 := scan_bst (by omega) hb h1
    have hmono : ∀ y, b = some y → ∃ y1, scan a (begin_ M (M.length + 1) st anch a now mk b).1 b = some y1 ∧ y1.1 ≤ y.1 := fun y hy => by
      obtain ⟨y1, h5, h6, _⟩ := scan_some a (begin_ M (M.length + 1) st anch a now mk b).1 b y hy
      exact ⟨y1, h5, h6⟩
    obtain ⟨c, hc⟩ : ∃ c, l[a]? = some c := ⟨_, List.getElem?_eq_getElem (by omega)⟩
    have hdrop : l.drop a = c :: l.drop (a + 1) := by
      rw [List.drop_eq_getElem_cons (by omega)]
      rw [(List.getElem?_eq_some_iff.1 hc).2]
    rw [hdrop, findF]
    generalize hB : scan a (begin_ M (M.length + 1) st anch a now mk b).1 b = B at h4 hmono ⊢
    generalize hP : begin_ M (M.length + 1) st anch a now mk b = P at h1 h2 h3 hB ⊢
    have hBy : ∀ f, (∀ y, B = some y → f ≤ y.1) → ∀ y, b = some y → f ≤ y.1 := fun f hf y hy => by
      obtain ⟨y1, h5, h6⟩ := hmono y hy
      exact Nat.le_trans (hf y1 h5) h6
    split
    · rename_i hcc
      have hno : ∀ f e, (∀ y, B = some y → f ≤ y.1) → f ≤ a → a < e → ¬ Mt M st anch l f e := by
        intro f e hy hf he hm
        have hsp := seg_split (l := l) hf (Nat.le_of_lt he) hm.len
        have hr := hm.rch
        have hne : seg l a e ≠ [] := fun h0 => by
          have := seg_len (l := l) (f := a) hm.len
          rw [h0] at this
          simp at this; omega
        obtain ⟨r, h5, h6⟩ := hr.mid _ _ hsp hne
        obtain ⟨f', _, h7⟩ := h1.comp f r hm.al (by omega) (hBy f hy) h5 h6
        rw [hcc.1] at h7
        simp at h7
      rcases B with _ | y
      · have han : anch = true := by simpa using hcc.2
        intro f e hm
        have hf0 : f = 0 := by
          rcases hm.al with h5 | h5
          · rw [han] at h5; cases h5
          · exact h5
        by_cases he : e < a + 1
        · exact h4.no rfl f e he hm
        · exact hno f e (fun y hy => by cases hy) (by omega) (by omega) hm
      · have hmy := h4.mt y rfl
        refine ⟨hmy.1, fun f e hm => ?_⟩
        by_cases he : e < a + 1
        · exact h4.best y rfl f e he hm
        · by_cases hfy : f ≤ y.1
          · exact absurd hm (hno f e (fun z hz => by injection hz with hz; subst hz; exact hfy) (by have := hmy.1.le; omega) (by omega))
          · exact ⟨by omega, fun h => by omega⟩
    · have hG0 : G M (a + 2) ([], P.2) 0 := by
        refine ⟨fun x hx => ?_, fun t ht => by simp at ht, .nil, h2.len⟩
        simp only at hx
        rcases h3 x _ hx with h5 | h5
        · omega
        · have := hv x _ h5
          omega
      have hS := step_stp hOk (k := a + 2) (bd := B) (c := c) P.1 ([], P.2) 0 a hG0 (Nat.zero_le _) (fun t ht => ⟨Nat.zero_le _, h2.le t ht⟩) h2.sorted
      generalize step M (M.length + 1) B c (a + 2) P.1 ([], P.2) = r at hS ⊢
      refine ih (a + 1) r.1 r.2 B (by omega) (hS.g.mono (by omega)) ⟨fun t htm => ?_, fun f x hal hf hy hx hr => ?_⟩ h4 (fun x v hxv => ?_)
      · rcases hS.sound t htm with h5 | ⟨h5, u, hu, h6, g, p, h7, h8, h9⟩
        · simp at h5
        · obtain ⟨h10, h11, h12, h13⟩ := h1.sound u hu
          rw [← h6]
          refine ⟨h10, by omega, h5, ?_⟩
          rw [seg_succ h11 hc]
          exact .snoc h13 h7 h8 h9
      · rw [seg_succ (by omega) hc] at hr
        generalize hw : seg l f a ++ [c] = w at hr
        cases hr with
        | nil _ => simp at hw
        | @snoc w' r0 p _ g c' h5 h6 h7 h8 =>
          have e1 := List.append_inj' hw rfl
          have e2 : c = c' := by simpa using e1.2
          rw [← e1.1] at h5
          rw [← e2] at h7
          obtain ⟨f', h9, h10⟩ := h1.comp f r0 hal (by omega) (hBy f hy) (.inr ⟨g, p, h6⟩) h5
          obtain ⟨f'', h11, h12⟩ := hS.comp (r0, f') h10 (fun y hyB => Nat.le_trans h9 (hy y hyB)) g p h6 h7 x hx h8
          exact ⟨f'', Nat.le_trans h11 h9, h12⟩
      · rcases hS.val x v hxv with h5 | h5
        · omega
        · rcases h3 x v h5 with h6 | h6
          · omega
          · have := hv x v h6
            omega
end
/-- A search tells the leftmost longest match. -/
theorem search_res (a : As) (anch : Bool) (l : List UInt8) : Res (mach a).2 (mach a).1 anch l (search a anch l) := by
  have hz : ∀ (x v : Nat), (List.replicate (mach a).2.length 0)[x]? = some v → v = 0 := fun x v hx => by
    rw [List.getElem?_replicate] at hx
    split at hx
    · injection hx with hx; omega
    · cases hx
  have hG : G (mach a).2 (0 + 1) (([] : List Th), List.replicate (mach a).2.length 0) 0 := by
    refine ⟨fun x hx => ?_, fun t ht => ?_, List.Pairwise.nil, by simp⟩
    · have := hz x _ hx; omega
    · simp at ht
  have hT : Thr (mach a).2 (mach a).1 anch l 0 0 [] none := ⟨fun t ht => by simp at ht, fun f x _ hf => by omega⟩
  have hB : Bst (mach a).2 (mach a).1 anch l 0 none := ⟨fun y hy => (by cases hy), fun _ f e he => by omega, fun y hy => (by cases hy)⟩
  exact find_res (anch := anch) (l := l) (n := l.length) (mach_ok a) (mach_lt a) 0 [] (List.replicate (mach a).2.length 0) none (by omega) hG hT hB (fun x v hx => by have := hz x v hx; omega)
theorem mt_iff (a : As) (anch : Bool) (l : List UInt8) (f e : Nat) : Mt (mach a).2 (mach a).1 anch l f e ↔ allowed anch f ∧ f ≤ e ∧ e ≤ l.length ∧ MA a (seg l f e) := by
  constructor
  · intro h
    exact ⟨h.al, h.le, h.len, (mach_acc a _).1 ((rch_iff (mach_zero a)).1 h.rch)⟩
  · rintro ⟨h1, h2, h3, h4⟩
    exact ⟨h1, h2, h3, (rch_iff (mach_zero a)).2 ((mach_acc a _).2 h4)⟩
/-- Match tells whether the tree matches. -/
theorem matchR_iff (p l : List UInt8) : matchR p l = true ↔ ∃ a, parse p = some a ∧ MA a l := by
  unfold matchR
  rcases hp : parse p with _ | a
  · simp
  · simp only [Option.some.injEq, exists_eq_left']
    have h := search_res a true l
    rcases hs : search a true l with _ | y
    · rw [hs] at h
      simp only [Bool.false_eq_true, false_iff]
      intro hm
      exact h 0 l.length ((mt_iff a true l 0 l.length).2 ⟨.inr rfl, Nat.zero_le _, Nat.le_refl _, by simpa [seg] using hm⟩)
    · rw [hs] at h
      obtain ⟨h1, h2⟩ := h
      have h3 := (mt_iff a true l _ _).1 h1
      have hy0 : y.1 = 0 := by
        rcases h3.1 with h4 | h4
        · cases h4
        · exact h4
      simp only [beq_iff_eq]
      constructor
      · intro he
        have := h3.2.2.2
        rw [hy0, he] at this
        simpa [seg] using this
      · intro hm
        have h4 := h2 0 l.length ((mt_iff a true l 0 l.length).2 ⟨.inr rfl, Nat.zero_le _, Nat.le_refl _, by simpa [seg] using hm⟩)
        have h5 := h4.2 hy0.symm
        have h6 := h3.2.2.1
        omega
end Rx
end Go.Proofs.Ytheblleadjbndaa

namespace Go.Proofs.Ytheblleadjbndaa
namespace Rx
theorem items_mono (n : Nat) : ∀ (m : Nat) (g : UInt8 → Bool) (l : List UInt8) (x : (UInt8 → Bool) × List UInt8), n ≤ m → items n g l = some x → items m g l = some x := by
  induction n with
  | zero => intro m g l x _ h; simp [items] at h
  | succ n ih =>
    intro m g l x hm h
    obtain ⟨m, rfl⟩ : ∃ k, m = k + 1 := ⟨m - 1, by omega⟩
    rw [items, Option.bind_eq_some_iff] at h
    obtain ⟨⟨a, r⟩, h1, h⟩ := h
    simp only at h
    rw [Option.bind_eq_some_iff] at h
    obtain ⟨⟨b, r'⟩, h2, h⟩ := h
    rw [items, h1, Option.bind_some]
    simp only
    rw [h2, Option.bind_some]
    simp only at h ⊢
    split at h
    · exact h
    · rename_i hne
      exact ih m _ _ _ (by omega) h
theorem item_app {l r t : List UInt8} {a : UInt8} (h : item l = some (a, r)) : item (l ++ t) = some (a, r ++ t) := by
  rcases l with _ | ⟨c, l⟩
  · cases h
  · simp only [item] at h
    simp only [List.cons_append, item]
    split at h
    · cases h
    · rename_i h93
      rw [if_neg h93]
      split at h
      · rename_i h92
        rw [if_pos h92]
        rcases l with _ | ⟨d, l⟩
        · cases h
        · simp only [Option.map_eq_some_iff, Prod.mk.injEq] at h
          obtain ⟨b, h1, rfl, rfl⟩ := h
          simp [h1]
      · rename_i h92
        rw [if_neg h92]
        simp only [Option.some.injEq, Prod.mk.injEq] at h
        obtain ⟨rfl, rfl⟩ := h
        rfl
theorem items_dash (n : Nat) (g : UInt8 → Bool) : items n g [45] = none := by
  rcases n with _ | n
  · rfl
  · rcases n with _ | n
    · rfl
    · rfl
theorem last_app {r r' t : List UInt8} {a b : UInt8} (hr : r ≠ [45]) (h : last a r = some (b, r')) : last a (r ++ 41 :: t) = some (b, r' ++ 41 :: t) := by
  unfold last at h ⊢
  rcases r with _ | ⟨x, _ | ⟨y, r⟩⟩
  · simp only [isRange] at h
    have : isRange ([] ++ 41 :: t) = false := by rcases t with _ | ⟨u, t⟩ <;> rfl
    rw [this]
    simp only [Bool.false_eq_true, if_false] at h ⊢
    injection h with h
    injection h with h1 h2
    subst h1 h2
    rfl
  · simp only [isRange] at h
    have hx : x ≠ 45 := fun e => hr (by rw [e])
    have : isRange ([x] ++ 41 :: t) = false := by simp [isRange, hx]
    rw [this]
    simp only [Bool.false_eq_true, if_false] at h ⊢
    injection h with h
    injection h with h1 h2
    subst h1 h2
    rfl
  · have : isRange (x :: y :: r ++ 41 :: t) = isRange (x :: y :: r) := rfl
    rw [this]
    split at h
    · rename_i hi
      rw [if_pos hi]
      rw [Option.bind_eq_some_iff] at h
      obtain ⟨⟨b1, r1⟩, h1, h2⟩ := h
      have h3 := item_app (t := 41 :: t) h1
      simp only [List.tail_cons, List.cons_append] at h3 ⊢
      rw [h3, Option.bind_some]
      simp only at h2 ⊢
      split at h2
      · cases h2
      · rename_i hlt
        rw [if_neg hlt]
        injection h2 with h2
        injection h2 with h4 h5
        subst h4 h5
        rfl
    · rename_i hi
      rw [if_neg hi]
      injection h with h
      injection h with h1 h2
      subst h1 h2
      rfl
theorem items_app (n : Nat) : ∀ (g f : UInt8 → Bool) (l r t : List UInt8), items n g l = some (f, r) → items n g (l ++ 41 :: t) = some (f, r ++ 41 :: t) := by
  induction n with
  | zero => intro g f l r t h; simp [items] at h
  | succ n ih =>
    intro g f l r t h
    rw [items, Option.bind_eq_some_iff] at h
    obtain ⟨⟨a, r1⟩, h1, h⟩ := h
    simp only at h
    rw [Option.bind_eq_some_iff] at h
    obtain ⟨⟨b, r2⟩, h2, h⟩ := h
    simp only at h
    have hr1 : r1 ≠ [45] := fun e => by
      subst e
      simp only [last, isRange, Bool.false_eq_true, if_false] at h2
      injection h2 with h2
      injection h2 with _ h3
      subst h3
      rw [items_dash] at h
      cases h
    rw [items, item_app (t := 41 :: t) h1, Option.bind_some]
    simp only
    rw [last_app (t := t) hr1 h2, Option.bind_some]
    simp only
    split at h
    · injection h with h
      injection h with h3 h4
      subst h3 h4
      rfl
    · rename_i hne
      have h5 := ih _ _ _ _ t h
      rcases r2 with _ | ⟨x, r2⟩
      · exact h5
      · have hx : x ≠ 93 := fun e => hne r2 (by rw [e])
        split
        · rename_i r'' he
          simp only [List.cons_append] at he
          injection he with he _
          exact absurd he hx
        · exact h5
theorem bracket_app {l r t : List UInt8} {u : U} (h : bracket l = some (u, r)) : bracket (l ++ 41 :: t) = some (u, r ++ 41 :: t) := by
  unfold bracket at h
  split at h
  · rename_i r0
    rw [Option.map_eq_some_iff] at h
    obtain ⟨⟨g, r1⟩, h1, h2⟩ := h
    injection h2 with h3 h4
    subst h3 h4
    have h5 := items_mono _ ((r0 ++ 41 :: t).length + 1) _ _ _ (by simp) (items_app _ _ _ _ _ t h1)
    simp only [List.cons_append, bracket]
    rw [h5]; rfl
  · rename_i hne
    rw [Option.map_eq_some_iff] at h
    obtain ⟨⟨g, r1⟩, h1, h2⟩ := h
    injection h2 with h3 h4
    subst h3 h4
    have h5 := items_mono _ ((l ++ 41 :: t).length + 1) _ _ _ (by simp) (items_app _ _ _ _ _ t h1)
    unfold bracket
    split
    · rename_i r0 he
      rcases l with _ | ⟨x, l⟩
      · simp [items, item] at h1
      · simp only [List.cons_append] at he
        injection he with he _
        exact absurd (by rw [he]) (hne l)
    · rw [h5]; rfl
theorem quant_app (u : U) (l t : List UInt8) : quant u (l ++ 41 :: t) = ((quant u l).1, (quant u l).2 ++ 41 :: t) := by
  rcases l with _ | ⟨c, l⟩
  · rfl
  · unfold quant
    simp only [List.cons_append]
    split
    · rename_i h; injection h with h1 h2; subst h1 h2; rfl
    · rename_i h; injection h with h1 h2; subst h1 h2; rfl
    · rename_i h; injection h with h1 h2; subst h1 h2; rfl
    · rename_i h1 h2 h3
      split
      · rename_i h; injection h with h4 h5; exact absurd (by rw [h4]) (h1 _)
      · rename_i h; injection h with h4 h5; exact absurd (by rw [h4]) (h2 _)
      · rename_i h; injection h with h4 h5; exact absurd (by rw [h4]) (h3 _)
      · rfl
/-- More steps do no harm. -/
theorem fuel_mono (n : Nat) : (∀ (m : Nat) (l : List UInt8) (x : As × List UInt8), n ≤ m → alts n l = some x → alts m l = some x) ∧ (∀ (m : Nat) (l : List UInt8) (x : Ss × List UInt8), n ≤ m → seqs n l = some x → seqs m l = some x) ∧ (∀ (m : Nat) (l : List UInt8) (x : U × List UInt8), n ≤ m → atom n l = some x → atom m l = some x) := by
  induction n with
  | zero => exact ⟨fun _ _ _ _ h => by simp [alts] at h, fun _ _ _ _ h => by simp [seqs] at h, fun _ _ _ _ h => by simp [atom] at h⟩
  | succ n ih =>
    obtain ⟨iA, iS, iU⟩ := ih
    refine ⟨?_, ?_, ?_⟩
    · intro m l x hm h
      obtain ⟨m, rfl⟩ : ∃ k, m = k + 1 := ⟨m - 1, by omega⟩
      rw [alts, Option.bind_eq_some_iff] at h
      obtain ⟨⟨s, r1⟩, h1, h⟩ := h
      rw [alts, iS m _ _ (by omega) h1, Option.bind_some]
      simp only at h ⊢
      split at h
      · rw [Option.map_eq_some_iff] at h
        obtain ⟨y, h2, h3⟩ := h
        rw [iA m _ _ (by omega) h2]
        exact congrArg some h3
      · rename_i hne
        exact h
    · intro m l x hm h
      obtain ⟨m, rfl⟩ : ∃ k, m = k + 1 := ⟨m - 1, by omega⟩
      rcases l with _ | ⟨c, t⟩
      · simpa only [seqs] using h
      · simp only [seqs] at h ⊢
        split at h
        · rename_i hc
          rw [if_pos hc]; exact h
        · rename_i hc
          rw [if_neg hc]
          rw [Option.bind_eq_some_iff] at h
          obtain ⟨⟨u, r1⟩, h1, h⟩ := h
          rw [Option.map_eq_some_iff] at h
          obtain ⟨y, h2, h3⟩ := h
          rw [iU m _ _ (by omega) h1, Option.bind_some]
          simp only at h2 h3 ⊢
          rw [iS m _ _ (by omega) h2]
          exact congrArg some h3
    · intro m l x hm h
      obtain ⟨m, rfl⟩ : ∃ k, m = k + 1 := ⟨m - 1, by omega⟩
      rcases l with _ | ⟨c, t⟩
      · simp [atom] at h
      · simp only [atom] at h ⊢
        split at h
        · rename_i hc
          rw [if_pos hc]
          rw [Option.bind_eq_some_iff] at h
          obtain ⟨⟨a, r1⟩, h1, h⟩ := h
          rw [iA m _ _ (by omega) h1, Option.bind_some]
          exact h
        · rename_i hc
          rw [if_neg hc]
          exact h
/-- What was read ahead of the end is read ahead of a closing bracket, too. -/
theorem suffix (t : List UInt8) (n : Nat) : (∀ (l r : List UInt8) (a : As), alts n l = some (a, r) → alts n (l ++ 41 :: t) = some (a, r ++ 41 :: t)) ∧ (∀ (l r : List UInt8) (s : Ss), seqs n l = some (s, r) → seqs n (l ++ 41 :: t) = some (s, r ++ 41 :: t)) ∧ (∀ (l r : List UInt8) (u : U), atom n l = some (u, r) → atom n (l ++ 41 :: t) = some (u, r ++ 41 :: t)) := by
  induction n with
  | zero => exact ⟨fun _ _ _ h => by simp [alts] at h, fun _ _ _ h => by simp [seqs] at h, fun _ _ _ h => by simp [atom] at h⟩
  | succ n ih =>
    obtain ⟨iA, iS, iU⟩ := ih
    refine ⟨?_, ?_, ?_⟩
    · intro l r a h
      rw [alts, Option.bind_eq_some_iff] at h
      obtain ⟨⟨s, r1⟩, h1, h⟩ := h
      rw [alts, iS _ _ _ h1, Option.bind_some]
      simp only at h ⊢
      split at h
      · rw [Option.map_eq_some_iff] at h
        obtain ⟨⟨a2, r2⟩, h2, h3⟩ := h
        injection h3 with h3 h4
        subst h3 h4
        simp only [List.cons_append]
        rw [iA _ _ _ h2]; rfl
      · rename_i hne
        injection h with h
        injection h with h3 h4
        subst h3 h4
        rcases r1 with _ | ⟨x, r1⟩
        · rfl
        · simp only [List.cons_append]
          split
          · rename_i he
            injection he with he1 he2
            exact absurd (by rw [he1]) (hne r1)
          · rfl
    · intro l r s h
      rcases l with _ | ⟨c, l⟩
      · simp only [seqs] at h
        injection h with h
        injection h with h3 h4
        subst h3 h4
        simp [seqs]
      · simp only [seqs] at h
        simp only [List.cons_append, seqs]
        split at h
        · rename_i hc
          rw [if_pos hc]
          injection h with h
          injection h with h3 h4
          subst h3 h4
          rfl
        · rename_i hc
          rw [if_neg hc]
          rw [Option.bind_eq_some_iff] at h
          obtain ⟨⟨u, r1⟩, h1, h⟩ := h
          rw [Option.map_eq_some_iff] at h
          obtain ⟨⟨s2, r2⟩, h2, h3⟩ := h
          injection h3 with h3 h4
          subst h3 h4
          have h5 := iU _ _ _ h1
          simp only [List.cons_append] at h5
          rw [h5, Option.bind_some]
          simp only at h2 ⊢
          rw [quant_app]
          simp only
          rw [iS _ _ _ h2]
          rfl
    · intro l r u h
      rcases l with _ | ⟨c, l⟩
      · simp [atom] at h
      · simp only [atom] at h
        simp only [List.cons_append, atom]
        split at h
        · rename_i hc
          rw [if_pos hc]
          rw [Option.bind_eq_some_iff] at h
          obtain ⟨⟨a, r1⟩, h1, h⟩ := h
          rw [iA _ _ _ h1, Option.bind_some]
          simp only at h ⊢
          split at h
          · injection h with h
            injection h with h3 h4
            subst h3 h4
            rfl
          · cases h
        · rename_i hc
          rw [if_neg hc]
          split at h
          · rename_i hc2
            rw [if_pos hc2]
            exact bracket_app h
          · rename_i hc2
            rw [if_neg hc2]
            split at h
            · rename_i hc3
              rw [if_pos hc3]
              injection h with h
              injection h with h3 h4
              subst h3 h4
              rfl
            · rename_i hc3
              rw [if_neg hc3]
              split at h
              · rename_i hc4
                rw [if_pos hc4]
                rcases l with _ | ⟨d, l⟩
                · cases h
                · simp only [List.cons_append] at h ⊢
                  rw [Option.map_eq_some_iff] at h
                  obtain ⟨y, h2, h3⟩ := h
                  injection h3 with h3 h4
                  subst h3 h4
                  rw [h2]; rfl
              · rename_i hc4
                rw [if_neg hc4]
                split at h
                · cases h
                · rename_i hc5
                  rw [if_neg hc5]
                  injection h with h
                  injection h with h3 h4
                  subst h3 h4
                  rfl
theorem parse_alts {p : List UInt8} {a : As} (h : parse p = some a) : p.length ≤ 200 ∧ alts (fuel p.length) p = some (a, []) := by
  unfold parse at h
  split at h
  · cases h
  · rename_i hl
    refine ⟨by omega, ?_⟩
    split at h
    · rename_i a' h1
      injection h with h
      subst h
      exact h1
    · cases h
theorem parse_of {p : List UInt8} {a : As} (hl : p.length ≤ 200) (h : alts (fuel p.length) p = some (a, [])) : parse p = some a := by
  unfold parse
  rw [if_neg (by omega), h]
/-- An expression in brackets. -/
theorem atom_brk {p t : List UInt8} {a : As} (h : parse p = some a) {m : Nat} (hm : fuel p.length ≤ m) : atom (m + 1) (40 :: (p ++ 41 :: t)) = some (.grp a, t) := by
  have h1 := (suffix t _).1 _ _ _ (parse_alts h).2
  have h2 := (fuel_mono _).1 m _ _ hm h1
  simp only [atom]
  rw [if_pos trivial, h2, Option.bind_some]
  rfl
theorem seqs_end {m : Nat} (t : List UInt8) (h : t = [] ∨ ∃ r, t = 124 :: r) : seqs (m + 1) t = some (.nil, t) := by
  rcases h with rfl | ⟨r, rfl⟩
  · rfl
  · simp [seqs]
theorem quant_end (u : U) (t : List UInt8) (h : t = [] ∨ (∃ r, t = 124 :: r) ∨ ∃ r, t = 40 :: r) : quant u t = (u, t) := by
  rcases h with rfl | ⟨r, rfl⟩ | ⟨r, rfl⟩ <;> rfl
/-- A sequence that begins with an expression in brackets. -/
theorem seqs_grp {p t : List UInt8} {a : As} (h : parse p = some a) {m : Nat} (hm : fuel p.length ≤ m) : seqs (m + 2) (40 :: (p ++ 41 :: t)) = (seqs (m + 1) (quant (.grp a) t).2).map fun x => (.cons (quant (.grp a) t).1 x.1, x.2) := by
  rw [seqs]
  rw [if_neg (by decide), atom_brk h hm, Option.bind_some]
def g1 (a : As) : Ss := .cons (.grp a) .nil
theorem parse_either {p q : List UInt8} {a b : As} (ha : parse p = some a) (hb : parse q = some b) (hl : p.length + q.length + 5 ≤ 200) : parse (40 :: (p ++ 41 :: 124 :: 40 :: (q ++ [41]))) = some (.more (g1 a) (.one (g1 b))) := by
  apply parse_of (by simp; omega)
  have e : fuel (40 :: (p ++ 41 :: 124 :: 40 :: (q ++ [41]))).length = (4 * (p.length + q.length) + 20) + 4 := by simp [fuel]; omega
  rw [e, alts, seqs_grp ha (by unfold fuel; omega), quant_end _ _ (.inr (.inl ⟨_, rfl⟩)), seqs_end _ (.inr ⟨_, rfl⟩)]
  simp only [Option.map_some, Option.bind_some]
  rw [alts, seqs_grp hb (by unfold fuel; omega), quant_end _ _ (.inl rfl), seqs_end _ (.inl rfl)]
  rfl
theorem parse_concat {p q : List UInt8} {a b : As} (ha : parse p = some a) (hb : parse q = some b) (hl : p.length + q.length + 4 ≤ 200) : parse (40 :: (p ++ 41 :: 40 :: (q ++ [41]))) = some (.one (.cons (.grp a) (g1 b))) := by
  apply parse_of (by simp; omega)
  have e : fuel (40 :: (p ++ 41 :: 40 :: (q ++ [41]))).length = (4 * (p.length + q.length) + 16) + 4 := by simp [fuel]; omega
  rw [e, alts, seqs_grp ha (by unfold fuel; omega), quant_end _ _ (.inr (.inr ⟨_, rfl⟩)), seqs_grp hb (by unfold fuel; omega), quant_end _ _ (.inl rfl), seqs_end _ (.inl rfl)]
  rfl
theorem parse_quant {p : List UInt8} {a : As} (ha : parse p = some a) (hl : p.length + 3 ≤ 200) (c : UInt8) (u : U) (hc : quant (.grp a) [c] = (u, [])) : parse (40 :: (p ++ 41 :: [c])) = some (.one (.cons u .nil)) := by
  apply parse_of (by simp only [List.length_cons, List.length_append, List.length_nil]; omega)
  have e : fuel (40 :: (p ++ 41 :: [c])).length = (4 * p.length + 12) + 4 := by simp [fuel]; omega
  rw [e, alts, seqs_grp ha (by unfold fuel; omega), hc, seqs_end _ (.inl rfl)]
  rfl
theorem parse_long {p : List UInt8} (h : 200 < p.length) : parse p = none := by
  unfold parse
  rw [if_pos h]
end Rx
end Go.Proofs.Ytheblleadjbndaa

namespace Go.Proofs.Ytheblleadjbndaa
namespace Rx
theorem checkR_zero {p : List UInt8} : checkR p = 0 ↔ ∃ a, parse p = some a := by
  unfold checkR
  by_cases h : 200 < p.length
  · rw [if_pos h, parse_long h]; simp
  · rw [if_neg h]
    rcases parse p with _ | a <;> simp
theorem bool_iff {x : Bool} {P : Prop} [Decidable P] (h : x = true ↔ P) : x = decide P := by
  by_cases hp : P
  · rw [h.2 hp, decide_eq_true hp]
  · rw [decide_eq_false hp]
    cases x
    · rfl
    · exact absurd (h.1 rfl) hp
theorem bool_same {x y : Bool} (h : x = true ↔ y = true) : x = y := by
  cases x <;> cases y <;> simp_all
theorem match_of {p l : List UInt8} {a : As} (ha : parse p = some a) : matchR p l = true ↔ MA a l := by
  rw [matchR_iff, ha]
  simp
def eitherS (p q : List UInt8) : List UInt8 := 40 :: (p ++ 41 :: 124 :: 40 :: (q ++ [41]))
def concatS (p q : List UInt8) : List UInt8 := 40 :: (p ++ 41 :: 40 :: (q ++ [41]))
def quantS (p : List UInt8) (c : UInt8) : List UInt8 := 40 :: (p ++ 41 :: [c])
theorem MS_one {u : U} {w : List UInt8} : MS (.cons u .nil) w ↔ MU u w := by
  simp only [MS]
  constructor
  · rintro ⟨x, y, rfl, h, rfl⟩; simpa using h
  · intro h; exact ⟨w, [], by simp, h, rfl⟩
theorem MS_g1 {a : As} {w : List UInt8} : MS (g1 a) w ↔ MA a w := by
  unfold g1
  rw [MS_one]; simp only [MU]
section
variable {p q : List UInt8} (hp : checkR p = 0) (hq : checkR q = 0)
include hp
theorem check_quant (c : UInt8) (hc : c = 42 ∨ c = 43 ∨ c = 63) : checkR (quantS p c) = if 200 < p.length + 3 then 4 else 0 := by
  have hl : (quantS p c).length = p.length + 3 := by simp [quantS]
  split
  · unfold checkR; rw [if_pos (by omega)]
  · obtain ⟨a, ha⟩ := checkR_zero.1 hp
    rw [checkR_zero]
    rcases hc with rfl | rfl | rfl
    · exact ⟨_, parse_quant ha (by omega) 42 (.star (.grp a)) rfl⟩
    · exact ⟨_, parse_quant ha (by omega) 43 (.plus (.grp a)) rfl⟩
    · exact ⟨_, parse_quant ha (by omega) 63 (.opt (.grp a)) rfl⟩
theorem match_opt (h : p.length + 3 ≤ 200) (s : List UInt8) : matchR (quantS p 63) s = (decide (s = []) || matchR p s) := by
  obtain ⟨a, ha⟩ := checkR_zero.1 hp
  apply bool_same
  rw [match_of (p := quantS p 63) (parse_quant ha h 63 (.opt (.grp a)) rfl), Bool.or_eq_true, match_of ha, decide_eq_true_eq]
  simp only [MA, MS_one, MU]
include hq
theorem check_either : checkR (eitherS p q) = if 200 < p.length + q.length + 5 then 4 else 0 := by
  have hl : (eitherS p q).length = p.length + q.length + 5 := by simp [eitherS]; omega
  split
  · unfold checkR; rw [if_pos (by omega)]
  · obtain ⟨a, ha⟩ := checkR_zero.1 hp
    obtain ⟨b, hb⟩ := checkR_zero.1 hq
    rw [checkR_zero]
    exact ⟨_, parse_either ha hb (by omega)⟩
theorem match_either (h : p.length + q.length + 5 ≤ 200) (s : List UInt8) : matchR (eitherS p q) s = (matchR p s || matchR q s) := by
  obtain ⟨a, ha⟩ := checkR_zero.1 hp
  obtain ⟨b, hb⟩ := checkR_zero.1 hq
  apply bool_same
  rw [match_of (p := eitherS p q) (parse_either ha hb h), Bool.or_eq_true, match_of ha, match_of hb]
  simp only [MA, MS_g1]
theorem check_concat : checkR (concatS p q) = if 200 < p.length + q.length + 4 then 4 else 0 := by
  have hl : (concatS p q).length = p.length + q.length + 4 := by simp [concatS]; omega
  split
  · unfold checkR; rw [if_pos (by omega)]
  · obtain ⟨a, ha⟩ := checkR_zero.1 hp
    obtain ⟨b, hb⟩ := checkR_zero.1 hq
    rw [checkR_zero]
    exact ⟨_, parse_concat ha hb (by omega)⟩
theorem match_concat (h : p.length + q.length + 4 ≤ 200) (s : List UInt8) : matchR (concatS p q) s = true ↔ ∃ x y, s = x ++ y ∧ matchR p x = true ∧ matchR q y = true := by
  obtain ⟨a, ha⟩ := checkR_zero.1 hp
  obtain ⟨b, hb⟩ := checkR_zero.1 hq
  rw [match_of (p := concatS p q) (parse_concat ha hb h)]
  simp only [MA, MS, MU, MS_g1, match_of ha, match_of hb]
end
end Rx
end Go.Proofs.Ytheblleadjbndaa

namespace Go.Proofs.Ytheblleadjbndaa
namespace Rx
/-- Some cut ahead of j parts a string into what f and what g accept. -/
def cuts (f g : List UInt8 → Bool) (l : List UInt8) (j : Nat) : Bool := (List.range j).any fun i => f (l.take i) && g (l.drop i)
theorem cuts_zero (f g : List UInt8 → Bool) (l : List UInt8) : cuts f g l 0 = false := rfl
theorem cuts_succ (f g : List UInt8 → Bool) (l : List UInt8) (j : Nat) : cuts f g l (j + 1) = (cuts f g l j || (f (l.take j) && g (l.drop j))) := by
  unfold cuts
  rw [List.range_succ, List.any_append]
  simp
theorem cuts_iff {f g : List UInt8 → Bool} {l : List UInt8} : cuts f g l (l.length + 1) = true ↔ ∃ x y, l = x ++ y ∧ f x = true ∧ g y = true := by
  unfold cuts
  rw [List.any_eq_true]
  constructor
  · rintro ⟨i, _, h⟩
    rw [Bool.and_eq_true] at h
    exact ⟨_, _, (List.take_append_drop i l).symm, h.1, h.2⟩
  · rintro ⟨x, y, rfl, h1, h2⟩
    refine ⟨x.length, by simp; omega, ?_⟩
    rw [List.take_left, List.drop_left, h1, h2]
    rfl
theorem match_concat_cuts {p q : List UInt8} (hp : checkR p = 0) (hq : checkR q = 0) (h : p.length + q.length + 4 ≤ 200) (s : List UInt8) : matchR (concatS p q) s = cuts (matchR p) (matchR q) s (s.length + 1) :=
  bool_same ((match_concat hp hq h s).trans cuts_iff.symm)
/-- The same with a first part that is not empty, and the empty string. -/
def some_ (f g : List UInt8 → Bool) (l : List UInt8) (j : Nat) : Bool := decide (l = []) || (List.range j).any fun i => decide (0 < i) && f (l.take i) && g (l.drop i)
theorem some_zero (f g : List UInt8 → Bool) (l : List UInt8) : some_ f g l 0 = decide (l = []) := by simp [some_]
theorem some_succ (f g : List UInt8 → Bool) (l : List UInt8) (j : Nat) : some_ f g l (j + 1) = (some_ f g l j || (decide (0 < j) && f (l.take j) && g (l.drop j))) := by
  unfold some_
  rw [List.range_succ, List.any_append, Bool.or_assoc]
  simp
theorem star_iff {L : List UInt8 → Prop} {w : List UInt8} : Star L w ↔ w = [] ∨ ∃ x y, x ≠ [] ∧ w = x ++ y ∧ L x ∧ Star L y := by
  constructor
  · intro h
    induction h with
    | nil => exact .inl rfl
    | cons x y hx hy ih =>
      by_cases e : x = []
      · subst e; exact ih
      · exact .inr ⟨x, y, e, rfl, hx, hy⟩
  · rintro (rfl | ⟨x, y, _, rfl, h1, h2⟩)
    · exact .nil
    · exact .cons _ _ h1 h2
theorem match_star {p : List UInt8} (hp : checkR p = 0) (h : p.length + 3 ≤ 200) (s : List UInt8) : matchR (quantS p 42) s = some_ (matchR p) (matchR (quantS p 42)) s (s.length + 1) := by
  obtain ⟨a, ha⟩ := checkR_zero.1 hp
  have hm : ∀ w, matchR (quantS p 42) w = true ↔ Star (MU (.grp a)) w := fun w => by
    rw [match_of (p := quantS p 42) (parse_quant ha h 42 (.star (.grp a)) rfl)]
    simp only [MA, MS_one, MU]
  have hg : ∀ w, matchR p w = true ↔ MU (.grp a) w := fun w => by rw [match_of ha]; simp only [MU]
  apply bool_same
  rw [hm, star_iff]
  unfold some_
  rw [Bool.or_eq_true, decide_eq_true_eq, List.any_eq_true]
  constructor
  · rintro (rfl | ⟨x, y, h1, rfl, h3, h4⟩)
    · exact .inl rfl
    · refine .inr ⟨x.length, by simp; omega, ?_⟩
      rw [List.take_left, List.drop_left, (hg x).2 h3, (hm y).2 h4, decide_eq_true (List.length_pos_iff.2 h1)]
      rfl
  · rintro (rfl | ⟨i, hi, h1⟩)
    · exact .inl rfl
    · rw [Bool.and_eq_true, Bool.and_eq_true, decide_eq_true_eq] at h1
      rcases s with _ | ⟨c, s⟩
      · exact .inl rfl
      · refine .inr ⟨_, _, ?_, (List.take_append_drop i _).symm, (hg _).1 h1.1.2, (hm _).1 h1.2⟩
        obtain ⟨i, rfl⟩ : ∃ k, i = k + 1 := ⟨i - 1, by have := h1.1.1; omega⟩
        simp
theorem match_plus {p : List UInt8} (hp : checkR p = 0) (h : p.length + 3 ≤ 200) (s : List UInt8) : matchR (quantS p 43) s = cuts (matchR p) (matchR (quantS p 42)) s (s.length + 1) := by
  obtain ⟨a, ha⟩ := checkR_zero.1 hp
  apply bool_same
  rw [cuts_iff, match_of (p := quantS p 43) (parse_quant ha h 43 (.plus (.grp a)) rfl)]
  have hm : ∀ w, matchR (quantS p 42) w = true ↔ Star (MU (.grp a)) w := fun w => by
    rw [match_of (p := quantS p 42) (parse_quant ha h 42 (.star (.grp a)) rfl)]
    simp only [MA, MS_one, MU]
  have hg : ∀ w, matchR p w = true ↔ MU (.grp a) w := fun w => by rw [match_of ha]; simp only [MU]
  simp only [MA, MS_one]
  simp only [hm, hg]
  rw [MU]
/-! ### Searching -/
theorem find_some {p l : List UInt8} {f e : Nat} (h : findR p l = some (f, e)) : f ≤ e ∧ e ≤ l.length ∧ matchR p (seg l f e) = true ∧ ∀ i k, i ≤ k → k ≤ l.length → matchR p (seg l i k) = true → f ≤ i ∧ (i = f → k ≤ e) := by
  unfold findR at h
  rw [Option.bind_eq_some_iff] at h
  obtain ⟨a, ha, hs⟩ := h
  have hr := search_res a false l
  rw [hs] at hr
  have h1 := (mt_iff a false l _ _).1 hr.1
  exact ⟨h1.2.1, h1.2.2.1, (match_of ha).2 h1.2.2.2, fun i k h2 h3 h4 => hr.2 i k ((mt_iff a false l i k).2 ⟨.inl rfl, h2, h3, (match_of ha).1 h4⟩)⟩
theorem find_none {p l : List UInt8} (h : findR p l = none) (i k : Nat) (h2 : i ≤ k) (h3 : k ≤ l.length) : matchR p (seg l i k) = false := by
  rcases hm : matchR p (seg l i k) with _ | _
  · rfl
  · obtain ⟨a, ha, hx⟩ := (matchR_iff _ _).1 hm
    have hr := search_res a false l
    unfold findR at h
    rw [ha] at h
    rw [show search a false l = none from h] at hr
    exact absurd ((mt_iff a false l i k).2 ⟨.inl rfl, h2, h3, hx⟩) (hr i k)
end Rx
end Go.Proofs.Ytheblleadjbndaa
