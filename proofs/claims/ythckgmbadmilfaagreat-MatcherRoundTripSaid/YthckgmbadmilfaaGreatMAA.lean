/- Regular expressions as the chapter has them, in plain Lean: their structure and how they are read; no program. How much a reader of regular expressions takes: plain Lean. The machine of a regular expression, as a list of states: plain Lean. How a machine runs: the spreading of threads, plain Lean. -/
namespace Go.Proofs.YthckgmbadmilfaaGreat

def digB (c : UInt8) : Bool := decide (48 ≤ c.toNat) && decide (c.toNat ≤ 57)
def letB (c : UInt8) : Bool := (decide (97 ≤ c.toNat) && decide (c.toNat ≤ 122)) || (decide (65 ≤ c.toNat) && decide (c.toNat ≤ 90))
def wordB (c : UInt8) : Bool := (letB c || digB c) || decide (c.toNat = 95)

namespace Rx
mutual
/-- A factor. -/
inductive U where
  | byte (c : UInt8)
  | cls (f : UInt8 → Bool)
  | grp (a : As)
  | star (u : U)
  | plus (u : U)
  | opt (u : U)
/-- A sequence of factors. -/
inductive Ss where
  | nil
  | cons (u : U) (s : Ss)
/-- Alternatives. -/
inductive As where
  | one (s : Ss)
  | more (s : Ss) (a : As)
end

def special (c : UInt8) : Bool := [46, 91, 93, 40, 41, 124, 42, 43, 63, 92].contains c
/-- The byte for which an escape stands. -/
def escB (c : UInt8) : Option UInt8 := if c = 110 then some 10 else if c = 116 then some 9 else if letB c || digB c then none else some c
def escU (c : UInt8) : Option U := if c = 110 then some (.byte 10) else if c = 116 then some (.byte 9) else if c = 100 then some (.cls digB) else if c = 119 then some (.cls wordB) else if letB c || digB c then none else some (.byte c)
/-- An item of a class. -/
def item : List UInt8 → Option (UInt8 × List UInt8)
  | [] => none
  | c :: r => if c = 93 then none else if c = 92 then (match r with | [] => none | d :: r' => (escB d).map fun b => (b, r')) else some (c, r)
def isRange : List UInt8 → Bool
  | a :: b :: _ => a == 45 && b != 93
  | _ => false
def add (g : UInt8 → Bool) (a b : UInt8) : UInt8 → Bool := fun c => g c || (decide (a.toNat ≤ c.toNat) && decide (c.toNat ≤ b.toNat))
/-- The last byte of an item or a range, and what follows. -/
def last (a : UInt8) (r : List UInt8) : Option (UInt8 × List UInt8) := if isRange r then (item r.tail).bind fun (b, r') => if b.toNat < a.toNat then none else some (b, r') else some (a, r)
def items : Nat → (UInt8 → Bool) → List UInt8 → Option ((UInt8 → Bool) × List UInt8)
  | 0, _, _ => none
  | n + 1, g, l => (item l).bind fun (a, r) => (last a r).bind fun (b, r') => match r' with | 93 :: r'' => some (add g a b, r'') | _ => items n (add g a b) r'
def bracket (l : List UInt8) : Option (U × List UInt8) :=
  match l with
  | 94 :: r => (items (r.length + 1) (fun _ => false) r).map fun (g, r') => (.cls (fun c => g c != true), r')
  | _ => (items (l.length + 1) (fun _ => false) l).map fun (g, r') => (.cls (fun c => g c != false), r')
def quant (u : U) (l : List UInt8) : U × List UInt8 :=
  match l with
  | 42 :: r => (.star u, r)
  | 43 :: r => (.plus u, r)
  | 63 :: r => (.opt u, r)
  | _ => (u, l)
mutual
def alts : Nat → List UInt8 → Option (As × List UInt8)
  | 0, _ => none
  | n + 1, l => (seqs n l).bind fun (s, r) => match r with | 124 :: r' => (alts n r').map fun (a, r'') => (.more s a, r'') | _ => some (.one s, r)
def seqs : Nat → List UInt8 → Option (Ss × List UInt8)
  | 0, _ => none
  | n + 1, l => match l with
    | [] => some (.nil, [])
    | c :: r => if c = 124 ∨ c = 41 then some (.nil, c :: r) else (atom n (c :: r)).bind fun (u, r1) => (seqs n (quant u r1).2).map fun (s, r2) => (.cons (quant u r1).1 s, r2)
def atom : Nat → List UInt8 → Option (U × List UInt8)
  | 0, _ => none
  | n + 1, l => match l with
    | [] => none
    | c :: r =>
      if c = 40 then (alts n r).bind fun (a, r') => match r' with | 41 :: r'' => some (.grp a, r'') | _ => none
      else if c = 91 then bracket r
      else if c = 46 then some (.cls fun _ => true, r)
      else if c = 92 then (match r with | [] => none | d :: r' => (escU d).map fun u => (u, r'))
      else if special c then none else some (.byte c, r)
end
/-- Steps that suffice to read so many bytes. -/
def fuel (n : Nat) : Nat := 4 * n + 4
def parse (l : List UInt8) : Option As := if 200 < l.length then none else match alts (fuel l.length) l with | some (a, []) => some a | _ => none
end Rx
end Go.Proofs.YthckgmbadmilfaaGreat

namespace Go.Proofs.YthckgmbadmilfaaGreat
namespace Rx
theorem item_short {l r : List UInt8} {a : UInt8} (h : item l = some (a, r)) : r.length < l.length := by
  rcases l with _ | ⟨c, l⟩
  · cases h
  · simp only [item] at h
    split at h
    · cases h
    · split at h
      · rcases l with _ | ⟨d, l⟩
        · cases h
        · simp only [Option.map_eq_some_iff, Prod.mk.injEq] at h
          obtain ⟨b, _, _, rfl⟩ := h
          simp; omega
      · simp only [Option.some.injEq, Prod.mk.injEq] at h
        obtain ⟨_, rfl⟩ := h
        simp
theorem last_short {a b : UInt8} {r r' : List UInt8} (h : last a r = some (b, r')) : r'.length ≤ r.length := by
  unfold last at h
  split at h
  · rw [Option.bind_eq_some_iff] at h
    obtain ⟨⟨x, t⟩, h1, h2⟩ := h
    simp only at h2
    split at h2
    · cases h2
    · injection h2 with h2
      injection h2 with _ h2
      subst h2
      have := item_short h1
      simp at this
      omega
  · injection h with h
    injection h with _ h
    subst h
    exact Nat.le_refl _
theorem items_short (n : Nat) : ∀ (g f : UInt8 → Bool) (l r : List UInt8), items n g l = some (f, r) → r.length < l.length := by
  induction n with
  | zero => intro g f l r h; cases h
  | succ n ih =>
    intro g f l r h
    rw [items, Option.bind_eq_some_iff] at h
    obtain ⟨⟨a, r1⟩, h1, h⟩ := h
    simp only at h
    rw [Option.bind_eq_some_iff] at h
    obtain ⟨⟨b, r2⟩, h2, h⟩ := h
    have e1 := item_short h1
    have e2 := last_short h2
    simp only at h
    split at h
    · injection h with h
      injection h with _ h
      subst h
      simp only [List.length_cons] at e2
      omega
    · have := ih _ _ _ _ h
      omega
theorem bracket_short {l r : List UInt8} {u : U} (h : bracket l = some (u, r)) : r.length < l.length := by
  unfold bracket at h
  split at h
  · rw [Option.map_eq_some_iff] at h
    obtain ⟨⟨g, t⟩, h1, h2⟩ := h
    injection h2 with _ h2
    subst h2
    have := items_short _ _ _ _ _ h1
    simp; omega
  · rw [Option.map_eq_some_iff] at h
    obtain ⟨⟨g, t⟩, h1, h2⟩ := h
    injection h2 with _ h2
    subst h2
    exact items_short _ _ _ _ _ h1
theorem quant_short (u : U) (l : List UInt8) : (quant u l).2.length ≤ l.length := by
  unfold quant
  split <;> simp
theorem short (n : Nat) : (∀ (l r : List UInt8) (a : As), alts n l = some (a, r) → r.length ≤ l.length) ∧ (∀ (l r : List UInt8) (s : Ss), seqs n l = some (s, r) → r.length ≤ l.length) ∧ (∀ (l r : List UInt8) (u : U), atom n l = some (u, r) → r.length < l.length) := by
  induction n with
  | zero => exact ⟨fun _ _ _ h => by simp [alts] at h, fun _ _ _ h => by simp [seqs] at h, fun _ _ _ h => by simp [atom] at h⟩
  | succ n ih =>
    obtain ⟨iA, iS, iU⟩ := ih
    refine ⟨?_, ?_, ?_⟩
    · intro l r a h
      rw [alts, Option.bind_eq_some_iff] at h
      obtain ⟨⟨s, r1⟩, h1, h⟩ := h
      have e1 := iS _ _ _ h1
      simp only at h
      split at h
      · rw [Option.map_eq_some_iff] at h
        obtain ⟨⟨a2, r2⟩, h2, h3⟩ := h
        injection h3 with _ h3
        subst h3
        have e2 := iA _ _ _ h2
        simp only [List.length_cons] at e1 e2 ⊢
        omega
      · injection h with h
        injection h with _ h
        subst h
        exact e1
    · intro l r s h
      rcases l with _ | ⟨c, t⟩
      · simp only [seqs] at h
        injection h with h
        injection h with _ h
        subst h
        exact Nat.le_refl _
      · simp only [seqs] at h
        split at h
        · injection h with h
          injection h with _ h
          subst h
          exact Nat.le_refl _
        · rw [Option.bind_eq_some_iff] at h
          obtain ⟨⟨u, r1⟩, h1, h⟩ := h
          rw [Option.map_eq_some_iff] at h
          obtain ⟨⟨a2, r2⟩, h2, h3⟩ := h
          injection h3 with _ h3
          subst h3
          have e1 := iU _ _ _ h1
          have e2 := iS _ _ _ h2
          have e3 := quant_short u r1
          simp only at e2 e3 ⊢
          omega
    · intro l r u h
      rcases l with _ | ⟨c, t⟩
      · simp [atom] at h
      · simp only [atom] at h
        split at h
        · rw [Option.bind_eq_some_iff] at h
          obtain ⟨⟨a, r1⟩, h1, h⟩ := h
          have e1 := iA _ _ _ h1
          simp only at h
          split at h
          · injection h with h
            injection h with _ h
            subst h
            simp only [List.length_cons] at e1 ⊢
            omega
          · cases h
        · split at h
          · have := bracket_short h
            simp; omega
          · split at h
            · injection h with h
              injection h with _ h
              subst h
              simp
            · split at h
              · split at h
                · cases h
                · rw [Option.map_eq_some_iff] at h
                  obtain ⟨_, _, h3⟩ := h
                  injection h3 with _ h3
                  subst h3
                  simp; omega
              · split at h
                · cases h
                · injection h with h
                  injection h with _ h
                  subst h
                  simp

/-- Factors behind factors. -/
def cat : Ss → Ss → Ss
  | .nil, s => s
  | .cons u d, s => .cons u (cat d s)
theorem cat_snoc (d : Ss) (u : U) (s : Ss) : cat (cat d (.cons u .nil)) s = cat d (.cons u s) := by
  induction d using Ss.rec (motive_1 := fun _ => True) (motive_3 := fun _ => True) with
  | nil => rfl
  | cons u' d _ ih => simp only [cat, ih]
  | _ => trivial
theorem cat_nil (d : Ss) : cat d .nil = d := by
  induction d using Ss.rec (motive_1 := fun _ => True) (motive_3 := fun _ => True) with
  | nil => rfl
  | cons u' d _ ih => simp only [cat, ih]
  | _ => trivial
/-- Sequences ahead of alternatives. -/
def ahd : List Ss → As → As
  | [], a => a
  | s :: l, a => .more s (ahd l a)
theorem ahd_snoc (l : List Ss) (s : Ss) (a : As) : ahd (l ++ [s]) a = ahd l (.more s a) := by
  induction l with
  | nil => rfl
  | cons x l ih => simp only [List.cons_append, ahd, ih]
end Rx
end Go.Proofs.YthckgmbadmilfaaGreat

namespace Go.Proofs.YthckgmbadmilfaaGreat
/-- A state of a machine. -/
inductive St where
  | rd (f : UInt8 → Bool) (q : Nat)
  | ep (qs : List Nat)
namespace Rx
mutual
/-- The states of a tree that is followed by the state q: the one with which it begins, and all states. -/
def addU : U → List St → Nat → Nat × List St
  | .byte c, M, q => (M.length, M ++ [.rd (fun x => x == c) q])
  | .cls f, M, q => (M.length, M ++ [.rd f q])
  | .grp a, M, q => addA a M q
  | .star u, M, q => (M.length, (addU u (M ++ [.ep []]) M.length).2.set M.length (.ep [(addU u (M ++ [.ep []]) M.length).1, q]))
  | .plus u, M, q => ((addU u (M ++ [.ep []]) M.length).1, (addU u (M ++ [.ep []]) M.length).2.set M.length (.ep [(addU u (M ++ [.ep []]) M.length).1, q]))
  | .opt u, M, q => ((addU u M q).2.length, (addU u M q).2 ++ [.ep [(addU u M q).1, q]])
def addA : As → List St → Nat → Nat × List St
  | .one s, M, q => addS s M q
  | .more s a, M, q => ((addL a (addS s M q).2 q).2.length, (addL a (addS s M q).2 q).2 ++ [.ep ((addS s M q).1 :: (addL a (addS s M q).2 q).1)])
def addL : As → List St → Nat → List Nat × List St
  | .one s, M, q => ([(addS s M q).1], (addS s M q).2)
  | .more s a, M, q => ((addS s M q).1 :: (addL a (addS s M q).2 q).1, (addL a (addS s M q).2 q).2)
def addS : Ss → List St → Nat → Nat × List St
  | .nil, M, q => (q, M)
  | .cons u s, M, q => addU u (addS s M q).2 (addS s M q).1
end
mutual
/-- How many states a tree has. -/
def szU : U → Nat
  | .byte _ => 1
  | .cls _ => 1
  | .grp a => szA a + 1
  | .star u => szU u + 1
  | .plus u => szU u + 1
  | .opt u => szU u + 1
def szA : As → Nat
  | .one s => szS s
  | .more s a => szS s + szA a + 1
def szS : Ss → Nat
  | .nil => 0
  | .cons u s => szU u + szS s
end
mutual
theorem addU_len : ∀ (u : U) (M : List St) (q : Nat), M.length ≤ (addU u M q).2.length ∧ (addU u M q).2.length ≤ M.length + szU u
  | .byte c, M, q => by simp [addU, szU]
  | .cls f, M, q => by simp [addU, szU]
  | .grp a, M, q => by
    have := addA_len a M q
    simp only [addU, szU]; omega
  | .star u, M, q => by
    have := addU_len u (M ++ [.ep []]) M.length
    simp only [List.length_append, List.length_singleton] at this
    simp only [addU, szU, List.length_set]; omega
  | .plus u, M, q => by
    have := addU_len u (M ++ [.ep []]) M.length
    simp only [List.length_append, List.length_singleton] at this
    simp only [addU, szU, List.length_set]; omega
  | .opt u, M, q => by
    have := addU_len u M q
    simp only [addU, szU, List.length_append, List.length_singleton]; omega
theorem addA_len : ∀ (a : As) (M : List St) (q : Nat), M.length ≤ (addA a M q).2.length ∧ (addA a M q).2.length ≤ M.length + szA a + 1
  | .one s, M, q => by
    have := addS_len s M q
    simp only [addA, szA]; omega
  | .more s a, M, q => by
    have h1 := addS_len s M q
    have h2 := addL_len a (addS s M q).2 q
    simp only [addA, szA, List.length_append, List.length_singleton]; omega
theorem addL_len : ∀ (a : As) (M : List St) (q : Nat), M.length ≤ (addL a M q).2.length ∧ (addL a M q).2.length ≤ M.length + szA a
  | .one s, M, q => by
    have := addS_len s M q
    simp only [addL, szA]; omega
  | .more s a, M, q => by
    have h1 := addS_len s M q
    have h2 := addL_len a (addS s M q).2 q
    simp only [addL, szA]; omega
theorem addS_len : ∀ (s : Ss) (M : List St) (q : Nat), M.length ≤ (addS s M q).2.length ∧ (addS s M q).2.length ≤ M.length + szS s
  | .nil, M, q => by simp [addS, szS]
  | .cons u s, M, q => by
    have h1 := addS_len s M q
    have h2 := addU_len u (addS s M q).2 (addS s M q).1
    simp only [addS, szS]; omega
end
theorem get_set_len {M : List St} {n i : Nat} {s : St} (h : i < n) : (M.set n s)[i]? = M[i]? := by
  rw [List.getElem?_set_ne (by omega)]
theorem get_app {M : List St} {i : Nat} {l : List St} (h : i < M.length) : (M ++ l)[i]? = M[i]? := List.getElem?_append_left h
mutual
/-- What was there stays. -/
theorem addU_old : ∀ (u : U) (M : List St) (q : Nat) (i : Nat), i < M.length → (addU u M q).2[i]? = M[i]?
  | .byte c, M, q, i, h => by simp only [addU]; exact get_app h
  | .cls f, M, q, i, h => by simp only [addU]; exact get_app h
  | .grp a, M, q, i, h => by simp only [addU]; exact addA_old a M q i h
  | .star u, M, q, i, h => by
    simp only [addU]
    rw [get_set_len h, addU_old u _ _ i (by simp; omega), get_app h]
  | .plus u, M, q, i, h => by
    simp only [addU]
    rw [get_set_len h, addU_old u _ _ i (by simp; omega), get_app h]
  | .opt u, M, q, i, h => by
    simp only [addU]
    have := (addU_len u M q).1
    rw [get_app (by omega), addU_old u _ _ i h]
theorem addA_old : ∀ (a : As) (M : List St) (q : Nat) (i : Nat), i < M.length → (addA a M q).2[i]? = M[i]?
  | .one s, M, q, i, h => by simp only [addA]; exact addS_old s M q i h
  | .more s a, M, q, i, h => by
    simp only [addA]
    have h1 := (addS_len s M q).1
    have h2 := (addL_len a (addS s M q).2 q).1
    rw [get_app (by omega), addL_old a _ _ i (by omega), addS_old s _ _ i h]
theorem addL_old : ∀ (a : As) (M : List St) (q : Nat) (i : Nat), i < M.length → (addL a M q).2[i]? = M[i]?
  | .one s, M, q, i, h => by simp only [addL]; exact addS_old s M q i h
  | .more s a, M, q, i, h => by
    simp only [addL]
    have h1 := (addS_len s M q).1
    rw [addL_old a _ _ i (by omega), addS_old s _ _ i h]
theorem addS_old : ∀ (s : Ss) (M : List St) (q : Nat) (i : Nat), i < M.length → (addS s M q).2[i]? = M[i]?
  | .nil, M, q, i, h => by simp only [addS]
  | .cons u s, M, q, i, h => by
    simp only [addS]
    have h1 := (addS_len s M q).1
    rw [addU_old u _ _ i (by omega), addS_old s _ _ i h]
end
mutual
/-- The state with which a tree begins is one of its own, or the one that follows. -/
theorem addU_at : ∀ (u : U) (M : List St) (q : Nat), (addU u M q).1 < (addU u M q).2.length ∨ (addU u M q).1 = q
  | .byte c, M, q => by simp [addU]
  | .cls f, M, q => by simp [addU]
  | .grp a, M, q => by simp only [addU]; exact addA_at a M q
  | .star u, M, q => by
    have := (addU_len u (M ++ [.ep []]) M.length).1
    simp only [List.length_append, List.length_singleton] at this
    simp only [addU, List.length_set]; omega
  | .plus u, M, q => by
    have := (addU_len u (M ++ [.ep []]) M.length).1
    have h2 := addU_at u (M ++ [.ep []]) M.length
    simp only [List.length_append, List.length_singleton] at this
    simp only [addU, List.length_set]; omega
  | .opt u, M, q => by simp [addU]
theorem addA_at : ∀ (a : As) (M : List St) (q : Nat), (addA a M q).1 < (addA a M q).2.length ∨ (addA a M q).1 = q
  | .one s, M, q => by simp only [addA]; exact addS_at s M q
  | .more s a, M, q => by simp [addA]
theorem addS_at : ∀ (s : Ss) (M : List St) (q : Nat), (addS s M q).1 < (addS s M q).2.length ∨ (addS s M q).1 = q
  | .nil, M, q => by simp [addS]
  | .cons u s, M, q => by
    have h1 := addS_at s M q
    have h2 := addU_at u (addS s M q).2 (addS s M q).1
    have h3 := (addU_len u (addS s M q).2 (addS s M q).1).1
    simp only [addS]; omega
end
theorem szU_byte_pos (u : U) : 1 ≤ szU u := by
  cases u <;> simp [szU]

/-! ### How large a tree is that was read -/
theorem cat_sz (d s : Ss) : szS (cat d s) = szS d + szS s := by
  induction d using Ss.rec (motive_1 := fun _ => True) (motive_3 := fun _ => True) with
  | nil => simp [cat, szS]
  | cons u' d _ ih => simp only [cat, szS, ih]; omega
  | _ => trivial
theorem escU_sz {d : UInt8} {u : U} (h : escU d = some u) : szU u = 1 := by
  unfold escU at h
  repeat' split at h
  all_goals (cases h <;> simp [szU])
theorem bracket_sz {l r : List UInt8} {u : U} (h : bracket l = some (u, r)) : szU u = 1 := by
  unfold bracket at h
  split at h
  all_goals
    rw [Option.map_eq_some_iff] at h
    obtain ⟨⟨g, t⟩, h1, h2⟩ := h
    injection h2 with h2 _
    subst h2
    simp [szU]
theorem quant_sz (u : U) (l : List UInt8) : szU (quant u l).1 + (quant u l).2.length ≤ szU u + l.length := by
  unfold quant
  split <;> simp [szU] <;> omega
/-- Each byte read makes one state at most. -/
theorem sized (n : Nat) : (∀ (l r : List UInt8) (a : As), alts n l = some (a, r) → szA a + r.length ≤ l.length) ∧ (∀ (l r : List UInt8) (s : Ss), seqs n l = some (s, r) → szS s + r.length ≤ l.length) ∧ (∀ (l r : List UInt8) (u : U), atom n l = some (u, r) → szU u + r.length ≤ l.length) := by
  induction n with
  | zero => exact ⟨fun _ _ _ h => by simp [alts] at h, fun _ _ _ h => by simp [seqs] at h, fun _ _ _ h => by simp [atom] at h⟩
  | succ n ih =>
    obtain ⟨iA, iS, iU⟩ := ih
    refine ⟨?_, ?_, ?_⟩
    · intro l r a h
      rw [alts, Option.bind_eq_some_iff] at h
      obtain ⟨⟨s, r1⟩, h1, h⟩ := h
      have e1 := iS _ _ _ h1
      simp only at h
      split at h
      · rw [Option.map_eq_some_iff] at h
        obtain ⟨⟨a2, r2⟩, h2, h3⟩ := h
        injection h3 with h3 h4
        subst h3 h4
        have e2 := iA _ _ _ h2
        simp only [szA, List.length_cons] at e1 e2 ⊢
        omega
      · injection h with h
        injection h with h h4
        subst h h4
        exact e1
    · intro l r s h
      rcases l with _ | ⟨c, t⟩
      · simp only [seqs] at h
        injection h with h
        injection h with h h4
        subst h h4
        simp [szS]
      · simp only [seqs] at h
        split at h
        · injection h with h
          injection h with h h4
          subst h h4
          simp [szS]
        · rw [Option.bind_eq_some_iff] at h
          obtain ⟨⟨u, r1⟩, h1, h⟩ := h
          rw [Option.map_eq_some_iff] at h
          obtain ⟨⟨a2, r2⟩, h2, h3⟩ := h
          injection h3 with h3 h4
          subst h3 h4
          have e1 := iU _ _ _ h1
          have e2 := iS _ _ _ h2
          have e3 := quant_sz u r1
          simp only [szS] at e1 e2 e3 ⊢
          omega
    · intro l r u h
      rcases l with _ | ⟨c, t⟩
      · simp [atom] at h
      · simp only [atom] at h
        split at h
        · rw [Option.bind_eq_some_iff] at h
          obtain ⟨⟨a, r1⟩, h1, h⟩ := h
          have e1 := iA _ _ _ h1
          simp only at h
          split at h
          · injection h with h
            injection h with h h4
            subst h h4
            simp only [szU, List.length_cons] at e1 ⊢
            omega
          · cases h
        · split at h
          · have h1 := bracket_short h
            have h2 := bracket_sz h
            simp; omega
          · split at h
            · injection h with h
              injection h with h h4
              subst h h4
              simp [szU]; omega
            · split at h
              · split at h
                · cases h
                · rw [Option.map_eq_some_iff] at h
                  obtain ⟨_, h2, h3⟩ := h
                  injection h3 with h3 h4
                  subst h3 h4
                  have := escU_sz h2
                  simp; omega
              · split at h
                · cases h
                · injection h with h
                  injection h with h h4
                  subst h h4
                  simp [szU]; omega
theorem parse_sz {l : List UInt8} {a : As} (h : parse l = some a) : szA a ≤ 200 := by
  unfold parse at h
  split at h
  · cases h
  · rename_i hl
    split at h
    · rename_i a' h1
      injection h with h
      subst h
      have := (sized _).1 _ _ _ h1
      simp at this
      omega
    · cases h
end Rx
end Go.Proofs.YthckgmbadmilfaaGreat

namespace Go.Proofs.YthckgmbadmilfaaGreat
namespace Rx
/-- A state with the position at which its match begins. -/
abbrev Th := Nat × Nat
/-- A set of threads with a further one, and all that it reaches without reading, and the marks. -/
def spreadF (M : List St) : Nat → List Th → List Nat → Nat → Nat → Nat → List Th × List Nat
  | 0, ts, mk, _, _, _ => (ts, mk)
  | n + 1, ts, mk, q, f, k =>
    if mk[q]? = some k then (ts, mk) else
    match M[q]? with
    | some (.ep qs) => if q = 0 then (ts ++ [(q, f)], mk.set q k) else qs.foldl (fun r p => spreadF M n r.1 r.2 p f k) (ts, mk.set q k)
    | _ => (ts ++ [(q, f)], mk.set q k)
/-- All next states are there. -/
def Nx : St → List Nat
  | .rd _ q => [q]
  | .ep qs => qs
def Ok (M : List St) : Prop := ∀ (i : Nat) (s : St), M[i]? = some s → ∀ q ∈ Nx s, q < M.length
/-- How many states are not marked. -/
def free (k : Nat) (mk : List Nat) : Nat := mk.countP (fun x => x != k)
theorem free_set {k : Nat} {mk : List Nat} {q : Nat} (h : q < mk.length) (h2 : mk[q]? ≠ some k) : free k (mk.set q k) + 1 = free k mk := by
  unfold free
  induction mk generalizing q with
  | nil => simp at h
  | cons a mk ih =>
    rcases q with _ | q
    · simp only [List.getElem?_cons_zero] at h2
      have ha : a ≠ k := fun e => h2 (by rw [e])
      simp [ha]
    · simp only [List.getElem?_cons_succ, List.length_cons] at h2 h
      have := ih (q := q) (by omega) h2
      simp only [List.set_cons_succ, List.countP_cons]
      omega
/-- The bounds of a spreading. -/
def Fct (k : Nat) (ts : List Th) (mk : List Nat) (r : List Th × List Nat) : Prop := r.2.length = mk.length ∧ free k r.2 ≤ free k mk ∧ r.1.length + free k r.2 ≤ ts.length + free k mk
theorem Fct.refl (k : Nat) (ts : List Th) (mk : List Nat) : Fct k ts mk (ts, mk) := ⟨rfl, Nat.le_refl _, Nat.le_refl _⟩
theorem Fct.trans {k : Nat} {ts : List Th} {mk : List Nat} {r r' : List Th × List Nat} (h : Fct k ts mk r) (h2 : Fct k r.1 r.2 r') : Fct k ts mk r' :=
  ⟨h2.1.trans h.1, Nat.le_trans h2.2.1 h.2.1, Nat.le_trans h2.2.2 h.2.2⟩
theorem spread_facts (M : List St) (hOk : Ok M) (k f : Nat) : ∀ (n : Nat) (ts : List Th) (mk : List Nat) (q : Nat), mk.length = M.length → q < M.length → Fct k ts mk (spreadF M n ts mk q f k) := by
  intro n
  induction n with
  | zero => intro ts mk q _ _; exact Fct.refl _ _ _
  | succ n ih =>
    intro ts mk q hm hq
    simp only [spreadF]
    by_cases h : mk[q]? = some k
    · rw [if_pos h]; exact Fct.refl _ _ _
    · rw [if_neg h]
      have hf := free_set (k := k) (mk := mk) (q := q) (by omega) h
      have h0 : Fct k ts mk (ts ++ [(q, f)], mk.set q k) := ⟨by simp, by simp only; omega, by simp only [List.length_append, List.length_singleton]; omega⟩
      split
      · rename_i qs he
        split
        · exact h0
        · have h1 : Fct k ts mk (ts, mk.set q k) := ⟨by simp, by simp only; omega, by simp only; omega⟩
          have hin : ∀ p ∈ qs, p < M.length := hOk q _ he
          have : ∀ (l : List Nat) (r : List Th × List Nat), (∀ p ∈ l, p < M.length) → Fct k ts mk r → r.2.length = M.length → Fct k ts mk (l.foldl (fun r p => spreadF M n r.1 r.2 p f k) r) := by
            intro l
            induction l with
            | nil => intro r _ h _; exact h
            | cons p l ihl =>
              intro r hl h hr
              rw [List.foldl_cons]
              have h2 := ih r.1 r.2 p hr (hl p (by simp))
              exact ihl _ (fun x hx => hl x (by simp [hx])) (h.trans h2) (h2.1.trans hr)
          exact this qs _ hin h1 (by simp [hm])
      · exact h0
/-- The same along a list of states. -/
theorem fold_facts (M : List St) (hOk : Ok M) (k f n : Nat) : ∀ (l : List Nat) (r : List Th × List Nat), (∀ p ∈ l, p < M.length) → r.2.length = M.length → Fct k r.1 r.2 (l.foldl (fun r p => spreadF M n r.1 r.2 p f k) r)
  | [], r, _, _ => Fct.refl _ _ _
  | p :: l, r, hl, hr => by
    rw [List.foldl_cons]
    have h2 := spread_facts M hOk k f n r.1 r.2 p hr (hl p (by simp))
    exact h2.trans (fold_facts M hOk k f n l _ (fun x hx => hl x (by simp [hx])) (h2.1.trans hr))
/-! ### The search -/
/-- The best match so far, the threads at a position looked at. -/
def scan (at_ : Nat) : List Th → Option (Nat × Nat) → Option (Nat × Nat)
  | [], b => b
  | t :: l, b => scan at_ l (if t.1 = 0 ∧ (∀ x, b = some x → t.2 ≤ x.1) then some (t.2, at_) else b)
/-- The threads behind a byte. -/
def step (M : List St) (n : Nat) (b : Option (Nat × Nat)) (c : UInt8) (k : Nat) : List Th → List Th × List Nat → List Th × List Nat
  | [], r => r
  | t :: l, r => if (∃ x, b = some x ∧ x.1 < t.2) then r else step M n b c k l (match M[t.1]? with
    | some (.rd f q) => if f c then spreadF M n r.1 r.2 q t.2 k else r
    | _ => r)
/-- The threads at a position. -/
def begin_ (M : List St) (n st : Nat) (anch : Bool) (at_ : Nat) (now : List Th) (mk : List Nat) (b : Option (Nat × Nat)) : List Th × List Nat := if b = none ∧ (at_ = 0 ∨ anch = false) then spreadF M n now mk st at_ (at_ + 1) else (now, mk)
/-- The search from a position on. -/
def findF (M : List St) (n st : Nat) (anch : Bool) : List UInt8 → Nat → List Th → List Nat → Option (Nat × Nat) → Option (Nat × Nat)
  | l, at_, now, mk, b =>
    match l with
    | [] => scan at_ (begin_ M n st anch at_ now mk b).1 b
    | c :: l' => if (begin_ M n st anch at_ now mk b).1 = [] ∧ ((scan at_ (begin_ M n st anch at_ now mk b).1 b).isSome = true ∨ anch = true) then scan at_ (begin_ M n st anch at_ now mk b).1 b else
      findF M n st anch l' (at_ + 1) (step M n (scan at_ (begin_ M n st anch at_ now mk b).1 b) c (at_ + 2) (begin_ M n st anch at_ now mk b).1 ([], (begin_ M n st anch at_ now mk b).2)).1 (step M n (scan at_ (begin_ M n st anch at_ now mk b).1 b) c (at_ + 2) (begin_ M n st anch at_ now mk b).1 ([], (begin_ M n st anch at_ now mk b).2)).2 (scan at_ (begin_ M n st anch at_ now mk b).1 b)
theorem step_facts (M : List St) (hOk : Ok M) (k n : Nat) (b : Option (Nat × Nat)) (c : UInt8) : ∀ (l : List Th) (r : List Th × List Nat), r.2.length = M.length → Fct k r.1 r.2 (step M n b c k l r)
  | [], r, _ => Fct.refl _ _ _
  | t :: l, r, hr => by
    simp only [step]
    split
    · exact Fct.refl _ _ _
    · split
      · rename_i f q he
        have hq : q < M.length := hOk _ _ he q (by simp [Nx])
        split
        · have h1 := spread_facts M hOk k t.2 n r.1 r.2 q hr hq
          exact h1.trans (step_facts M hOk k n b c l _ (h1.1.trans hr))
        · exact step_facts M hOk k n b c l _ hr
      · exact step_facts M hOk k n b c l _ hr
end Rx
end Go.Proofs.YthckgmbadmilfaaGreat
