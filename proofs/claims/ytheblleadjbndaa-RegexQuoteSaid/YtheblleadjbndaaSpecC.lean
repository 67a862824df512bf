/- The machine of a regular expression, as a list of states: plain Lean. -/
import Derived.Test.YtheblleadjbndaaSpecB
namespace Go.Proofs.Ytheblleadjbndaa
/-- A state of a machine. -/
inductive St where
  | rd (f : UInt8 → Bool) (q : Nat)
  | ep (qs : List Nat)
namespace Rx
mutual
/-- The states of a tree that is followed by the state q: the one with which it begins, and all states. -/
def addU : U → List St → Nat → Nat × List St
  | .byte c, M, q => (M.length, M ++ [.rd (fun x => x == c) q])
  | .cls f, M, q => (M.length, M ++ [.rd f q])
  | .grp a, M, q => addA a M q
  | .star u, M, q => (M.length, (addU u (M ++ [.ep []]) M.length).2.set M.length (.ep [(addU u (M ++ [.ep []]) M.length).1, q]))
  | .plus u, M, q => ((addU u (M ++ [.ep []]) M.length).1, (addU u (M ++ [.ep []]) M.length).2.set M.length (.ep [(addU u (M ++ [.ep []]) M.length).1, q]))
  | .opt u, M, q => ((addU u M q).2.length, (addU u M q).2 ++ [.ep [(addU u M q).1, q]])
def addA : As → List St → Nat → Nat × List St
  | .one s, M, q => addS s M q
  | .more s a, M, q => ((addL a (addS s M q).2 q).2.length, (addL a (addS s M q).2 q).2 ++ [.ep ((addS s M q).1 :: (addL a (addS s M q).2 q).1)])
def addL : As → List St → Nat → List Nat × List St
  | .one s, M, q => ([(addS s M q).1], (addS s M q).2)
  | .more s a, M, q => ((addS s M q).1 :: (addL a (addS s M q).2 q).1, (addL a (addS s M q).2 q).2)
def addS : Ss → List St → Nat → Nat × List St
  | .nil, M, q => (q, M)
  | .cons u s, M, q => addU u (addS s M q).2 (addS s M q).1
end
mutual
/-- How many states a tree has. -/
def szU : U → Nat
  | .byte _ => 1
  | .cls _ => 1
  | .grp a => szA a + 1
  | .star u => szU u + 1
  | .plus u => szU u + 1
  | .opt u => szU u + 1
def szA : As → Nat
  | .one s => szS s
  | .more s a => szS s + szA a + 1
def szS : Ss → Nat
  | .nil => 0
  | .cons u s => szU u + szS s
end
mutual
theorem addU_len : ∀ (u : U) (M : List St) (q : Nat), M.length ≤ (addU u M q).2.length ∧ (addU u M q).2.length ≤ M.length + szU u
  | .byte c, M, q => by simp [addU, szU]
  | .cls f, M, q => by simp [addU, szU]
  | .grp a, M, q => by
    have := addA_len a M q
    simp only [addU, szU]; omega
  | .star u, M, q => by
    have := addU_len u (M ++ [.ep []]) M.length
    simp only [List.length_append, List.length_singleton] at this
    simp only [addU, szU, List.length_set]; omega
  | .plus u, M, q => by
    have := addU_len u (M ++ [.ep []]) M.length
    simp only [List.length_append, List.length_singleton] at this
    simp only [addU, szU, List.length_set]; omega
  | .opt u, M, q => by
    have := addU_len u M q
    simp only [addU, szU, List.length_append, List.length_singleton]; omega
theorem addA_len : ∀ (a : As) (M : List St) (q : Nat), M.length ≤ (addA a M q).2.length ∧ (addA a M q).2.length ≤ M.length + szA a + 1
  | .one s, M, q => by
    have := addS_len s M q
    simp only [addA, szA]; omega
  | .more s a, M, q => by
    have h1 := addS_len s M q
    have h2 := addL_len a (addS s M q).2 q
    simp only [addA, szA, List.length_append, List.length_singleton]; omega
theorem addL_len : ∀ (a : As) (M : List St) (q : Nat), M.length ≤ (addL a M q).2.length ∧ (addL a M q).2.length ≤ M.length + szA a
  | .one s, M, q => by
    have := addS_len s M q
    simp only [addL, szA]; omega
  | .more s a, M, q => by
    have h1 := addS_len s M q
    have h2 := addL_len a (addS s M q).2 q
    simp only [addL, szA]; omega
theorem addS_len : ∀ (s : Ss) (M : List St) (q : Nat), M.length ≤ (addS s M q).2.length ∧ (addS s M q).2.length ≤ M.length + szS s
  | .nil, M, q => by simp [addS, szS]
  | .cons u s, M, q => by
    have h1 := addS_len s M q
    have h2 := addU_len u (addS s M q).2 (addS s M q).1
    simp only [addS, szS]; omega
end
theorem get_set_len {M : List St} {n i : Nat} {s : St} (h : i < n) : (M.set n s)[i]? = M[i]? := by
  rw [List.getElem?_set_ne (by omega)]
theorem get_app {M : List St} {i : Nat} {l : List St} (h : i < M.length) : (M ++ l)[i]? = M[i]? := List.getElem?_append_left h
mutual
/-- What was there stays. -/
theorem addU_old : ∀ (u : U) (M : List St) (q : Nat) (i : Nat), i < M.length → (addU u M q).2[i]? = M[i]?
  | .byte c, M, q, i, h => by simp only [addU]; exact get_app h
  | .cls f, M, q, i, h => by simp only [addU]; exact get_app h
  | .grp a, M, q, i, h => by simp only [addU]; exact addA_old a M q i h
  | .star u, M, q, i, h => by
    simp only [addU]
    rw [get_set_len h, addU_old u _ _ i (by simp; omega), get_app h]
  | .plus u, M, q, i, h => by
    simp only [addU]
    rw [get_set_len h, addU_old u _ _ i (by simp; omega), get_app h]
  | .opt u, M, q, i, h => by
    simp only [addU]
    have := (addU_len u M q).1
    rw [get_app (by omega), addU_old u _ _ i h]
theorem addA_old : ∀ (a : As) (M : List St) (q : Nat) (i : Nat), i < M.length → (addA a M q).2[i]? = M[i]?
  | .one s, M, q, i, h => by simp only [addA]; exact addS_old s M q i h
  | .more s a, M, q, i, h => by
    simp only [addA]
    have h1 := (addS_len s M q).1
    have h2 := (addL_len a (addS s M q).2 q).1
    rw [get_app (by omega), addL_old a _ _ i (by omega), addS_old s _ _ i h]
theorem addL_old : ∀ (a : As) (M : List St) (q : Nat) (i : Nat), i < M.length → (addL a M q).2[i]? = M[i]?
  | .one s, M, q, i, h => by simp only [addL]; exact addS_old s M q i h
  | .more s a, M, q, i, h => by
    simp only [addL]
    have h1 := (addS_len s M q).1
    rw [addL_old a _ _ i (by omega), addS_old s _ _ i h]
theorem addS_old : ∀ (s : Ss) (M : List St) (q : Nat) (i : Nat), i < M.length → (addS s M q).2[i]? = M[i]?
  | .nil, M, q, i, h => by simp only [addS]
  | .cons u s, M, q, i, h => by
    simp only [addS]
    have h1 := (addS_len s M q).1
    rw [addU_old u _ _ i (by omega), addS_old s _ _ i h]
end
mutual
/-- The state with which a tree begins is one of its own, or the one that follows. -/
theorem addU_at : ∀ (u : U) (M : List St) (q : Nat), (addU u M q).1 < (addU u M q).2.length ∨ (addU u M q).1 = q
  | .byte c, M, q => by simp [addU]
  | .cls f, M, q => by simp [addU]
  | .grp a, M, q => by simp only [addU]; exact addA_at a M q
  | .star u, M, q => by
    have := (addU_len u (M ++ [.ep []]) M.length).1
    simp only [List.length_append, List.length_singleton] at this
    simp only [addU, List.length_set]; omega
  | .plus u, M, q => by
    have := (addU_len u (M ++ [.ep []]) M.length).1
    have h2 := addU_at u (M ++ [.ep []]) M.length
    simp only [List.length_append, List.length_singleton] at this
    simp only [addU, List.length_set]; omega
  | .opt u, M, q => by simp [addU]
theorem addA_at : ∀ (a : As) (M : List St) (q : Nat), (addA a M q).1 < (addA a M q).2.length ∨ (addA a M q).1 = q
  | .one s, M, q => by simp only [addA]; exact addS_at s M q
  | .more s a, M, q => by simp [addA]
theorem addS_at : ∀ (s : Ss) (M : List St) (q : Nat), (addS s M q).1 < (addS s M q).2.length ∨ (addS s M q).1 = q
  | .nil, M, q => by simp [addS]
  | .cons u s, M, q => by
    have h1 := addS_at s M q
    have h2 := addU_at u (addS s M q).2 (addS s M q).1
    have h3 := (addU_len u (addS s M q).2 (addS s M q).1).1
    simp only [addS]; omega
end
theorem szU_byte_pos (u : U) : 1 ≤ szU u := by
  cases u <;> simp [szU]

/-! ### How large a tree is that was read -/
theorem cat_sz (d s : Ss) : szS (cat d s) = szS d + szS s := by
  induction d using Ss.rec (motive_1 := fun _ => True) (motive_3 := fun _ => True) with
  | nil => simp [cat, szS]
  | cons u' d _ ih => simp only [cat, szS, ih]; omega
  | _ => trivial
theorem escU_sz {d : UInt8} {u : U} (h : escU d = some u) : szU u = 1 := by
  unfold escU at h
  repeat' split at h
  all_goals (cases h <;> simp [szU])
theorem bracket_sz {l r : List UInt8} {u : U} (h : bracket l = some (u, r)) : szU u = 1 := by
  unfold bracket at h
  split at h
  all_goals
    rw [Option.map_eq_some_iff] at h
    obtain ⟨⟨g, t⟩, h1, h2⟩ := h
    injection h2 with h2 _
    subst h2
    simp [szU]
theorem quant_sz (u : U) (l : List UInt8) : szU (quant u l).1 + (quant u l).2.length ≤ szU u + l.length := by
  unfold quant
  split <;> simp [szU] <;> omega
/-- Each byte read makes one state at most. -/
theorem sized (n : Nat) : (∀ (l r : List UInt8) (a : As), alts n l = some (a, r) → szA a + r.length ≤ l.length) ∧ (∀ (l r : List UInt8) (s : Ss), seqs n l = some (s, r) → szS s + r.length ≤ l.length) ∧ (∀ (l r : List UInt8) (u : U), atom n l = some (u, r) → szU u + r.length ≤ l.length) := by
  induction n with
  | zero => exact ⟨fun _ _ _ h => by simp [alts] at h, fun _ _ _ h => by simp [seqs] at h, fun _ _ _ h => by simp [atom] at h⟩
  | succ n ih =>
    obtain ⟨iA, iS, iU⟩ := ih
    refine ⟨?_, ?_, ?_⟩
    · intro l r a h
      rw [alts, Option.bind_eq_some_iff] at h
      obtain ⟨⟨s, r1⟩, h1, h⟩ := h
      have e1 := iS _ _ _ h1
      simp only at h
      split at h
      · rw [Option.map_eq_some_iff] at h
        obtain ⟨⟨a2, r2⟩, h2, h3⟩ := h
        injection h3 with h3 h4
        subst h3 h4
        have e2 := iA _ _ _ h2
        simp only [szA, List.length_cons] at e1 e2 ⊢
        omega
      · injection h with h
        injection h with h h4
        subst h h4
        exact e1
    · intro l r s h
      rcases l with _ | ⟨c, t⟩
      · simp only [seqs] at h
        injection h with h
        injection h with h h4
        subst h h4
        simp [szS]
      · simp only [seqs] at h
        split at h
        · injection h with h
          injection h with h h4
          subst h h4
          simp [szS]
        · rw [Option.bind_eq_some_iff] at h
          obtain ⟨⟨u, r1⟩, h1, h⟩ := h
          rw [Option.map_eq_some_iff] at h
          obtain ⟨⟨a2, r2⟩, h2, h3⟩ := h
          injection h3 with h3 h4
          subst h3 h4
          have e1 := iU _ _ _ h1
          have e2 := iS _ _ _ h2
          have e3 := quant_sz u r1
          simp only [szS] at e1 e2 e3 ⊢
          omega
    · intro l r u h
      rcases l with _ | ⟨c, t⟩
      · simp [atom] at h
      · simp only [atom] at h
        split at h
        · rw [Option.bind_eq_some_iff] at h
          obtain ⟨⟨a, r1⟩, h1, h⟩ := h
          have e1 := iA _ _ _ h1
          simp only at h
          split at h
          · injection h with h
            injection h with h h4
            subst h h4
            simp only [szU, List.length_cons] at e1 ⊢
            omega
          · cases h
        · split at h
          · have h1 := bracket_short h
            have h2 := bracket_sz h
            simp; omega
          · split at h
            · injection h with h
              injection h with h h4
              subst h h4
              simp [szU]; omega
            · split at h
              · split at h
                · cases h
                · rw [Option.map_eq_some_iff] at h
                  obtain ⟨_, h2, h3⟩ := h
                  injection h3 with h3 h4
                  subst h3 h4
                  have := escU_sz h2
                  simp; omega
              · split at h
                · cases h
                · injection h with h
                  injection h with h h4
                  subst h h4
                  simp [szU]; omega
theorem parse_sz {l : List UInt8} {a : As} (h : parse l = some a) : szA a ≤ 200 := by
  unfold parse at h
  split at h
  · cases h
  · rename_i hl
    split at h
    · rename_i a' h1
      injection h with h
      subst h
      have := (sized _).1 _ _ _ h1
      simp at this
      omega
    · cases h
end Rx
end Go.Proofs.Ytheblleadjbndaa
