/- The machine of an expression is in order; what Match and Find tell: plain Lean. -/
import Derived.Test.YtheblleadjbndaaSpecD
namespace Go.Proofs.Ytheblleadjbndaa
namespace Rx
theorem Ok.app {M : List St} {s : St} (h : Ok M) (hs : ∀ q ∈ Nx s, q < M.length + 1) : Ok (M ++ [s]) := by
  intro i t hi q hq
  rw [List.length_append, List.length_singleton]
  by_cases e : i < M.length
  · rw [List.getElem?_append_left e] at hi
    have := h i t hi q hq
    omega
  · have e2 : i = M.length := by
      have := (List.getElem?_eq_some_iff.1 hi).1
      simp at this; omega
    subst e2
    simp at hi
    subst hi
    exact hs q hq
theorem Ok.set {M : List St} {s : St} (h : Ok M) (n : Nat) (hs : ∀ q ∈ Nx s, q < M.length) : Ok (M.set n s) := by
  intro i t hi q hq
  rw [List.length_set]
  by_cases e : n = i
  · subst e
    have hl := (List.getElem?_eq_some_iff.1 hi).1
    rw [List.length_set] at hl
    rw [List.getElem?_set_self hl] at hi
    injection hi with hi
    subst hi
    exact hs q hq
  · rw [List.getElem?_set_ne e] at hi
    exact h i t hi q hq
theorem addU_lt (u : U) (M : List St) (q : Nat) (hq : q < M.length) : (addU u M q).1 < (addU u M q).2.length := by
  have := addU_len u M q
  rcases addU_at u M q with h | h <;> omega
theorem addA_lt (a : As) (M : List St) (q : Nat) (hq : q < M.length) : (addA a M q).1 < (addA a M q).2.length := by
  have := addA_len a M q
  rcases addA_at a M q with h | h <;> omega
theorem addS_lt (s : Ss) (M : List St) (q : Nat) (hq : q < M.length) : (addS s M q).1 < (addS s M q).2.length := by
  have := addS_len s M q
  rcases addS_at s M q with h | h <;> omega
theorem addL_lt : ∀ (a : As) (M : List St) (q : Nat), q < M.length → ∀ x ∈ (addL a M q).1, x < (addL a M q).2.length
  | .one s, M, q, hq, x, hx => by
    simp only [addL, List.mem_singleton] at hx ⊢
    subst hx
    exact addS_lt s M q hq
  | .more s a, M, q, hq, x, hx => by
    have h1 := addS_lt s M q hq
    have h2 := (addS_len s M q).1
    have h3 := (addL_len a (addS s M q).2 q).1
    simp only [addL, List.mem_cons] at hx ⊢
    rcases hx with rfl | hx
    · omega
    · exact addL_lt a _ q (by omega) x hx
mutual
theorem addU_ok : ∀ (u : U) (M : List St) (q : Nat), Ok M → q < M.length → Ok (addU u M q).2
  | .byte c, M, q, h, hq => by simp only [addU]; exact h.app (by simp [Nx]; omega)
  | .cls f, M, q, h, hq => by simp only [addU]; exact h.app (by simp [Nx]; omega)
  | .grp a, M, q, h, hq => by simp only [addU]; exact addA_ok a M q h hq
  | .star u, M, q, h, hq => by
    simp only [addU]
    have h1 := addU_ok u (M ++ [.ep []]) M.length (h.app (by simp [Nx])) (by simp)
    have h2 := addU_lt u (M ++ [.ep []]) M.length (by simp)
    have h3 := (addU_len u (M ++ [.ep []]) M.length).1
    simp only [List.length_append, List.length_singleton] at h3
    exact h1.set _ (by simp only [Nx, List.mem_cons, List.not_mem_nil, or_false]; rintro x (rfl | rfl) <;> omega)
  | .plus u, M, q, h, hq => by
    simp only [addU]
    have h1 := addU_ok u (M ++ [.ep []]) M.length (h.app (by simp [Nx])) (by simp)
    have h2 := addU_lt u (M ++ [.ep []]) M.length (by simp)
    have h3 := (addU_len u (M ++ [.ep []]) M.length).1
    simp only [List.length_append, List.length_singleton] at h3
    exact h1.set _ (by simp only [Nx, List.mem_cons, List.not_mem_nil, or_false]; rintro x (rfl | rfl) <;> omega)
  | .opt u, M, q, h, hq => by
    simp only [addU]
    have h1 := addU_ok u M q h hq
    have h2 := addU_lt u M q hq
    have h3 := (addU_len u M q).1
    exact h1.app (by simp only [Nx, List.mem_cons, List.not_mem_nil, or_false]; rintro x (rfl | rfl) <;> omega)
theorem addA_ok : ∀ (a : As) (M : List St) (q : Nat), Ok M → q < M.length → Ok (addA a M q).2
  | .one s, M, q, h, hq => by simp only [addA]; exact addS_ok s M q h hq
  | .more s a, M, q, h, hq => by
    simp only [addA]
    have h1 := addS_lt s M q hq
    have h2 := (addS_len s M q).1
    have h3 := (addL_len a (addS s M q).2 q).1
    refine (addL_ok a _ q (addS_ok s M q h hq) (by omega)).app ?_
    simp only [Nx, List.mem_cons]
    rintro x (rfl | hx)
    · omega
    · have := addL_lt a (addS s M q).2 q (by omega) x hx
      omega
theorem addL_ok : ∀ (a : As) (M : List St) (q : Nat), Ok M → q < M.length → Ok (addL a M q).2
  | .one s, M, q, h, hq => by simp only [addL]; exact addS_ok s M q h hq
  | .more s a, M, q, h, hq => by
    simp only [addL]
    have h2 := (addS_len s M q).1
    exact addL_ok a _ q (addS_ok s M q h hq) (by omega)
theorem addS_ok : ∀ (s : Ss) (M : List St) (q : Nat), Ok M → q < M.length → Ok (addS s M q).2
  | .nil, M, q, h, hq => by simp only [addS]; exact h
  | .cons u s, M, q, h, hq => by
    simp only [addS]
    exact addU_ok u _ _ (addS_ok s M q h hq) (addS_lt s M q hq)
end
/-- An expression's machine. -/
def mach (a : As) : Nat × List St := addA a [.ep []] 0
theorem mach_ok (a : As) : Ok (mach a).2 := addA_ok a _ _ (fun i s hi q hq => by
  rcases i with _ | i
  · simp at hi; subst hi; simp [Nx] at hq
  · simp at hi) (by simp)
theorem mach_lt (a : As) : (mach a).1 < (mach a).2.length := addA_lt a _ _ (by simp)
theorem mach_len (a : As) : (mach a).2.length ≤ szA a + 2 := by
  have := (addA_len a [.ep []] 0).2
  simp only [List.length_singleton] at this
  unfold mach; omega
/-- What a search tells. -/
def search (a : As) (anch : Bool) (l : List UInt8) : Option (Nat × Nat) := findF (mach a).2 ((mach a).2.length + 1) (mach a).1 anch l 0 [] (List.replicate (mach a).2.length 0) none
def matchR (p l : List UInt8) : Bool := match parse p with
  | none => false
  | some a => match search a true l with
    | none => false
    | some x => x.2 == l.length
def findR (p l : List UInt8) : Option (Nat × Nat) := (parse p).bind fun a => search a false l
def checkR (p : List UInt8) : Nat := if 200 < p.length then 4 else if (parse p).isSome then 0 else 3
end Rx
end Go.Proofs.Ytheblleadjbndaa
