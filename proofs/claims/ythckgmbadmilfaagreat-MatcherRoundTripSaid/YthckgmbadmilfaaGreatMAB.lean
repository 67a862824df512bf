/- The machine of an expression is in order; what Match and Find tell: plain Lean. What a tree matches, and that its machine accepts this: plain Lean. -/
import Derived.Test.YthckgmbadmilfaaGreatMAA
namespace Go.Proofs.YthckgmbadmilfaaGreat
namespace Rx
theorem Ok.app {M : List St} {s : St} (h : Ok M) (hs : ∀ q ∈ Nx s, q < M.length + 1) : Ok (M ++ [s]) := by
  intro i t hi q hq
  rw [List.length_append, List.length_singleton]
  by_cases e : i < M.length
  · rw [List.getElem?_append_left e] at hi
    have := h i t hi q hq
    omega
  · have e2 : i = M.length := by
      have := (List.getElem?_eq_some_iff.1 hi).1
      simp at this; omega
    subst e2
    simp at hi
    subst hi
    exact hs q hq
theorem Ok.set {M : List St} {s : St} (h : Ok M) (n : Nat) (hs : ∀ q ∈ Nx s, q < M.length) : Ok (M.set n s) := by
  intro i t hi q hq
  rw [List.length_set]
  by_cases e : n = i
  · subst e
    have hl := (List.getElem?_eq_some_iff.1 hi).1
    rw [List.length_set] at hl
    rw [List.getElem?_set_self hl] at hi
    injection hi with hi
    subst hi
    exact hs q hq
  · rw [List.getElem?_set_ne e] at hi
    exact h i t hi q hq
theorem addU_lt (u : U) (M : List St) (q : Nat) (hq : q < M.length) : (addU u M q).1 < (addU u M q).2.length := by
  have := addU_len u M q
  rcases addU_at u M q with h | h <;> omega
theorem addA_lt (a : As) (M : List St) (q : Nat) (hq : q < M.length) : (addA a M q).1 < (addA a M q).2.length := by
  have := addA_len a M q
  rcases addA_at a M q with h | h <;> omega
theorem addS_lt (s : Ss) (M : List St) (q : Nat) (hq : q < M.length) : (addS s M q).1 < (addS s M q).2.length := by
  have := addS_len s M q
  rcases addS_at s M q with h | h <;> omega
theorem addL_lt : ∀ (a : As) (M : List St) (q : Nat), q < M.length → ∀ x ∈ (addL a M q).1, x < (addL a M q).2.length
  | .one s, M, q, hq, x, hx => by
    simp only [addL, List.mem_singleton] at hx ⊢
    subst hx
    exact addS_lt s M q hq
  | .more s a, M, q, hq, x, hx => by
    have h1 := addS_lt s M q hq
    have h2 := (addS_len s M q).1
    have h3 := (addL_len a (addS s M q).2 q).1
    simp only [addL, List.mem_cons] at hx ⊢
    rcases hx with rfl | hx
    · omega
    · exact addL_lt a _ q (by omega) x hx
mutual
theorem addU_ok : ∀ (u : U) (M : List St) (q : Nat), Ok M → q < M.length → Ok (addU u M q).2
  | .byte c, M, q, h, hq => by simp only [addU]; exact h.app (by simp [Nx]; omega)
  | .cls f, M, q, h, hq => by simp only [addU]; exact h.app (by simp [Nx]; omega)
  | .grp a, M, q, h, hq => by simp only [addU]; exact addA_ok a M q h hq
  | .star u, M, q, h, hq => by
    simp only [addU]
    have h1 := addU_ok u (M ++ [.ep []]) M.length (h.app (by simp [Nx])) (by simp)
    have h2 := addU_lt u (M ++ [.ep []]) M.length (by simp)
    have h3 := (addU_len u (M ++ [.ep []]) M.length).1
    simp only [List.length_append, List.length_singleton] at h3
    exact h1.set _ (by simp only [Nx, List.mem_cons, List.not_mem_nil, or_false]; rintro x (rfl | rfl) <;> omega)
  | .plus u, M, q, h, hq => by
    simp only [addU]
    have h1 := addU_ok u (M ++ [.ep []]) M.length (h.app (by simp [Nx])) (by simp)
    have h2 := addU_lt u (M ++ [.ep []]) M.length (by simp)
    have h3 := (addU_len u (M ++ [.ep []]) M.length).1
    simp only [List.length_append, List.length_singleton] at h3
    exact h1.set _ (by simp only [Nx, List.mem_cons, List.not_mem_nil, or_false]; rintro x (rfl | rfl) <;> omega)
  | .opt u, M, q, h, hq => by
    simp only [addU]
    have h1 := addU_ok u M q h hq
    have h2 := addU_lt u M q hq
    have h3 := (addU_len u M q).1
    exact h1.app (by simp only [Nx, List.mem_cons, List.not_mem_nil, or_false]; rintro x (rfl | rfl) <;> omega)
theorem addA_ok : ∀ (a : As) (M : List St) (q : Nat), Ok M → q < M.length → Ok (addA a M q).2
  | .one s, M, q, h, hq => by simp only [addA]; exact addS_ok s M q h hq
  | .more s a, M, q, h, hq => by
    simp only [addA]
    have h1 := addS_lt s M q hq
    have h2 := (addS_len s M q).1
    have h3 := (addL_len a (addS s M q).2 q).1
    refine (addL_ok a _ q (addS_ok s M q h hq) (by omega)).app ?_
    simp only [Nx, List.mem_cons]
    rintro x (rfl | hx)
    · omega
    · have := addL_lt a (addS s M q).2 q (by omega) x hx
      omega
theorem addL_ok : ∀ (a : As) (M : List St) (q : Nat), Ok M → q < M.length → Ok (addL a M q).2
  | .one s, M, q, h, hq => by simp only [addL]; exact addS_ok s M q h hq
  | .more s a, M, q, h, hq => by
    simp only [addL]
    have h2 := (addS_len s M q).1
    exact addL_ok a _ q (addS_ok s M q h hq) (by omega)
theorem addS_ok : ∀ (s : Ss) (M : List St) (q : Nat), Ok M → q < M.length → Ok (addS s M q).2
  | .nil, M, q, h, hq => by simp only [addS]; exact h
  | .cons u s, M, q, h, hq => by
    simp only [addS]
    exact addU_ok u _ _ (addS_ok s M q h hq) (addS_lt s M q hq)
end
/-- An expression's machine. -/
def mach (a : As) : Nat × List St := addA a [.ep []] 0
theorem mach_ok (a : As) : Ok (mach a).2 := addA_ok a _ _ (fun i s hi q hq => by
  rcases i with _ | i
  · simp at hi; subst hi; simp [Nx] at hq
  · simp at hi) (by simp)
theorem mach_lt (a : As) : (mach a).1 < (mach a).2.length := addA_lt a _ _ (by simp)
theorem mach_len (a : As) : (mach a).2.length ≤ szA a + 2 := by
  have := (addA_len a [.ep []] 0).2
  simp only [List.length_singleton] at this
  unfold mach; omega
/-- What a search tells. -/
def search (a : As) (anch : Bool) (l : List UInt8) : Option (Nat × Nat) := findF (mach a).2 ((mach a).2.length + 1) (mach a).1 anch l 0 [] (List.replicate (mach a).2.length 0) none
def matchR (p l : List UInt8) : Bool := match parse p with
  | none => false
  | some a => match search a true l with
    | none => false
    | some x => x.2 == l.length
def findR (p l : List UInt8) : Option (Nat × Nat) := (parse p).bind fun a => search a false l
def checkR (p : List UInt8) : Nat := if 200 < p.length then 4 else if (parse p).isSome then 0 else 3
end Rx
end Go.Proofs.YthckgmbadmilfaaGreat

namespace Go.Proofs.YthckgmbadmilfaaGreat
namespace Rx
/-- Strings that consist of strings of a language. -/
inductive Star (L : List UInt8 → Prop) : List UInt8 → Prop
  | nil : Star L []
  | cons (x y : List UInt8) : L x → Star L y → Star L (x ++ y)
mutual
/-- What a factor matches. -/
def MU : U → List UInt8 → Prop
  | .byte c, w => w = [c]
  | .cls f, w => ∃ c, w = [c] ∧ f c = true
  | .grp a, w => MA a w
  | .star u, w => Star (MU u) w
  | .plus u, w => ∃ x y, w = x ++ y ∧ MU u x ∧ Star (MU u) y
  | .opt u, w => w = [] ∨ MU u w
/-- What alternatives match. -/
def MA : As → List UInt8 → Prop
  | .one s, w => MS s w
  | .more s a, w => MS s w ∨ MA a w
/-- What a sequence matches. -/
def MS : Ss → List UInt8 → Prop
  | .nil, w => w = []
  | .cons u s, w => ∃ x y, w = x ++ y ∧ MU u x ∧ MS s y
end
/-- From the state i a machine gets to state 0 in n steps, reading w. -/
def AccN (N : List St) : Nat → Nat → List UInt8 → Prop
  | 0, i, w => i = 0 ∧ w = []
  | n + 1, i, w => (∃ f q c w', N[i]? = some (.rd f q) ∧ w = c :: w' ∧ f c = true ∧ AccN N n q w') ∨ (∃ qs q, N[i]? = some (.ep qs) ∧ q ∈ qs ∧ AccN N n q w)
def Acc (N : List St) (i : Nat) (w : List UInt8) : Prop := ∃ n, AccN N n i w
theorem Acc.rd {N : List St} {i q : Nat} {f : UInt8 → Bool} {c : UInt8} {w : List UInt8} (h : N[i]? = some (.rd f q)) (hc : f c = true) (ha : Acc N q w) : Acc N i (c :: w) := by
  obtain ⟨n, ha⟩ := ha
  exact ⟨n + 1, .inl ⟨f, q, c, w, h, rfl, hc, ha⟩⟩
theorem Acc.ep {N : List St} {i q : Nat} {qs : List Nat} {w : List UInt8} (h : N[i]? = some (.ep qs)) (hq : q ∈ qs) (ha : Acc N q w) : Acc N i w := by
  obtain ⟨n, ha⟩ := ha
  exact ⟨n + 1, .inr ⟨qs, q, h, hq, ha⟩⟩
theorem AccN.rd {N : List St} {i q n : Nat} {f : UInt8 → Bool} {w : List UInt8} (h : N[i]? = some (.rd f q)) (hi : i ≠ 0) (ha : AccN N n i w) : ∃ k c w', n = k + 1 ∧ w = c :: w' ∧ f c = true ∧ AccN N k q w' := by
  rcases n with _ | n
  · exact absurd ha.1 hi
  · rcases ha with ⟨f', q', c, w', h2, h3, h4, h5⟩ | ⟨qs, q', h2, _⟩
    · rw [h] at h2
      injection h2 with h2
      injection h2 with e1 e2
      subst e1 e2
      exact ⟨n, c, w', rfl, h3, h4, h5⟩
    · rw [h] at h2
      injection h2 with h2
      cases h2
theorem AccN.ep {N : List St} {i n : Nat} {qs : List Nat} {w : List UInt8} (h : N[i]? = some (.ep qs)) (hi : i ≠ 0) (ha : AccN N n i w) : ∃ k q, n = k + 1 ∧ q ∈ qs ∧ AccN N k q w := by
  rcases n with _ | n
  · exact absurd ha.1 hi
  · rcases ha with ⟨f', q', c, w', h2, _⟩ | ⟨qs', q', h2, h3, h4⟩
    · rw [h] at h2
      injection h2 with h2
      cases h2
    · rw [h] at h2
      injection h2 with h2
      injection h2 with e1
      subst e1
      exact ⟨n, q', rfl, h3, h4⟩
/-- What a state tells that begins a language, ahead of the state q. -/
structure Beg (N : List St) (L : List UInt8 → Prop) (i q : Nat) : Prop where
  to : ∀ n w, AccN N n i w → ∃ x y k, k ≤ n ∧ w = x ++ y ∧ L x ∧ AccN N k q y
  fro : ∀ x y, L x → Acc N q y → Acc N i (x ++ y)
/-- The same of a list of states. -/
structure Begs (N : List St) (L : List UInt8 → Prop) (l : List Nat) (q : Nat) : Prop where
  to : ∀ i ∈ l, ∀ n w, AccN N n i w → ∃ x y k, k ≤ n ∧ w = x ++ y ∧ L x ∧ AccN N k q y
  fro : ∀ x y, L x → Acc N q y → ∃ i ∈ l, Acc N i (x ++ y)
/-- N is M from the state b on. -/
def Ext (b : Nat) (M N : List St) : Prop := ∀ j, b ≤ j → j < M.length → N[j]? = M[j]?
theorem Ext.mono {b b' : Nat} {M N : List St} (h : Ext b M N) (hb : b ≤ b') : Ext b' M N := fun j h1 h2 => h j (Nat.le_trans hb h1) h2
theorem beg_star {N : List St} {L : List UInt8 → Prop} {i q p : Nat} (hp : p ≠ 0) (h : N[p]? = some (.ep [i, q])) (hb : Beg N L i p) : Beg N (Star L) p q := by
  refine ⟨?_, ?_⟩
  · intro n
    induction n using Nat.strongRecOn with
    | _ n ih =>
      intro w hw
      obtain ⟨k, j, rfl, hj, hk⟩ := AccN.ep h hp hw
      simp only [List.mem_cons, List.not_mem_nil, or_false] at hj
      rcases hj with rfl | rfl
      · obtain ⟨x, y, k2, h1, rfl, h3, h4⟩ := hb.to _ _ hk
        obtain ⟨x2, y2, k3, h5, rfl, h7, h8⟩ := ih k2 (by omega) _ h4
        exact ⟨x ++ x2, y2, k3, by omega, by simp, .cons _ _ h3 h7, h8⟩
      · exact ⟨[], w, k, by omega, rfl, .nil, hk⟩
  · intro x y hx hy
    induction hx with
    | nil => exact Acc.ep h (by simp) hy
    | cons x1 x2 h1 _ ih =>
      rw [List.append_assoc]
      exact Acc.ep h (by simp) (hb.fro _ _ h1 ih)
mutual
theorem begU : ∀ (u : U) (M N : List St) (q : Nat), 0 < M.length → Ext M.length (addU u M q).2 N → Beg N (MU u) (addU u M q).1 q
  | .byte c, M, N, q, hM, hx => by
    simp only [addU, MU] at hx ⊢
    have h : N[M.length]? = some (.rd (fun x => x == c) q) := by rw [hx M.length (Nat.le_refl _) (by simp)]; simp
    refine ⟨fun n w hw => ?_, fun x y hx hy => ?_⟩
    · obtain ⟨k, d, w', rfl, rfl, h3, h4⟩ := AccN.rd h (by omega) hw
      exact ⟨[d], w', k, by omega, rfl, by rw [eq_of_beq h3], h4⟩
    · subst hx
      exact Acc.rd h (by simp) hy
  | .cls f, M, N, q, hM, hx => by
    simp only [addU, MU] at hx ⊢
    have h : N[M.length]? = some (.rd f q) := by rw [hx M.length (Nat.le_refl _) (by simp)]; simp
    refine ⟨fun n w hw => ?_, fun x y hx hy => ?_⟩
    · obtain ⟨k, d, w', rfl, rfl, h3, h4⟩ := AccN.rd h (by omega) hw
      exact ⟨[d], w', k, by omega, rfl, ⟨d, rfl, h3⟩, h4⟩
    · obtain ⟨d, rfl, hd⟩ := hx
      exact Acc.rd h hd hy
  | .grp a, M, N, q, hM, hx => by
    simp only [addU] at hx ⊢
    have := begA a M N q hM hx
    exact ⟨fun n w hw => by simpa only [MU] using this.to n w hw, fun x y h1 h2 => this.fro x y (by simpa only [MU] using h1) h2⟩
  | .star u, M, N, q, hM, hx => by
    simp only [addU] at hx ⊢
    have hl := (addU_len u (M ++ [.ep []]) M.length).1
    simp only [List.length_append, List.length_singleton] at hl
    have h : N[M.length]? = some (.ep [(addU u (M ++ [.ep []]) M.length).1, q]) := by
      rw [hx M.length (Nat.le_refl _) (by rw [List.length_set]; omega), List.getElem?_set_self (by omega)]
    have hb : Beg N (MU u) (addU u (M ++ [.ep []]) M.length).1 M.length := begU u _ N _ (by simp) (fun j h1 h2 => by
      simp only [List.length_append, List.length_singleton] at h1
      rw [hx j (by omega) (by rw [List.length_set]; exact h2), List.getElem?_set_ne (by omega)])
    have := beg_star (by omega) h hb
    exact ⟨fun n w hw => by simpa only [MU] using this.to n w hw, fun x y h1 h2 => this.fro x y (by simpa only [MU] using h1) h2⟩
  | .plus u, M, N, q, hM, hx => by
    simp only [addU] at hx ⊢
    have hl := (addU_len u (M ++ [.ep []]) M.length).1
    simp only [List.length_append, List.length_singleton] at hl
    have h : N[M.length]? = some (.ep [(addU u (M ++ [.ep []]) M.length).1, q]) := by
      rw [hx M.length (Nat.le_refl _) (by rw [List.length_set]; omega), List.getElem?_set_self (by omega)]
    have hb : Beg N (MU u) (addU u (M ++ [.ep []]) M.length).1 M.length := begU u _ N _ (by simp) (fun j h1 h2 => by
      simp only [List.length_append, List.length_singleton] at h1
      rw [hx j (by omega) (by rw [List.length_set]; exact h2), List.getElem?_set_ne (by omega)])
    have hs := beg_star (by omega) h hb
    refine ⟨fun n w hw => ?_, fun x y h1 h2 => ?_⟩
    · obtain ⟨x, y, k, h1, rfl, h3, h4⟩ := hb.to n w hw
      obtain ⟨x2, y2, k2, h5, rfl, h7, h8⟩ := hs.to k y h4
      exact ⟨x ++ x2, y2, k2, by omega, by simp, by simp only [MU]; exact ⟨x, x2, rfl, h3, h7⟩, h8⟩
    · simp only [MU] at h1
      obtain ⟨a, b, rfl, h3, h4⟩ := h1
      rw [List.append_assoc]
      exact hb.fro _ _ h3 (hs.fro _ _ h4 h2)
  | .opt u, M, N, q, hM, hx => by
    simp only [addU] at hx ⊢
    have hl := (addU_len u M q).1
    have h : N[(addU u M q).2.length]? = some (.ep [(addU u M q).1, q]) := by
      rw [hx _ hl (by simp)]; simp
    have hb : Beg N (MU u) (addU u M q).1 q := begU u M N q hM (fun j h1 h2 => by rw [hx j h1 (by simp; omega), List.getElem?_append_left h2])
    refine ⟨fun n w hw => ?_, fun x y h1 h2 => ?_⟩
    · obtain ⟨k, j, rfl, hj, hk⟩ := AccN.ep h (by omega) hw
      simp only [List.mem_cons, List.not_mem_nil, or_false] at hj
      rcases hj with rfl | rfl
      · obtain ⟨x, y, k2, h3, h4, h5, h6⟩ := hb.to _ _ hk
        exact ⟨x, y, k2, by omega, h4, by simp only [MU]; exact .inr h5, h6⟩
      · exact ⟨[], w, k, by omega, rfl, by unfold MU; exact .inl rfl, hk⟩
    · simp only [MU] at h1
      rcases h1 with rfl | h1
      · exact Acc.ep h (by simp) h2
      · exact Acc.ep h (by simp) (hb.fro _ _ h1 h2)
theorem begA : ∀ (a : As) (M N : List St) (q : Nat), 0 < M.length → Ext M.length (addA a M q).2 N → Beg N (MA a) (addA a M q).1 q
  | .one s, M, N, q, hM, hx => by
    simp only [addA] at hx ⊢
    have := begS s M N q hM hx
    exact ⟨fun n w hw => by simpa only [MA] using this.to n w hw, fun x y h1 h2 => this.fro x y (by simpa only [MA] using h1) h2⟩
  | .more s a, M, N, q, hM, hx => by
    simp only [addA] at hx ⊢
    have hl1 := (addS_len s M q).1
    have hl2 := (addL_len a (addS s M q).2 q).1
    have h : N[(addL a (addS s M q).2 q).2.length]? = some (.ep ((addS s M q).1 :: (addL a (addS s M q).2 q).1)) := by
      rw [hx _ (by omega) (by simp)]; simp
    have h1 : Beg N (MS s) (addS s M q).1 q := begS s M N q hM (fun j h1 h2 => by
      rw [hx j h1 (by simp; omega), List.getElem?_append_left (by omega), addL_old a _ _ j h2])
    have h2 : Begs N (MA a) (addL a (addS s M q).2 q).1 q := begL a _ N q (by omega) (fun j h1 h2 => by
      rw [hx j (by omega) (by simp; omega), List.getElem?_append_left h2])
    refine ⟨fun n w hw => ?_, fun x y h3 h4 => ?_⟩
    · obtain ⟨k, j, rfl, hj, hk⟩ := AccN.ep h (by omega) hw
      simp only [List.mem_cons] at hj
      rcases hj with rfl | hj
      · obtain ⟨x, y, k2, h3, h4, h5, h6⟩ := h1.to _ _ hk
        exact ⟨x, y, k2, by omega, h4, by simp only [MA]; exact .inl h5, h6⟩
      · obtain ⟨x, y, k2, h3, h4, h5, h6⟩ := h2.to j hj _ _ hk
        exact ⟨x, y, k2, by omega, h4, by simp only [MA]; exact .inr h5, h6⟩
    · simp only [MA] at h3
      rcases h3 with h3 | h3
      · exact Acc.ep h (by simp) (h1.fro _ _ h3 h4)
      · obtain ⟨i, hi, h5⟩ := h2.fro _ _ h3 h4
        exact Acc.ep h (by simp [hi]) h5
theorem begL : ∀ (a : As) (M N : List St) (q : Nat), 0 < M.length → Ext M.length (addL a M q).2 N → Begs N (MA a) (addL a M q).1 q
  | .one s, M, N, q, hM, hx => by
    simp only [addL] at hx ⊢
    have := begS s M N q hM hx
    refine ⟨fun i hi n w hw => ?_, fun x y h1 h2 => ⟨_, List.mem_singleton.2 rfl, this.fro x y (by simpa only [MA] using h1) h2⟩⟩
    rw [List.mem_singleton] at hi
    subst hi
    simpa only [MA] using this.to n w hw
  | .more s a, M, N, q, hM, hx => by
    simp only [addL] at hx ⊢
    have hl1 := (addS_len s M q).1
    have hl2 := (addL_len a (addS s M q).2 q).1
    have h1 : Beg N (MS s) (addS s M q).1 q := begS s M N q hM (fun j h1 h2 => by
      rw [hx j h1 (by omega), addL_old a _ _ j h2])
    have h2 : Begs N (MA a) (addL a (addS s M q).2 q).1 q := begL a _ N q (by omega) (fun j h1 h2 => hx j (by omega) h2)
    refine ⟨fun i hi n w hw => ?_, fun x y h3 h4 => ?_⟩
    · simp only [List.mem_cons] at hi
      rcases hi with rfl | hi
      · obtain ⟨x, y, k2, h3, h4, h5, h6⟩ := h1.to _ _ hw
        exact ⟨x, y, k2, h3, h4, by simp only [MA]; exact .inl h5, h6⟩
      · obtain ⟨x, y, k2, h3, h4, h5, h6⟩ := h2.to i hi _ _ hw
        exact ⟨x, y, k2, h3, h4, by simp only [MA]; exact .inr h5, h6⟩
    · simp only [MA] at h3
      rcases h3 with h3 | h3
      · exact ⟨_, by simp, h1.fro _ _ h3 h4⟩
      · obtain ⟨i, hi, h5⟩ := h2.fro _ _ h3 h4
        exact ⟨i, by simp [hi], h5⟩
theorem begS : ∀ (s : Ss) (M N : List St) (q : Nat), 0 < M.length → Ext M.length (addS s M q).2 N → Beg N (MS s) (addS s M q).1 q
  | .nil, M, N, q, hM, hx => by
    simp only [addS] at hx ⊢
    refine ⟨fun n w hw => ⟨[], w, n, Nat.le_refl _, rfl, by simp only [MS], hw⟩, fun x y h1 h2 => ?_⟩
    simp only [MS] at h1
    subst h1
    exact h2
  | .cons u s, M, N, q, hM, hx => by
    simp only [addS] at hx ⊢
    have hl1 := (addS_len s M q).1
    have hl2 := (addU_len u (addS s M q).2 (addS s M q).1).1
    have h1 : Beg N (MS s) (addS s M q).1 q := begS s M N q hM (fun j h1 h2 => by rw [hx j h1 (by omega), addU_old u _ _ j h2])
    have h2 : Beg N (MU u) (addU u (addS s M q).2 (addS s M q).1).1 (addS s M q).1 := begU u _ N _ (by omega) (hx.mono hl1)
    refine ⟨fun n w hw => ?_, fun x y h3 h4 => ?_⟩
    · obtain ⟨x, y, k, h3, rfl, h5, h6⟩ := h2.to n w hw
      obtain ⟨x2, y2, k2, h7, rfl, h9, h10⟩ := h1.to k y h6
      exact ⟨x ++ x2, y2, k2, by omega, by simp, by simp only [MS]; exact ⟨x, x2, rfl, h5, h9⟩, h10⟩
    · simp only [MS] at h3
      obtain ⟨a, b, rfl, h5, h6⟩ := h3
      rw [List.append_assoc]
      exact h2.fro _ _ h5 (h1.fro _ _ h6 h4)
end
theorem mach_zero (a : As) : (mach a).2[0]? = some (.ep []) := by
  unfold mach
  rw [addA_old a _ _ 0 (by simp)]; rfl
/-- A machine accepts what its tree matches. -/
theorem mach_acc (a : As) (w : List UInt8) : Acc (mach a).2 (mach a).1 w ↔ MA a w := by
  have h := begA a [.ep []] (mach a).2 0 (by simp) (fun j _ _ => rfl)
  constructor
  · rintro ⟨n, hn⟩
    obtain ⟨x, y, k, _, rfl, h2, h3⟩ := h.to n w hn
    rcases k with _ | k
    · obtain ⟨_, rfl⟩ := h3
      simpa using h2
    · rcases h3 with ⟨f, q, c, w', h4, _⟩ | ⟨qs, q, h4, h5, _⟩
      · rw [mach_zero] at h4; cases h4
      · rw [mach_zero] at h4
        injection h4 with h4
        injection h4 with h4
        subst h4
        simp at h5
  · intro hw
    have := h.fro w [] hw ⟨0, rfl, rfl⟩
    rw [List.append_nil] at this
    exact this
end Rx
end Go.Proofs.YthckgmbadmilfaaGreat
