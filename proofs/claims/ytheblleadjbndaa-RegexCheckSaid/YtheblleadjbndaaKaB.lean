/- What Prefix, Quote and Empty come to: plain Lean. The machine that the reference builds: plain Lean. What the reference's search tells: plain Lean. -/
import Derived.Test.YtheblleadjbndaaKaA
namespace Go.Proofs.Ytheblleadjbndaa
namespace Rx
/-- The bytes with which a sequence begins, and whether it is of bytes only. -/
def pre : Ss → List UInt8 × Bool
  | .nil => ([], true)
  | .cons (.byte c) s => (c :: (pre s).1, (pre s).2)
  | .cons _ _ => ([], false)
/-- What Prefix gives. -/
def prefR (p : List UInt8) : List UInt8 × Bool := match parse p with
  | some (.one s) => pre s
  | _ => ([], false)
/-- What Quote gives. -/
def quoteR (l : List UInt8) : List UInt8 := l.flatMap fun c => if special c then [92, c] else [c]
theorem pre_match : ∀ (s : Ss) (w : List UInt8), MS s w → ∃ v, w = (pre s).1 ++ v := by
  intro s
  induction s using Ss.rec (motive_1 := fun _ => True) (motive_3 := fun _ => True) with
  | nil => intro w _; exact ⟨w, rfl⟩
  | cons u s _ ih =>
    intro w h
    rcases u with c | f | a | u | u | u
    · simp only [MS, MU] at h
      obtain ⟨x, y, rfl, rfl, h⟩ := h
      obtain ⟨v, rfl⟩ := ih y h
      exact ⟨v, rfl⟩
    all_goals exact ⟨w, rfl⟩
  | _ => trivial
theorem pre_all : ∀ (s : Ss), (pre s).2 = true → ∀ w, MS s w ↔ w = (pre s).1 := by
  intro s
  induction s using Ss.rec (motive_1 := fun _ => True) (motive_3 := fun _ => True) with
  | nil => intro _ w; simp only [MS, pre]
  | cons u s _ ih =>
    intro h w
    rcases u with c | f | a | u | u | u
    · simp only [pre] at h ⊢
      simp only [MS, MU]
      constructor
      · rintro ⟨x, y, rfl, rfl, h1⟩
        rw [(ih h y).1 h1]; rfl
      · rintro rfl
        exact ⟨[c], _, rfl, rfl, (ih h _).2 rfl⟩
    all_goals simp [pre] at h
  | _ => trivial
theorem match_pref {p l : List UInt8} (h : matchR p l = true) : ∃ v, l = (prefR p).1 ++ v := by
  obtain ⟨a, ha, hm⟩ := (matchR_iff _ _).1 h
  unfold prefR
  rw [ha]
  rcases a with s | ⟨s, a⟩
  · simp only [MA] at hm
    exact pre_match s l hm
  · exact ⟨l, rfl⟩
theorem match_all {p : List UInt8} (h : (prefR p).2 = true) (l : List UInt8) : matchR p l = decide (l = (prefR p).1) := by
  unfold prefR at h ⊢
  rcases ha : parse p with _ | a
  · rw [ha] at h; simp at h
  · rw [ha] at h
    rcases a with s | ⟨s, a⟩
    · apply bool_iff
      rw [match_of ha]
      simp only [MA]
      exact pre_all s h l
    · simp at h
/-! ### Quote -/
/-- A sequence of bytes. -/
def bytesS : List UInt8 → Ss
  | [] => .nil
  | c :: l => .cons (.byte c) (bytesS l)
theorem pre_bytes : ∀ l, pre (bytesS l) = (l, true)
  | [] => rfl
  | c :: l => by simp only [bytesS, pre, pre_bytes l]
theorem special_iff {c : UInt8} : special c = true ↔ c = 46 ∨ c = 91 ∨ c = 93 ∨ c = 40 ∨ c = 41 ∨ c = 124 ∨ c = 42 ∨ c = 43 ∨ c = 63 ∨ c = 92 := by
  unfold special
  rw [List.contains_iff_mem]
  simp only [List.mem_cons, List.not_mem_nil, or_false]
theorem escU_special {c : UInt8} (h : special c = true) : escU c = some (.byte c) := by
  rcases special_iff.1 h with rfl | rfl | rfl | rfl | rfl | rfl | rfl | rfl | rfl | rfl <;> rfl
theorem quant_other {u : U} {l : List UInt8} (h : ∀ c r, l = c :: r → c ≠ 42 ∧ c ≠ 43 ∧ c ≠ 63) : quant u l = (u, l) := by
  unfold quant
  split
  · exact absurd rfl (h _ _ rfl).1
  · exact absurd rfl (h _ _ rfl).2.1
  · exact absurd rfl (h _ _ rfl).2.2
  · rfl
theorem quote_head {l : List UInt8} : ∀ c r, quoteR l = c :: r → c ≠ 42 ∧ c ≠ 43 ∧ c ≠ 63 := by
  intro c r h
  rcases l with _ | ⟨d, l⟩
  · simp [quoteR] at h
  · unfold quoteR at h
    rw [List.flatMap_cons] at h
    by_cases hs : special d = true
    · rw [if_pos hs] at h
      injection h with h _
      subst h
      decide
    · rw [if_neg hs] at h
      injection h with h _
      subst h
      rw [special_iff] at hs
      exact ⟨fun e => hs (by simp [e]), fun e => hs (by simp [e]), fun e => hs (by simp [e])⟩
theorem seqs_quote : ∀ (l : List UInt8) (n : Nat), 2 * l.length + 2 ≤ n → seqs n (quoteR l) = some (bytesS l, [])
  | [], n, h => by
    obtain ⟨n, rfl⟩ : ∃ k, n = k + 1 := ⟨n - 1, by omega⟩
    simp [quoteR, seqs, bytesS]
  | c :: l, n, h => by
    simp only [List.length_cons] at h
    obtain ⟨n, rfl⟩ : ∃ k, n = k + 2 := ⟨n - 2, by omega⟩
    have ih := seqs_quote l (n + 1) (by omega)
    have hq : ∀ u, quant u (quoteR l) = (u, quoteR l) := fun u => quant_other quote_head
    by_cases hs : special c = true
    · have e : quoteR (c :: l) = 92 :: c :: quoteR l := by
        unfold quoteR; rw [List.flatMap_cons, if_pos hs]; rfl
      have ha : atom (n + 1) (92 :: c :: quoteR l) = some (.byte c, quoteR l) := by
        simp only [atom]
        rw [if_neg (by decide), if_neg (by decide), if_neg (by decide), if_pos trivial, escU_special hs]; rfl
      rw [e, seqs]
      simp only
      rw [if_neg (by decide), ha]
      simp only [Option.bind_some]
      rw [hq, ih]; rfl
    · have e : quoteR (c :: l) = c :: quoteR l := by
        unfold quoteR; rw [List.flatMap_cons, if_neg hs]; rfl
      have hs2 : ∀ d, special d = true → c ≠ d := fun d hd he => hs (he ▸ hd)
      have hs3 : special c = false := by simpa using hs
      have ha : atom (n + 1) (c :: quoteR l) = some (.byte c, quoteR l) := by
        simp only [atom]
        rw [if_neg (hs2 40 (by decide)), if_neg (hs2 91 (by decide)), if_neg (hs2 46 (by decide)), if_neg (hs2 92 (by decide)), if_neg hs]
      rw [e, seqs]
      simp only
      rw [if_neg (by rintro (h | h); exact hs2 124 (by decide) h; exact hs2 41 (by decide) h), ha]
      simp only [Option.bind_some]
      rw [hq, ih]; rfl
theorem quote_len_ge (l : List UInt8) : l.length ≤ (quoteR l).length := by
  induction l with
  | nil => simp [quoteR]
  | cons c l ih =>
    unfold quoteR at ih ⊢
    rw [List.flatMap_cons, List.length_append, List.length_cons]
    split <;> simp only [List.length_cons, List.length_nil] <;> omega
theorem parse_quote {l : List UInt8} (h : (quoteR l).length ≤ 200) : parse (quoteR l) = some (.one (bytesS l)) := by
  refine parse_of h ?_
  have h1 := quote_len_ge l
  unfold fuel
  rw [alts, seqs_quote l _ (by omega)]
  rfl
/-! ### Empty -/
/-- All bytes. -/
def all256 : List UInt8 := (List.range 256).map fun i => UInt8.ofNat i
theorem mem_all (c : UInt8) : c ∈ all256 := by
  unfold all256
  rw [List.mem_map]
  exact ⟨c.toNat, by rw [List.mem_range]; exact c.toNat_lt, by simp⟩
mutual
/-- Whether nothing matches. -/
def emU : U → Bool
  | .byte _ => false
  | .cls f => !all256.any f
  | .grp a => emA a
  | .star _ => false
  | .plus u => emU u
  | .opt _ => false
def emA : As → Bool
  | .one s => emS s
  | .more s a => emS s && emA a
def emS : Ss → Bool
  | .nil => false
  | .cons u s => emU u || emS s
end
/-- What Empty gives. -/
def emptyR (p : List UInt8) : Bool := match parse p with
  | some a => emA a
  | none => false
mutual
theorem emU_no : ∀ (u : U), emU u = true ↔ ∀ w, ¬ MU u w
  | .byte c => by
    simp only [emU, MU, Bool.false_eq_true, false_iff]
    exact fun h => h _ rfl
  | .cls f => by
    simp only [emU, MU]
    rw [Bool.not_eq_true', List.any_eq_false]
    constructor
    · rintro h w ⟨c, _, hc⟩
      exact h c (mem_all c) hc
    · intro h c _ hc
      exact h [c] ⟨c, rfl, hc⟩
  | .grp a => by simp only [emU, MU]; exact emA_no a
  | .star u => by
    simp only [emU, MU, Bool.false_eq_true, false_iff]
    exact fun h => h _ .nil
  | .plus u => by
    simp only [emU, MU]
    rw [emU_no u]
    constructor
    · rintro h w ⟨x, y, _, h1, _⟩
      exact h x h1
    · intro h w hw
      exact h w ⟨w, [], by simp, hw, .nil⟩
  | .opt u => by
    simp only [emU, MU, Bool.false_eq_true, false_iff]
    exact fun h => h [] (.inl rfl)
theorem emA_no : ∀ (a : As), emA a = true ↔ ∀ w, ¬ MA a w
  | .one s => by simp only [emA, MA]; exact emS_no s
  | .more s a => by
    simp only [emA, MA]
    rw [Bool.and_eq_true, emS_no s, emA_no a]
    constructor
    · rintro ⟨h1, h2⟩ w (h | h)
      · exact h1 w h
      · exact h2 w h
    · exact fun h => ⟨fun w hw => h w (.inl hw), fun w hw => h w (.inr hw)⟩
theorem emS_no : ∀ (s : Ss), emS s = true ↔ ∀ w, ¬ MS s w
  | .nil => by
    simp only [emS, MS, Bool.false_eq_true, false_iff]
    exact fun h => h _ rfl
  | .cons u s => by
    simp only [emS, MS]
    rw [Bool.or_eq_true, emU_no u, emS_no s]
    constructor
    · rintro (h | h) w ⟨x, y, _, h1, h2⟩
      · exact h x h1
      · exact h y h2
    · intro h
      by_cases e : ∃ x, MU u x
      · obtain ⟨x, hx⟩ := e
        exact .inr fun y hy => h (x ++ y) ⟨x, y, rfl, hx, hy⟩
      · exact .inl fun x hx => e ⟨x, hx⟩
end
theorem empty_no {p : List UInt8} (h : emptyR p = true) (l : List UInt8) : matchR p l = false := by
  rcases hm : matchR p l with _ | _
  · rfl
  · obtain ⟨a, ha, hx⟩ := (matchR_iff _ _).1 hm
    unfold emptyR at h
    rw [ha] at h
    exact absurd hx ((emA_no a).1 h l)
theorem empty_of {p : List UInt8} {a : As} (h : parse p = some a) : emptyR p = emA a := by
  unfold emptyR; rw [h]
theorem emS_bytes : ∀ l, emS (bytesS l) = false
  | [] => rfl
  | c :: l => by simp only [bytesS, emS, emU, emS_bytes l]; rfl
section
variable {p q : List UInt8} (hp : checkR p = 0) (hq : checkR q = 0)
include hp
theorem empty_quant (h : p.length + 3 ≤ 200) : emptyR (quantS p 42) = false ∧ emptyR (quantS p 63) = false ∧ emptyR (quantS p 43) = emptyR p := by
  obtain ⟨a, ha⟩ := checkR_zero.1 hp
  rw [empty_of (p := quantS p 42) (parse_quant ha h 42 (.star (.grp a)) rfl), empty_of (p := quantS p 63) (parse_quant ha h 63 (.opt (.grp a)) rfl), empty_of (p := quantS p 43) (parse_quant ha h 43 (.plus (.grp a)) rfl), empty_of ha]
  simp [emA, emS, emU]
include hq
theorem empty_either (h : p.length + q.length + 5 ≤ 200) : emptyR (eitherS p q) = (emptyR p && emptyR q) := by
  obtain ⟨a, ha⟩ := checkR_zero.1 hp
  obtain ⟨b, hb⟩ := checkR_zero.1 hq
  rw [empty_of (p := eitherS p q) (parse_either ha hb h), empty_of ha, empty_of hb]
  simp [emA, g1, emS, emU]
theorem empty_concat (h : p.length + q.length + 4 ≤ 200) : emptyR (concatS p q) = (emptyR p || emptyR q) := by
  obtain ⟨a, ha⟩ := checkR_zero.1 hp
  obtain ⟨b, hb⟩ := checkR_zero.1 hq
  rw [empty_of (p := concatS p q) (parse_concat ha hb h), empty_of ha, empty_of hb]
  simp [emA, g1, emS, emU]
end
/-- What a quoted string tells. -/
theorem quote_tells {l : List UInt8} (h : (quoteR l).length ≤ 200) : checkR (quoteR l) = 0 ∧ prefR (quoteR l) = (l, true) ∧ (∀ t, matchR (quoteR l) t = decide (t = l)) ∧ emptyR (quoteR l) = false := by
  have hpq := parse_quote h
  have hpr : prefR (quoteR l) = (l, true) := by unfold prefR; rw [hpq]; exact pre_bytes l
  refine ⟨checkR_zero.2 ⟨_, hpq⟩, hpr, fun t => ?_, ?_⟩
  · have := match_all (p := quoteR l) (by rw [hpr]) t
    rw [hpr] at this
    exact this
  · rw [empty_of hpq]
    simp only [emA, emS_bytes]
end Rx
end Go.Proofs.Ytheblleadjbndaa

namespace Go.Proofs.Ytheblleadjbndaa
namespace Rx
mutual
/-- The states of a factor that is followed by the state q: the one with which it begins, and all states. -/
def raU : U → List St → Nat → Nat × List St
  | .byte c, M, q => (M.length, M ++ [.rd (fun x => x == c) q])
  | .cls f, M, q => (M.length, M ++ [.rd f q])
  | .grp a, M, q => ((raL a M q).2.length, (raL a M q).2 ++ [.ep (raL a M q).1])
  | .star u, M, q => (M.length, (raU u (M ++ [.ep []]) M.length).2.set M.length (.ep [(raU u (M ++ [.ep []]) M.length).1, q]))
  | .plus u, M, q => ((raU u (M ++ [.ep []]) M.length).1, (raU u (M ++ [.ep []]) M.length).2.set M.length (.ep [(raU u (M ++ [.ep []]) M.length).1, q]))
  | .opt u, M, q => ((raU u M q).2.length, (raU u M q).2 ++ [.ep [q, (raU u M q).1]])
def raL : As → List St → Nat → List Nat × List St
  | .one s, M, q => ([(raS s M q).1], (raS s M q).2)
  | .more s a, M, q => ((raS s M q).1 :: (raL a (raS s M q).2 q).1, (raL a (raS s M q).2 q).2)
def raS : Ss → List St → Nat → Nat × List St
  | .nil, M, q => (q, M)
  | .cons u s, M, q => raU u (raS s M q).2 (raS s M q).1
end
mutual
/-- How many states a tree has at most. -/
def rzU : U → Nat
  | .byte _ => 1
  | .cls _ => 1
  | .grp a => rzA a + 1
  | .star u => rzU u + 1
  | .plus u => rzU u + 1
  | .opt u => rzU u + 1
def rzA : As → Nat
  | .one s => rzS s
  | .more s a => rzS s + rzA a
def rzS : Ss → Nat
  | .nil => 0
  | .cons u s => rzU u + rzS s
end
mutual
theorem raU_len : ∀ (u : U) (M : List St) (q : Nat), M.length ≤ (raU u M q).2.length ∧ (raU u M q).2.length ≤ M.length + rzU u
  | .byte c, M, q => by simp [raU, rzU]
  | .cls f, M, q => by simp [raU, rzU]
  | .grp a, M, q => by
    have := raL_len a M q
    simp only [raU, rzU, List.length_append, List.length_singleton]; omega
  | .star u, M, q => by
    have := raU_len u (M ++ [.ep []]) M.length
    simp only [List.length_append, List.length_singleton] at this
    simp only [raU, rzU, List.length_set]; omega
  | .plus u, M, q => by
    have := raU_len u (M ++ [.ep []]) M.length
    simp only [List.length_append, List.length_singleton] at this
    simp only [raU, rzU, List.length_set]; omega
  | .opt u, M, q => by
    have := raU_len u M q
    simp only [raU, rzU, List.length_append, List.length_singleton]; omega
theorem raL_len : ∀ (a : As) (M : List St) (q : Nat), M.length ≤ (raL a M q).2.length ∧ (raL a M q).2.length ≤ M.length + rzA a
  | .one s, M, q => by
    have := raS_len s M q
    simp only [raL, rzA]; omega
  | .more s a, M, q => by
    have h1 := raS_len s M q
    have h2 := raL_len a (raS s M q).2 q
    simp only [raL, rzA]; omega
theorem raS_len : ∀ (s : Ss) (M : List St) (q : Nat), M.length ≤ (raS s M q).2.length ∧ (raS s M q).2.length ≤ M.length + rzS s
  | .nil, M, q => by simp [raS, rzS]
  | .cons u s, M, q => by
    have h1 := raS_len s M q
    have h2 := raU_len u (raS s M q).2 (raS s M q).1
    simp only [raS, rzS]; omega
end
mutual
/-- What was there stays. -/
theorem raU_old : ∀ (u : U) (M : List St) (q : Nat) (i : Nat), i < M.length → (raU u M q).2[i]? = M[i]?
  | .byte c, M, q, i, h => by simp only [raU]; exact get_app h
  | .cls f, M, q, i, h => by simp only [raU]; exact get_app h
  | .grp a, M, q, i, h => by
    simp only [raU]
    have := (raL_len a M q).1
    rw [get_app (by omega), raL_old a _ _ i h]
  | .star u, M, q, i, h => by
    simp only [raU]
    rw [get_set_len h, raU_old u _ _ i (by simp; omega), get_app h]
  | .plus u, M, q, i, h => by
    simp only [raU]
    rw [get_set_len h, raU_old u _ _ i (by simp; omega), get_app h]
  | .opt u, M, q, i, h => by
    simp only [raU]
    have := (raU_len u M q).1
    rw [get_app (by omega), raU_old u _ _ i h]
theorem raL_old : ∀ (a : As) (M : List St) (q : Nat) (i : Nat), i < M.length → (raL a M q).2[i]? = M[i]?
  | .one s, M, q, i, h => by simp only [raL]; exact raS_old s M q i h
  | .more s a, M, q, i, h => by
    simp only [raL]
    have h1 := (raS_len s M q).1
    rw [raL_old a _ _ i (by omega), raS_old s _ _ i h]
theorem raS_old : ∀ (s : Ss) (M : List St) (q : Nat) (i : Nat), i < M.length → (raS s M q).2[i]? = M[i]?
  | .nil, M, q, i, h => by simp only [raS]
  | .cons u s, M, q, i, h => by
    simp only [raS]
    have h1 := (raS_len s M q).1
    rw [raU_old u _ _ i (by omega), raS_old s _ _ i h]
end
mutual
theorem raU_lt : ∀ (u : U) (M : List St) (q : Nat), q < M.length → (raU u M q).1 < (raU u M q).2.length
  | .byte c, M, q, h => by simp [raU]
  | .cls f, M, q, h => by simp [raU]
  | .grp a, M, q, h => by simp [raU]
  | .star u, M, q, h => by
    have := (raU_len u (M ++ [.ep []]) M.length).1
    simp only [List.length_append, List.length_singleton] at this
    simp only [raU, List.length_set]; omega
  | .plus u, M, q, h => by
    have h2 := raU_lt u (M ++ [.ep []]) M.length (by simp)
    simp only [raU, List.length_set]; exact h2
  | .opt u, M, q, h => by simp [raU]
theorem raL_lt : ∀ (a : As) (M : List St) (q : Nat), q < M.length → ∀ x ∈ (raL a M q).1, x < (raL a M q).2.length
  | .one s, M, q, h, x, hx => by
    simp only [raL, List.mem_singleton] at hx ⊢
    subst hx
    exact raS_lt s M q h
  | .more s a, M, q, h, x, hx => by
    have h1 := raS_lt s M q h
    have h2 := (raS_len s M q).1
    have h3 := (raL_len a (raS s M q).2 q).1
    simp only [raL, List.mem_cons] at hx ⊢
    rcases hx with rfl | hx
    · omega
    · exact raL_lt a _ q (by omega) x hx
theorem raS_lt : ∀ (s : Ss) (M : List St) (q : Nat), q < M.length → (raS s M q).1 < (raS s M q).2.length
  | .nil, M, q, h => by simp only [raS]; exact h
  | .cons u s, M, q, h => by
    simp only [raS]
    exact raU_lt u _ _ (raS_lt s M q h)
end
mutual
theorem raU_ok : ∀ (u : U) (M : List St) (q : Nat), Ok M → q < M.length → Ok (raU u M q).2
  | .byte c, M, q, h, hq => by simp only [raU]; exact h.app (by simp [Nx]; omega)
  | .cls f, M, q, h, hq => by simp only [raU]; exact h.app (by simp [Nx]; omega)
  | .grp a, M, q, h, hq => by
    simp only [raU]
    refine (raL_ok a M q h hq).app fun x hx => ?_
    have := raL_lt a M q hq x hx
    omega
  | .star u, M, q, h, hq => by
    simp only [raU]
    have h1 := raU_ok u (M ++ [.ep []]) M.length (h.app (by simp [Nx])) (by simp)
    have h2 := raU_lt u (M ++ [.ep []]) M.length (by simp)
    have h3 := (raU_len u (M ++ [.ep []]) M.length).1
    simp only [List.length_append, List.length_singleton] at h3
    exact h1.set _ (by simp only [Nx, List.mem_cons, List.not_mem_nil, or_false]; rintro x (rfl | rfl) <;> omega)
  | .plus u, M, q, h, hq => by
    simp only [raU]
    have h1 := raU_ok u (M ++ [.ep []]) M.length (h.app (by simp [Nx])) (by simp)
    have h2 := raU_lt u (M ++ [.ep []]) M.length (by simp)
    have h3 := (raU_len u (M ++ [.ep []]) M.length).1
    simp only [List.length_append, List.length_singleton] at h3
    exact h1.set _ (by simp only [Nx, List.mem_cons, List.not_mem_nil, or_false]; rintro x (rfl | rfl) <;> omega)
  | .opt u, M, q, h, hq => by
    simp only [raU]
    have h1 := raU_ok u M q h hq
    have h2 := raU_lt u M q hq
    have h3 := (raU_len u M q).1
    exact h1.app (by simp only [Nx, List.mem_cons, List.not_mem_nil, or_false]; rintro x (rfl | rfl) <;> omega)
theorem raL_ok : ∀ (a : As) (M : List St) (q : Nat), Ok M → q < M.length → Ok (raL a M q).2
  | .one s, M, q, h, hq => by simp only [raL]; exact raS_ok s M q h hq
  | .more s a, M, q, h, hq => by
    simp only [raL]
    have h2 := (raS_len s M q).1
    exact raL_ok a _ q (raS_ok s M q h hq) (by omega)
theorem raS_ok : ∀ (s : Ss) (M : List St) (q : Nat), Ok M → q < M.length → Ok (raS s M q).2
  | .nil, M, q, h, hq => by simp only [raS]; exact h
  | .cons u s, M, q, h, hq => by
    simp only [raS]
    exact raU_ok u _ _ (raS_ok s M q h hq) (raS_lt s M q hq)
end
mutual
theorem rbegU : ∀ (u : U) (M N : List St) (q : Nat), 0 < M.length → Ext M.length (raU u M q).2 N → Beg N (MU u) (raU u M q).1 q
  | .byte c, M, N, q, hM, hx => begU (.byte c) M N q hM hx
  | .cls f, M, N, q, hM, hx => begU (.cls f) M N q hM hx
  | .grp a, M, N, q, hM, hx => by
    simp only [raU] at hx ⊢
    have hl := (raL_len a M q).1
    have h : N[(raL a M q).2.length]? = some (.ep (raL a M q).1) := by
      rw [hx _ hl (by simp)]; simp
    have hb : Begs N (MA a) (raL a M q).1 q := rbegL a M N q hM (fun j h1 h2 => by rw [hx j h1 (by simp; omega), List.getElem?_append_left h2])
    refine ⟨fun n w hw => ?_, fun x y h1 h2 => ?_⟩
    · obtain ⟨k, j, rfl, hj, hk⟩ := AccN.ep h (by omega) hw
      obtain ⟨x, y, k2, h3, h4, h5, h6⟩ := hb.to j hj _ _ hk
      exact ⟨x, y, k2, by omega, h4, by simp only [MU]; exact h5, h6⟩
    · simp only [MU] at h1
      obtain ⟨i, hi, h5⟩ := hb.fro _ _ h1 h2
      exact Acc.ep h hi h5
  | .star u, M, N, q, hM, hx => by
    simp only [raU] at hx ⊢
    have hl := (raU_len u (M ++ [.ep []]) M.length).1
    simp only [List.length_append, List.length_singleton] at hl
    have h : N[M.length]? = some (.ep [(raU u (M ++ [.ep []]) M.length).1, q]) := by
      rw [hx M.length (Nat.le_refl _) (by rw [List.length_set]; omega), List.getElem?_set_self (by omega)]
    have hb : Beg N (MU u) (raU u (M ++ [.ep []]) M.length).1 M.length := rbegU u _ N _ (by simp) (fun j h1 h2 => by
      simp only [List.length_append, List.length_singleton] at h1
      rw [hx j (by omega) (by rw [List.length_set]; exact h2), List.getElem?_set_ne (by omega)])
    have := beg_star (by omega) h hb
    exact ⟨fun n w hw => by simpa only [MU] using this.to n w hw, fun x y h1 h2 => this.fro x y (by simpa only [MU] using h1) h2⟩
  | .plus u, M, N, q, hM, hx => by
    simp only [raU] at hx ⊢
    have hl := (raU_len u (M ++ [.ep []]) M.length).1
    simp only [List.length_append, List.length_singleton] at hl
    have h : N[M.length]? = some (.ep [(raU u (M ++ [.ep []]) M.length).1, q]) := by
      rw [hx M.length (Nat.le_refl _) (by rw [List.length_set]; omega), List.getElem?_set_self (by omega)]
    have hb : Beg N (MU u) (raU u (M ++ [.ep []]) M.length).1 M.length := rbegU u _ N _ (by simp) (fun j h1 h2 => by
      simp only [List.length_append, List.length_singleton] at h1
      rw [hx j (by omega) (by rw [List.length_set]; exact h2), List.getElem?_set_ne (by omega)])
    have hs := beg_star (by omega) h hb
    refine ⟨fun n w hw => ?_, fun x y h1 h2 => ?_⟩
    · obtain ⟨x, y, k, h1, rfl, h3, h4⟩ := hb.to n w hw
      obtain ⟨x2, y2, k2, h5, rfl, h7, h8⟩ := hs.to k y h4
      exact ⟨x ++ x2, y2, k2, by omega, by simp, by simp only [MU]; exact ⟨x, x2, rfl, h3, h7⟩, h8⟩
    · simp only [MU] at h1
      obtain ⟨a, b, rfl, h3, h4⟩ := h1
      rw [List.append_assoc]
      exact hb.fro _ _ h3 (hs.fro _ _ h4 h2)
  | .opt u, M, N, q, hM, hx => by
    simp only [raU] at hx ⊢
    have hl := (raU_len u M q).1
    have h : N[(raU u M q).2.length]? = some (.ep [q, (raU u M q).1]) := by
      rw [hx _ hl (by simp)]; simp
    have hb : Beg N (MU u) (raU u M q).1 q := rbegU u M N q hM (fun j h1 h2 => by rw [hx j h1 (by simp; omega), List.getElem?_append_left h2])
    refine ⟨fun n w hw => ?_, fun x y h1 h2 => ?_⟩
    · obtain ⟨k, j, rfl, hj, hk⟩ := AccN.ep h (by omega) hw
      simp only [List.mem_cons, List.not_mem_nil, or_false] at hj
      rcases hj with rfl | rfl
      · exact ⟨[], w, k, by omega, rfl, by unfold MU; exact .inl rfl, hk⟩
      · obtain ⟨x, y, k2, h3, h4, h5, h6⟩ := hb.to _ _ hk
        exact ⟨x, y, k2, by omega, h4, by simp only [MU]; exact .inr h5, h6⟩
    · simp only [MU] at h1
      rcases h1 with rfl | h1
      · exact Acc.ep h (by simp) h2
      · exact Acc.ep h (by simp) (hb.fro _ _ h1 h2)
theorem rbegL : ∀ (a : As) (M N : List St) (q : Nat), 0 < M.length → Ext M.length (raL a M q).2 N → Begs N (MA a) (raL a M q).1 q
  | .one s, M, N, q, hM, hx => by
    simp only [raL] at hx ⊢
    have := rbegS s M N q hM hx
    refine ⟨fun i hi n w hw => ?_, fun x y h1 h2 => ⟨_, List.mem_singleton.2 rfl, this.fro x y (by simpa only [MA] using h1) h2⟩⟩
    rw [List.mem_singleton] at hi
    subst hi
    simpa only [MA] using this.to n w hw
  | .more s a, M, N, q, hM, hx => by
    simp only [raL] at hx ⊢
    have hl1 := (raS_len s M q).1
    have hl2 := (raL_len a (raS s M q).2 q).1
    have h1 : Beg N (MS s) (raS s M q).1 q := rbegS s M N q hM (fun j h1 h2 => by
      rw [hx j h1 (by omega), raL_old a _ _ j h2])
    have h2 : Begs N (MA a) (raL a (raS s M q).2 q).1 q := rbegL a _ N q (by omega) (fun j h1 h2 => hx j (by omega) h2)
    refine ⟨fun i hi n w hw => ?_, fun x y h3 h4 => ?_⟩
    · simp only [List.mem_cons] at hi
      rcases hi with rfl | hi
      · obtain ⟨x, y, k2, h3, h4, h5, h6⟩ := h1.to _ _ hw
        exact ⟨x, y, k2, h3, h4, by simp only [MA]; exact .inl h5, h6⟩
      · obtain ⟨x, y, k2, h3, h4, h5, h6⟩ := h2.to i hi _ _ hw
        exact ⟨x, y, k2, h3, h4, by simp only [MA]; exact .inr h5, h6⟩
    · simp only [MA] at h3
      rcases h3 with h3 | h3
      · exact ⟨_, by simp, h1.fro _ _ h3 h4⟩
      · obtain ⟨i, hi, h5⟩ := h2.fro _ _ h3 h4
        exact ⟨i, by simp [hi], h5⟩
theorem rbegS : ∀ (s : Ss) (M N : List St) (q : Nat), 0 < M.length → Ext M.length (raS s M q).2 N → Beg N (MS s) (raS s M q).1 q
  | .nil, M, N, q, hM, hx => by
    simp only [raS] at hx ⊢
    refine ⟨fun n w hw => ⟨[], w, n, Nat.le_refl _, rfl, by simp only [MS], hw⟩, fun x y h1 h2 => ?_⟩
    simp only [MS] at h1
    subst h1
    exact h2
  | .cons u s, M, N, q, hM, hx => by
    simp only [raS] at hx ⊢
    have hl1 := (raS_len s M q).1
    have hl2 := (raU_len u (raS s M q).2 (raS s M q).1).1
    have h1 : Beg N (MS s) (raS s M q).1 q := rbegS s M N q hM (fun j h1 h2 => by rw [hx j h1 (by omega), raU_old u _ _ j h2])
    have h2 : Beg N (MU u) (raU u (raS s M q).2 (raS s M q).1).1 (raS s M q).1 := rbegU u _ N _ (by omega) (hx.mono hl1)
    refine ⟨fun n w hw => ?_, fun x y h3 h4 => ?_⟩
    · obtain ⟨x, y, k, h3, rfl, h5, h6⟩ := h2.to n w hw
      obtain ⟨x2, y2, k2, h7, rfl, h9, h10⟩ := h1.to k y h6
      exact ⟨x ++ x2, y2, k2, by omega, by simp, by simp only [MS]; exact ⟨x, x2, rfl, h5, h9⟩, h10⟩
    · simp only [MS] at h3
      obtain ⟨a, b, rfl, h5, h6⟩ := h3
      rw [List.append_assoc]
      exact h2.fro _ _ h5 (h1.fro _ _ h6 h4)
end
/-- The reference's machine of an expression. -/
def rmach (a : As) : Nat × List St := raU (.grp a) [.ep []] 0
theorem rmach_zero (a : As) : (rmach a).2[0]? = some (.ep []) := by
  unfold rmach
  rw [raU_old _ _ _ 0 (by simp)]; rfl
theorem rmach_ok (a : As) : Ok (rmach a).2 := raU_ok _ _ _ (fun i s hi q hq => by
  rcases i with _ | i
  · simp at hi; subst hi; simp [Nx] at hq
  · simp at hi) (by simp)
theorem rmach_lt (a : As) : (rmach a).1 < (rmach a).2.length := raU_lt _ _ _ (by simp)
theorem rmach_len (a : As) : (rmach a).2.length ≤ rzA a + 2 := by
  have := (raU_len (.grp a) [.ep []] 0).2
  simp only [List.length_singleton, rzU] at this
  unfold rmach; omega
theorem rmach_acc (a : As) (w : List UInt8) : Acc (rmach a).2 (rmach a).1 w ↔ MA a w := by
  have h := rbegU (.grp a) [.ep []] (rmach a).2 0 (by simp) (fun j _ _ => rfl)
  constructor
  · rintro ⟨n, hn⟩
    obtain ⟨x, y, k, _, rfl, h2, h3⟩ := h.to n w hn
    simp only [MU] at h2
    rcases k with _ | k
    · obtain ⟨_, rfl⟩ := h3
      simpa using h2
    · rcases h3 with ⟨f, q, c, w', h4, _⟩ | ⟨qs, q, h4, h5, _⟩
      · rw [rmach_zero] at h4; cases h4
      · rw [rmach_zero] at h4
        injection h4 with h4
        injection h4 with h4
        subst h4
        simp at h5
  · intro hw
    have := h.fro w [] (by simp only [MU]; exact hw) ⟨0, rfl, rfl⟩
    rw [List.append_nil] at this
    exact this
mutual
theorem rzU_le : ∀ u : U, rzU u ≤ szU u
  | .byte _ => Nat.le_refl _
  | .cls _ => Nat.le_refl _
  | .grp a => by have := rzA_le a; simp only [rzU, szU]; omega
  | .star u => by have := rzU_le u; simp only [rzU, szU]; omega
  | .plus u => by have := rzU_le u; simp only [rzU, szU]; omega
  | .opt u => by have := rzU_le u; simp only [rzU, szU]; omega
theorem rzA_le : ∀ a : As, rzA a ≤ szA a
  | .one s => by have := rzS_le s; simp only [rzA, szA]; omega
  | .more s a => by have := rzS_le s; have := rzA_le a; simp only [rzA, szA]; omega
theorem rzS_le : ∀ s : Ss, rzS s ≤ szS s
  | .nil => Nat.le_refl _
  | .cons u s => by have := rzU_le u; have := rzS_le s; simp only [rzS, szS]; omega
end
/-! ### Reaching -/
/-- A set of states with one more, and those that can be reached from it without reading. -/
def reachF (M : List St) : Nat → List Bool → Nat → List Bool
  | 0, s, _ => s
  | n + 1, s, i =>
    if s[i]? = some true then s else
    match M[i]? with
    | some (.ep qs) => qs.foldl (fun r q => reachF M n r q) (s.set i true)
    | _ => s.set i true
/-- How many states a set lacks. -/
def lack (s : List Bool) : Nat := s.countP (fun x => !x)
theorem lack_set {s : List Bool} {i : Nat} (h : i < s.length) (h2 : s[i]? ≠ some true) : lack (s.set i true) + 1 = lack s := by
  unfold lack
  induction s generalizing i with
  | nil => simp at h
  | cons a s ih =>
    rcases i with _ | i
    · simp only [List.getElem?_cons_zero] at h2
      have ha : a = false := by cases a <;> simp_all
      simp [ha]
    · simp only [List.getElem?_cons_succ, List.length_cons] at h2 h
      have := ih (i := i) (by omega) h2
      simp only [List.set_cons_succ, List.countP_cons]
      omega
/-- What reaching does. -/
structure Rea (M : List St) (S : List Nat) (s r : List Bool) : Prop where
  len : r.length = s.length
  lack : lack r ≤ lack s
  mono : ∀ x : Nat, s[x]? = some true → r[x]? = some true
  src : ∀ q ∈ S, r[q]? = some true
  new : ∀ x : Nat, r[x]? = some true → s[x]? = some true ∨ ∃ q ∈ S, Eps M q x
  done : ∀ x : Nat, r[x]? = some true → s[x]? = some true ∨ ∀ qs, M[x]? = some (.ep qs) → ∀ p ∈ qs, r[p]? = some true
theorem Rea.nil (M : List St) (s : List Bool) : Rea M [] s s := ⟨rfl, Nat.le_refl _, fun _ h => h, fun q h => (by simp at h), fun _ h => .inl h, fun _ h => .inl h⟩
theorem Rea.trans {M : List St} {A B : List Nat} {s r t : List Bool} (h : Rea M A s r) (k : Rea M B r t) : Rea M (A ++ B) s t := by
  refine ⟨k.len.trans h.len, Nat.le_trans k.lack h.lack, fun x hx => k.mono x (h.mono x hx), fun q hq => ?_, fun x hx => ?_, fun x hx => ?_⟩
  · rcases List.mem_append.1 hq with hq | hq
    · exact k.mono q (h.src q hq)
    · exact k.src q hq
  · rcases k.new x hx with h1 | ⟨q, hq, he⟩
    · rcases h.new x h1 with h2 | ⟨q, hq, he⟩
      · exact .inl h2
      · exact .inr ⟨q, List.mem_append_left _ hq, he⟩
    · exact .inr ⟨q, List.mem_append_right _ hq, he⟩
  · rcases k.done x hx with h1 | h1
    · rcases h.done x h1 with h2 | h2
      · exact .inl h2
      · exact .inr fun qs hM p hp => k.mono p (h2 qs hM p hp)
    · exact .inr h1
theorem set_true {s : List Bool} {i x : Nat} (h : (s.set i true)[x]? = some true) : x = i ∨ s[x]? = some true := by
  by_cases e : i = x
  · exact .inl e.symm
  · rw [List.getElem?_set_ne e] at h; exact .inr h
theorem set_keeps {s : List Bool} {i x : Nat} (h : s[x]? = some true) : (s.set i true)[x]? = some true := by
  by_cases e : i = x
  · subst e
    rw [List.getElem?_set_self (List.getElem?_eq_some_iff.1 h).1]
  · rw [List.getElem?_set_ne e]; exact h
theorem reach_rea (M : List St) (h0 : M[0]? = some (.ep [])) (hOk : Ok M) : ∀ (n : Nat) (s : List Bool) (i : Nat), lack s < n → s.length = M.length → i < M.length → Rea M [i] s (reachF M n s i) := by
  intro n
  induction n with
  | zero => intro s i h; omega
  | succ n ih =>
    intro s i hn hl hi
    simp only [reachF]
    by_cases hs : s[i]? = some true
    · rw [if_pos hs]
      exact ⟨rfl, Nat.le_refl _, fun _ h => h, fun q hq => by rw [List.mem_singleton] at hq; subst hq; exact hs, fun _ h => .inl h, fun _ h => .inl h⟩
    · rw [if_neg hs]
      have hlk := lack_set (s := s) (i := i) (by omega) hs
      have hself : (s.set i true)[i]? = some true := by rw [List.getElem?_set_self (by omega)]
      by_cases hep : ∃ qs, M[i]? = some (.ep qs)
      · obtain ⟨qs, hqs⟩ := hep
        rw [hqs]
        have hin : ∀ q ∈ qs, q < M.length := hOk i _ hqs
        have hfold : ∀ (l : List Nat) (r : List Bool), (∀ q ∈ l, q < M.length) → r.length = M.length → lack r < n → Rea M l r (l.foldl (fun r q => reachF M n r q) r) := by
          intro l
          induction l with
          | nil => intro r _ _ _; exact Rea.nil M r
          | cons q l ihl =>
            intro r hq hr hk
            rw [List.foldl_cons]
            have h1 := ih r q hk hr (hq q (by simp))
            exact h1.trans (ihl _ (fun x hx => hq x (by simp [hx])) (h1.len.trans hr) (Nat.lt_of_le_of_lt h1.lack hk))
        have h1 := hfold qs (s.set i true) hin (by rw [List.length_set]; exact hl) (show _ < n by omega)
        refine ⟨by rw [h1.len, List.length_set], Nat.le_trans h1.lack (by omega), fun x hx => h1.mono x (set_keeps hx), fun q hq => ?_, fun x hx => ?_, fun x hx => ?_⟩
        · rw [List.mem_singleton] at hq
          subst hq
          exact h1.mono _ hself
        · rcases h1.new x hx with h2 | ⟨q, hq, he⟩
          · rcases set_true h2 with rfl | h2
            · exact .inr ⟨x, by simp, .refl x⟩
            · exact .inl h2
          · refine .inr ⟨i, by simp, .step hqs (fun e => ?_) hq he⟩
            subst e
            rw [h0] at hqs
            injection hqs with hqs
            injection hqs with hqs
            subst hqs
            simp at hq
        · rcases h1.done x hx with h2 | h2
          · rcases set_true h2 with rfl | h2
            · refine .inr fun qs' hM p hp => ?_
              rw [hqs] at hM
              injection hM with hM
              injection hM with hM
              subst hM
              exact h1.src p hp
            · exact .inl h2
          · exact .inr h2
      · have hm : (match M[i]? with
            | some (.ep qs) => qs.foldl (fun r q => reachF M n r q) (s.set i true)
            | _ => s.set i true) = s.set i true := by
          split
          · rename_i qs h; exact absurd ⟨qs, h⟩ hep
          · rfl
        rw [hm]
        refine ⟨by rw [List.length_set], by omega, fun x hx => set_keeps hx, fun q hq => ?_, fun x hx => ?_, fun x hx => ?_⟩
        · rw [List.mem_singleton] at hq
          subst hq
          exact hself
        · rcases set_true hx with rfl | h2
          · exact .inr ⟨x, by simp, .refl x⟩
          · exact .inl h2
        · rcases set_true hx with rfl | h2
          · exact .inr fun qs h => absurd ⟨qs, h⟩ hep
          · exact .inl h2
end Rx
end Go.Proofs.Ytheblleadjbndaa

namespace Go.Proofs.Ytheblleadjbndaa
namespace Rx
/-- A set holds what its members reach without reading. -/
def Closed (M : List St) (s : List Bool) : Prop := ∀ x : Nat, s[x]? = some true → ∀ qs, M[x]? = some (.ep qs) → ∀ p ∈ qs, s[p]? = some true
theorem Closed.eps {M : List St} {s : List Bool} (h : Closed M s) {x y : Nat} (he : Eps M x y) : s[x]? = some true → s[y]? = some true := by
  induction he with
  | refl => exact id
  | step a _ c _ ih => exact fun hx => ih (h _ hx _ a _ c)
theorem Rea.closed {M : List St} {S : List Nat} {s r : List Bool} (h : Rea M S s r) (hs : Closed M s) : Closed M r := fun x hx qs hq p hp => by
  rcases h.done x hx with h1 | h1
  · exact h.mono _ (hs x h1 qs hq p hp)
  · exact h1 qs hq p hp
theorem Rea.iff {M : List St} {S : List Nat} {s r : List Bool} (h : Rea M S s r) (hs : Closed M s) (x : Nat) : r[x]? = some true ↔ s[x]? = some true ∨ ∃ q ∈ S, Eps M q x := by
  constructor
  · exact h.new x
  · rintro (h1 | ⟨q, hq, he⟩)
    · exact h.mono x h1
    · exact (h.closed hs).eps he (h.src q hq)
/-- No state. -/
def noneS (n : Nat) : List Bool := List.replicate n false
theorem noneS_len (n : Nat) : (noneS n).length = n := by simp [noneS]
theorem noneS_get (n x : Nat) : (noneS n)[x]? ≠ some true := by
  unfold noneS
  rw [List.getElem?_replicate]
  split <;> simp
theorem noneS_lack (n : Nat) : lack (noneS n) = n := by
  unfold lack noneS
  rw [List.countP_replicate]
  simp
theorem noneS_closed (M : List St) (n : Nat) : Closed M (noneS n) := fun x hx => absurd hx (noneS_get n x)
theorem lack_le (s : List Bool) : lack s ≤ s.length := List.countP_le_length
/-- The states before a byte. -/
def set0 (M : List St) (st : Nat) : List Bool := reachF M (M.length + 1) (noneS M.length) st
/-- A state's share of the states behind a byte. -/
def stepK (M : List St) (c : UInt8) (s nx : List Bool) (k : Nat) : List Bool :=
  if s[k]? = some true then (match M[k]? with
    | some (.rd f q) => if f c then reachF M (M.length + 1) nx q else nx
    | _ => nx) else nx
def stepS (M : List St) (c : UInt8) (s : List Bool) (j : Nat) : List Bool := (List.range j).foldl (stepK M c s) (noneS M.length)
theorem stepS_succ (M : List St) (c : UInt8) (s : List Bool) (j : Nat) : stepS M c s (j + 1) = stepK M c s (stepS M c s j) j := by
  unfold stepS
  rw [List.range_succ, List.foldl_append]; rfl
/-- The states behind a string. -/
def setAt (M : List St) (st : Nat) (l : List UInt8) : List Bool := l.foldl (fun s c => stepS M c s M.length) (set0 M st)
theorem setAt_snoc (M : List St) (st : Nat) (l : List UInt8) (c : UInt8) : setAt M st (l ++ [c]) = stepS M c (setAt M st l) M.length := by
  unfold setAt
  rw [List.foldl_append]; rfl
section
variable {M : List St} (h0 : M[0]? = some (.ep [])) (hOk : Ok M)
include h0 hOk
theorem stepS_tells (c : UInt8) (s : List Bool) : ∀ j : Nat, (stepS M c s j).length = M.length ∧ Closed M (stepS M c s j) ∧ ∀ x : Nat, (stepS M c s j)[x]? = some true ↔ ∃ k f q, k < j ∧ s[k]? = some true ∧ M[k]? = some (.rd f q) ∧ f c = true ∧ Eps M q x
  | 0 => ⟨noneS_len _, noneS_closed _ _, fun x => ⟨fun h => absurd h (noneS_get _ x), fun ⟨k, f, q, h, _⟩ => by omega⟩⟩
  | j + 1 => by
    obtain ⟨h1, h2, h3⟩ := stepS_tells c s j
    rw [stepS_succ]
    have hno : (∀ f q, s[j]? = some true → M[j]? = some (.rd f q) → ¬ f c = true) → ∀ x : Nat, (stepS M c s j)[x]? = some true ↔ ∃ k f q, k < j + 1 ∧ s[k]? = some true ∧ M[k]? = some (.rd f q) ∧ f c = true ∧ Eps M q x := by
      intro hn x
      rw [h3 x]
      constructor
      · rintro ⟨k, f, q, hk, h4⟩; exact ⟨k, f, q, by omega, h4⟩
      · rintro ⟨k, f, q, hk, h4, h5, h6, h7⟩
        by_cases e : k = j
        · subst e; exact absurd h6 (hn f q h4 h5)
        · exact ⟨k, f, q, by omega, h4, h5, h6, h7⟩
    unfold stepK
    by_cases hs : s[j]? = some true
    · rw [if_pos hs]
      by_cases hm : ∃ f q, M[j]? = some (.rd f q) ∧ f c = true
      · obtain ⟨f, q, hm1, hm2⟩ := hm
        rw [hm1]
        simp only
        rw [if_pos hm2]
        have hr := reach_rea M h0 hOk (M.length + 1) (stepS M c s j) q (by have := lack_le (stepS M c s j); omega) h1 (hOk j _ hm1 q (by simp [Nx]))
        refine ⟨hr.len.trans h1, hr.closed h2, fun x => ?_⟩
        rw [hr.iff h2 x, h3 x]
        constructor
        · rintro (⟨k, f', q', hk, h4⟩ | ⟨q', hq, he⟩)
          · exact ⟨k, f', q', by omega, h4⟩
          · rw [List.mem_singleton] at hq
            subst hq
            exact ⟨j, f, q', by omega, hs, hm1, hm2, he⟩
        · rintro ⟨k, f', q', hk, h4, h5, h6, h7⟩
          by_cases e : k = j
          · subst e
            rw [hm1] at h5
            injection h5 with h5
            injection h5 with e1 e2
            subst e1 e2
            exact .inr ⟨q, by simp, h7⟩
          · exact .inl ⟨k, f', q', by omega, h4, h5, h6, h7⟩
      · have hn : ∀ f q, s[j]? = some true → M[j]? = some (.rd f q) → ¬ f c = true := fun f q _ h4 h5 => hm ⟨f, q, h4, h5⟩
        have hsame : (match M[j]? with
            | some (.rd f q) => if f c then reachF M (M.length + 1) (stepS M c s j) q else stepS M c s j
            | _ => stepS M c s j) = stepS M c s j := by
          split
          · rename_i f q h4
            rw [if_neg (hn f q hs h4)]
          · rfl
        rw [hsame]
        exact ⟨h1, h2, hno hn⟩
    · rw [if_neg hs]
      exact ⟨h1, h2, hno fun f q h4 => absurd h4 hs⟩
theorem setAt_tells {st : Nat} (hst : st < M.length) (n : Nat) : ∀ l : List UInt8, l.length = n → (setAt M st l).length = M.length ∧ Closed M (setAt M st l) ∧ ∀ x : Nat, (setAt M st l)[x]? = some true ↔ Rch M st l x := by
  induction n with
  | zero =>
    intro l hl
    obtain rfl := List.length_eq_zero_iff.1 hl
    have hr := reach_rea M h0 hOk (M.length + 1) (noneS M.length) st (by rw [noneS_lack]; omega) (noneS_len _) hst
    refine ⟨hr.len.trans (noneS_len _), hr.closed (noneS_closed _ _), fun x => ?_⟩
    show (set0 M st)[x]? = some true ↔ _
    unfold set0
    rw [hr.iff (noneS_closed _ _) x]
    constructor
    · rintro (h | ⟨q, hq, he⟩)
      · exact absurd h (noneS_get _ x)
      · rw [List.mem_singleton] at hq
        subst hq
        exact .nil he
    · intro h
      exact .inr ⟨st, by simp, h.nil_inv⟩
  | succ n ih =>
    intro l hl
    obtain ⟨l', c, rfl⟩ : ∃ l' c, l = l' ++ [c] := by
      have hne : l ≠ [] := fun e => by subst e; simp at hl
      exact ⟨l.dropLast, l.getLast hne, (List.dropLast_concat_getLast hne).symm⟩
    have hl' : l'.length = n := by simpa using hl
    obtain ⟨_, _, h3⟩ := ih l' hl'
    rw [setAt_snoc]
    obtain ⟨h4, h5, h6⟩ := stepS_tells h0 hOk c (setAt M st l') M.length
    refine ⟨h4, h5, fun x => ?_⟩
    rw [h6 x]
    constructor
    · rintro ⟨k, f, q, _, hk, hm, hc, he⟩
      exact .snoc ((h3 k).1 hk) hm hc he
    · intro h
      generalize hw : l' ++ [c] = w at h
      cases h with
      | nil _ => simp at hw
      | @snoc w' r p _ g d h7 h8 h9 h10 =>
        obtain ⟨rfl, hcd⟩ := List.append_inj' hw rfl
        injection hcd with hcd _
        subst hcd
        exact ⟨r, g, p, (List.getElem?_eq_some_iff.1 h8).1, (h3 r).2 h7, h8, h9, h10⟩
end
/-- Whether the reference's machine accepts. -/
def accR (a : As) (w : List UInt8) : Bool := (setAt (rmach a).2 (rmach a).1 w)[0]?.getD false
theorem accR_iff (a : As) (w : List UInt8) : accR a w = true ↔ MA a w := by
  obtain ⟨h1, _, h3⟩ := setAt_tells (rmach_zero a) (rmach_ok a) (rmach_lt a) w.length w rfl
  have h4 : 0 < (setAt (rmach a).2 (rmach a).1 w).length := by rw [h1]; have := rmach_lt a; omega
  unfold accR
  rw [← rmach_acc, ← rch_iff (rmach_zero a), ← h3 0]
  rw [List.getElem?_eq_getElem h4]
  simp
theorem accR_match {p : List UInt8} {a : As} (h : parse p = some a) (w : List UInt8) : accR a w = matchR p w := bool_same ((accR_iff a w).trans (match_of h).symm)
/-! ### Find -/
theorem findR_of {p l : List UInt8} {f e : Nat} (h1 : f ≤ e) (h2 : e ≤ l.length) (hm : matchR p (seg l f e) = true) (hb : ∀ i k, i ≤ k → k ≤ l.length → (i < f ∨ (i = f ∧ e < k)) → matchR p (seg l i k) = false) : findR p l = some (f, e) := by
  rcases h : findR p l with _ | ⟨f', e'⟩
  · rw [find_none h f e h1 h2] at hm; cases hm
  · obtain ⟨g1, g2, g3, g4⟩ := find_some h
    have g5 := g4 f e h1 h2 hm
    have g6 : f' = f := by
      by_cases hlt : f' < f
      · rw [hb f' e' g1 g2 (.inl hlt)] at g3; cases g3
      · omega
    subst g6
    have g7 : e' = e := by
      by_cases hlt : e < e'
      · rw [hb f' e' g1 g2 (.inr ⟨rfl, hlt⟩)] at g3; cases g3
      · have := g5.2 rfl; omega
    rw [g7]
theorem findR_none_of {p l : List UInt8} (hb : ∀ i k, i ≤ k → k ≤ l.length → matchR p (seg l i k) = false) : findR p l = none := by
  rcases h : findR p l with _ | ⟨f', e'⟩
  · rfl
  · obtain ⟨g1, g2, g3, _⟩ := find_some h
    rw [hb f' e' g1 g2] at g3; cases g3
end Rx
end Go.Proofs.Ytheblleadjbndaa
