/- What Prefix, Quote and Empty come to: plain Lean. -/
import Derived.Test.YthckgmbadmilfaaGreatMAE
namespace Go.Proofs.YthckgmbadmilfaaGreat
namespace Rx
/-- The bytes with which a sequence begins, and whether it is of bytes only. -/
def pre : Ss → List UInt8 × Bool
  | .nil => ([], true)
  | .cons (.byte c) s => (c :: (pre s).1, (pre s).2)
  | .cons _ _ => ([], false)
/-- What Prefix gives. -/
def prefR (p : List UInt8) : List UInt8 × Bool := match parse p with
  | some (.one s) => pre s
  | _ => ([], false)
/-- What Quote gives. -/
def quoteR (l : List UInt8) : List UInt8 := l.flatMap fun c => if special c then [92, c] else [c]
theorem pre_match : ∀ (s : Ss) (w : List UInt8), MS s w → ∃ v, w = (pre s).1 ++ v := by
  intro s
  induction s using Ss.rec (motive_1 := fun _ => True) (motive_3 := fun _ => True) with
  | nil => intro w _; exact ⟨w, rfl⟩
  | cons u s _ ih =>
    intro w h
    rcases u with c | f | a | u | u | u
    · simp only [MS, MU] at h
      obtain ⟨x, y, rfl, rfl, h⟩ := h
      obtain ⟨v, rfl⟩ := ih y h
      exact ⟨v, rfl⟩
    all_goals exact ⟨w, rfl⟩
  | _ => trivial
theorem pre_all : ∀ (s : Ss), (pre s).2 = true → ∀ w, MS s w ↔ w = (pre s).1 := by
  intro s
  induction s using Ss.rec (motive_1 := fun _ => True) (motive_3 := fun _ => True) with
  | nil => intro _ w; simp only [MS, pre]
  | cons u s _ ih =>
    intro h w
    rcases u with c | f | a | u | u | u
    · simp only [pre] at h ⊢
      simp only [MS, MU]
      constructor
      · rintro ⟨x, y, rfl, rfl, h1⟩
        rw [(ih h y).1 h1]; rfl
      · rintro rfl
        exact ⟨[c], _, rfl, rfl, (ih h _).2 rfl⟩
    all_goals simp [pre] at h
  | _ => trivial
theorem match_pref {p l : List UInt8} (h : matchR p l = true) : ∃ v, l = (prefR p).1 ++ v := by
  obtain ⟨a, ha, hm⟩ := (matchR_iff _ _).1 h
  unfold prefR
  rw [ha]
  rcases a with s | ⟨s, a⟩
  · simp only [MA] at hm
    exact pre_match s l hm
  · exact ⟨l, rfl⟩
theorem match_all {p : List UInt8} (h : (prefR p).2 = true) (l : List UInt8) : matchR p l = decide (l = (prefR p).1) := by
  unfold prefR at h ⊢
  rcases ha : parse p with _ | a
  · rw [ha] at h; simp at h
  · rw [ha] at h
    rcases a with s | ⟨s, a⟩
    · apply bool_iff
      rw [match_of ha]
      simp only [MA]
      exact pre_all s h l
    · simp at h
/-! ### Quote -/
/-- A sequence of bytes. -/
def bytesS : List UInt8 → Ss
  | [] => .nil
  | c :: l => .cons (.byte c) (bytesS l)
theorem pre_bytes : ∀ l, pre (bytesS l) = (l, true)
  | [] => rfl
  | c :: l => by simp only [bytesS, pre, pre_bytes l]
theorem special_iff {c : UInt8} : special c = true ↔ c = 46 ∨ c = 91 ∨ c = 93 ∨ c = 40 ∨ c = 41 ∨ c = 124 ∨ c = 42 ∨ c = 43 ∨ c = 63 ∨ c = 92 := by
  unfold special
  rw [List.contains_iff_mem]
  simp only [List.mem_cons, List.not_mem_nil, or_false]
theorem escU_special {c : UInt8} (h : special c = true) : escU c = some (.byte c) := by
  rcases special_iff.1 h with rfl | rfl | rfl | rfl | rfl | rfl | rfl | rfl | rfl | rfl <;> rfl
theorem quant_other {u : U} {l : List UInt8} (h : ∀ c r, l = c :: r → c ≠ 42 ∧ c ≠ 43 ∧ c ≠ 63) : quant u l = (u, l) := by
  unfold quant
  split
  · exact absurd rfl (h _ _ rfl).1
  · exact absurd rfl (h _ _ rfl).2.1
  · exact absurd rfl (h _ _ rfl).2.2
  · rfl
theorem quote_head {l : List UInt8} : ∀ c r, quoteR l = c :: r → c ≠ 42 ∧ c ≠ 43 ∧ c ≠ 63 := by
  intro c r h
  rcases l with _ | ⟨d, l⟩
  · simp [quoteR] at h
  · unfold quoteR at h
    rw [List.flatMap_cons] at h
    by_cases hs : special d = true
    · rw [if_pos hs] at h
      injection h with h _
      subst h
      decide
    · rw [if_neg hs] at h
      injection h with h _
      subst h
      rw [special_iff] at hs
      exact ⟨fun e => hs (by simp [e]), fun e => hs (by simp [e]), fun e => hs (by simp [e])⟩
theorem seqs_quote : ∀ (l : List UInt8) (n : Nat), 2 * l.length + 2 ≤ n → seqs n (quoteR l) = some (bytesS l, [])
  | [], n, h => by
    obtain ⟨n, rfl⟩ : ∃ k, n = k + 1 := ⟨n - 1, by omega⟩
    simp [quoteR, seqs, bytesS]
  | c :: l, n, h => by
    simp only [List.length_cons] at h
    obtain ⟨n, rfl⟩ : ∃ k, n = k + 2 := ⟨n - 2, by omega⟩
    have ih := seqs_quote l (n + 1) (by omega)
    have hq : ∀ u, quant u (quoteR l) = (u, quoteR l) := fun u => quant_other quote_head
    by_cases hs : special c = true
    · have e : quoteR (c :: l) = 92 :: c :: quoteR l := by
        unfold quoteR; rw [List.flatMap_cons, if_pos hs]; rfl
      have ha : atom (n + 1) (92 :: c :: quoteR l) = some (.byte c, quoteR l) := by
        simp only [atom]
        rw [if_neg (by decide), if_neg (by decide), if_neg (by decide), if_pos trivial, escU_special hs]; rfl
      rw [e, seqs]
      simp only
      rw [if_neg (by decide), ha]
      simp only [Option.bind_some]
      rw [hq, ih]; rfl
    · have e : quoteR (c :: l) = c :: quoteR l := by
        unfold quoteR; rw [List.flatMap_cons, if_neg hs]; rfl
      have hs2 : ∀ d, special d = true → c ≠ d := fun d hd he => hs (he ▸ hd)
      have hs3 : special c = false := by simpa using hs
      have ha : atom (n + 1) (c :: quoteR l) = some (.byte c, quoteR l) := by
        simp only [atom]
        rw [if_neg (hs2 40 (by decide)), if_neg (hs2 91 (by decide)), if_neg (hs2 46 (by decide)), if_neg (hs2 92 (by decide)), if_neg hs]
      rw [e, seqs]
      simp only
      rw [if_neg (by rintro (h | h); exact hs2 124 (by decide) h; exact hs2 41 (by decide) h), ha]
      simp only [Option.bind_some]
      rw [hq, ih]; rfl
theorem quote_len_ge (l : List UInt8) : l.length ≤ (quoteR l).length := by
  induction l with
  | nil => simp [quoteR]
  | cons c l ih =>
    unfold quoteR at ih ⊢
    rw [List.flatMap_cons, List.length_append, List.length_cons]
    split <;> simp only [List.length_cons, List.length_nil] <;> omega
theorem parse_quote {l : List UInt8} (h : (quoteR l).length ≤ 200) : parse (quoteR l) = some (.one (bytesS l)) := by
  refine parse_of h ?_
  have h1 := quote_len_ge l
  unfold fuel
  rw [alts, seqs_quote l _ (by omega)]
  rfl
/-! ### Empty -/
/-- All bytes. -/
def all256 : List UInt8 := (List.range 256).map fun i => UInt8.ofNat i
theorem mem_all (c : UInt8) : c ∈ all256 := by
  unfold all256
  rw [List.mem_map]
  exact ⟨c.toNat, by rw [List.mem_range]; exact c.toNat_lt, by simp⟩
mutual
/-- Whether nothing matches. -/
def emU : U → Bool
  | .byte _ => false
  | .cls f => !all256.any f
  | .grp a => emA a
  | .star _ => false
  | .plus u => emU u
  | .opt _ => false
def emA : As → Bool
  | .one s => emS s
  | .more s a => emS s && emA a
def emS : Ss → Bool
  | .nil => false
  | .cons u s => emU u || emS s
end
/-- What Empty gives. -/
def emptyR (p : List UInt8) : Bool := match parse p with
  | some a => emA a
  | none => false
mutual
theorem emU_no : ∀ (u : U), emU u = true ↔ ∀ w, ¬ MU u w
  | .byte c => by
    simp only [emU, MU, Bool.false_eq_true, false_iff]
    exact fun h => h _ rfl
  | .cls f => by
    simp only [emU, MU]
    rw [Bool.not_eq_true', List.any_eq_false]
    constructor
    · rintro h w ⟨c, _, hc⟩
      exact h c (mem_all c) hc
    · intro h c _ hc
      exact h [c] ⟨c, rfl, hc⟩
  | .grp a => by simp only [emU, MU]; exact emA_no a
  | .star u => by
    simp only [emU, MU, Bool.false_eq_true, false_iff]
    exact fun h => h _ .nil
  | .plus u => by
    simp only [emU, MU]
    rw [emU_no u]
    constructor
    · rintro h w ⟨x, y, _, h1, _⟩
      exact h x h1
    · intro h w hw
      exact h w ⟨w, [], by simp, hw, .nil⟩
  | .opt u => by
    simp only [emU, MU, Bool.false_eq_true, false_iff]
    exact fun h => h [] (.inl rfl)
theorem emA_no : ∀ (a : As), emA a = true ↔ ∀ w, ¬ MA a w
  | .one s => by simp only [emA, MA]; exact emS_no s
  | .more s a => by
    simp only [emA, MA]
    rw [Bool.and_eq_true, emS_no s, emA_no a]
    constructor
    · rintro ⟨h1, h2⟩ w (h | h)
      · exact h1 w h
      · exact h2 w h
    · exact fun h => ⟨fun w hw => h w (.inl hw), fun w hw => h w (.inr hw)⟩
theorem emS_no : ∀ (s : Ss), emS s = true ↔ ∀ w, ¬ MS s w
  | .nil => by
    simp only [emS, MS, Bool.false_eq_true, false_iff]
    exact fun h => h _ rfl
  | .cons u s => by
    simp only [emS, MS]
    rw [Bool.or_eq_true, emU_no u, emS_no s]
    constructor
    · rintro (h | h) w ⟨x, y, _, h1, h2⟩
      · exact h x h1
      · exact h y h2
    · intro h
      by_cases e : ∃ x, MU u x
      · obtain ⟨x, hx⟩ := e
        exact .inr fun y hy => h (x ++ y) ⟨x, y, rfl, hx, hy⟩
      · exact .inl fun x hx => e ⟨x, hx⟩
end
theorem empty_no {p : List UInt8} (h : emptyR p = true) (l : List UInt8) : matchR p l = false := by
  rcases hm : matchR p l with _ | _
  · rfl
  · obtain ⟨a, ha, hx⟩ := (matchR_iff _ _).1 hm
    unfold emptyR at h
    rw [ha] at h
    exact absurd hx ((emA_no a).1 h l)
theorem empty_of {p : List UInt8} {a : As} (h : parse p = some a) : emptyR p = emA a := by
  unfold emptyR; rw [h]
theorem emS_bytes : ∀ l, emS (bytesS l) = false
  | [] => rfl
  | c :: l => by simp only [bytesS, emS, emU, emS_bytes l]; rfl
section
variable {p q : List UInt8} (hp : checkR p = 0) (hq : checkR q = 0)
include hp
theorem empty_quant (h : p.length + 3 ≤ 200) : emptyR (quantS p 42) = false ∧ emptyR (quantS p 63) = false ∧ emptyR (quantS p 43) = emptyR p := by
  obtain ⟨a, ha⟩ := checkR_zero.1 hp
  rw [empty_of (p := quantS p 42) (parse_quant ha h 42 (.star (.grp a)) rfl), empty_of (p := quantS p 63) (parse_quant ha h 63 (.opt (.grp a)) rfl), empty_of (p := quantS p 43) (parse_quant ha h 43 (.plus (.grp a)) rfl), empty_of ha]
  simp [emA, emS, emU]
include hq
theorem empty_either (h : p.length + q.length + 5 ≤ 200) : emptyR (eitherS p q) = (emptyR p && emptyR q) := by
  obtain ⟨a, ha⟩ := checkR_zero.1 hp
  obtain ⟨b, hb⟩ := checkR_zero.1 hq
  rw [empty_of (p := eitherS p q) (parse_either ha hb h), empty_of ha, empty_of hb]
  simp [emA, g1, emS, emU]
theorem empty_concat (h : p.length + q.length + 4 ≤ 200) : emptyR (concatS p q) = (emptyR p || emptyR q) := by
  obtain ⟨a, ha⟩ := checkR_zero.1 hp
  obtain ⟨b, hb⟩ := checkR_zero.1 hq
  rw [empty_of (p := concatS p q) (parse_concat ha hb h), empty_of ha, empty_of hb]
  simp [emA, g1, emS, emU]
end
/-- What a quoted string tells. -/
theorem quote_tells {l : List UInt8} (h : (quoteR l).length ≤ 200) : checkR (quoteR l) = 0 ∧ prefR (quoteR l) = (l, true) ∧ (∀ t, matchR (quoteR l) t = decide (t = l)) ∧ emptyR (quoteR l) = false := by
  have hpq := parse_quote h
  have hpr : prefR (quoteR l) = (l, true) := by unfold prefR; rw [hpq]; exact pre_bytes l
  refine ⟨checkR_zero.2 ⟨_, hpq⟩, hpr, fun t => ?_, ?_⟩
  · have := match_all (p := quoteR l) (by rw [hpr]) t
    rw [hpr] at this
    exact this
  · rw [empty_of hpq]
    simp only [emA, emS_bytes]
end Rx
end Go.Proofs.YthckgmbadmilfaaGreat
