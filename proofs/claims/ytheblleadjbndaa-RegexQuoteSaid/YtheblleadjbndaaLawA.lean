/- What the laws of expressions come to: plain Lean. -/
import Derived.Test.YtheblleadjbndaaSrchB
import Derived.Test.YtheblleadjbndaaPar
namespace Go.Proofs.Ytheblleadjbndaa
namespace Rx
theorem checkR_zero {p : List UInt8} : checkR p = 0 ↔ ∃ a, parse p = some a := by
  unfold checkR
  by_cases h : 200 < p.length
  · rw [if_pos h, parse_long h]; simp
  · rw [if_neg h]
    rcases parse p with _ | a <;> simp
theorem bool_iff {x : Bool} {P : Prop} [Decidable P] (h : x = true ↔ P) : x = decide P := by
  by_cases hp : P
  · rw [h.2 hp, decide_eq_true hp]
  · rw [decide_eq_false hp]
    cases x
    · rfl
    · exact absurd (h.1 rfl) hp
theorem bool_same {x y : Bool} (h : x = true ↔ y = true) : x = y := by
  cases x <;> cases y <;> simp_all
theorem match_of {p l : List UInt8} {a : As} (ha : parse p = some a) : matchR p l = true ↔ MA a l := by
  rw [matchR_iff, ha]
  simp
def eitherS (p q : List UInt8) : List UInt8 := 40 :: (p ++ 41 :: 124 :: 40 :: (q ++ [41]))
def concatS (p q : List UInt8) : List UInt8 := 40 :: (p ++ 41 :: 40 :: (q ++ [41]))
def quantS (p : List UInt8) (c : UInt8) : List UInt8 := 40 :: (p ++ 41 :: [c])
theorem MS_one {u : U} {w : List UInt8} : MS (.cons u .nil) w ↔ MU u w := by
  simp only [MS]
  constructor
  · rintro ⟨x, y, rfl, h, rfl⟩; simpa using h
  · intro h; exact ⟨w, [], by simp, h, rfl⟩
theorem MS_g1 {a : As} {w : List UInt8} : MS (g1 a) w ↔ MA a w := by
  unfold g1
  rw [MS_one]; simp only [MU]
section
variable {p q : List UInt8} (hp : checkR p = 0) (hq : checkR q = 0)
include hp
theorem check_quant (c : UInt8) (hc : c = 42 ∨ c = 43 ∨ c = 63) : checkR (quantS p c) = if 200 < p.length + 3 then 4 else 0 := by
  have hl : (quantS p c).length = p.length + 3 := by simp [quantS]
  split
  · unfold checkR; rw [if_pos (by omega)]
  · obtain ⟨a, ha⟩ := checkR_zero.1 hp
    rw [checkR_zero]
    rcases hc with rfl | rfl | rfl
    · exact ⟨_, parse_quant ha (by omega) 42 (.star (.grp a)) rfl⟩
    · exact ⟨_, parse_quant ha (by omega) 43 (.plus (.grp a)) rfl⟩
    · exact ⟨_, parse_quant ha (by omega) 63 (.opt (.grp a)) rfl⟩
theorem match_opt (h : p.length + 3 ≤ 200) (s : List UInt8) : matchR (quantS p 63) s = (decide (s = []) || matchR p s) := by
  obtain ⟨a, ha⟩ := checkR_zero.1 hp
  apply bool_same
  rw [match_of (p := quantS p 63) (parse_quant ha h 63 (.opt (.grp a)) rfl), Bool.or_eq_true, match_of ha, decide_eq_true_eq]
  simp only [MA, MS_one, MU]
include hq
theorem check_either : checkR (eitherS p q) = if 200 < p.length + q.length + 5 then 4 else 0 := by
  have hl : (eitherS p q).length = p.length + q.length + 5 := by simp [eitherS]; omega
  split
  · unfold checkR; rw [if_pos (by omega)]
  · obtain ⟨a, ha⟩ := checkR_zero.1 hp
    obtain ⟨b, hb⟩ := checkR_zero.1 hq
    rw [checkR_zero]
    exact ⟨_, parse_either ha hb (by omega)⟩
theorem match_either (h : p.length + q.length + 5 ≤ 200) (s : List UInt8) : matchR (eitherS p q) s = (matchR p s || matchR q s) := by
  obtain ⟨a, ha⟩ := checkR_zero.1 hp
  obtain ⟨b, hb⟩ := checkR_zero.1 hq
  apply bool_same
  rw [match_of (p := eitherS p q) (parse_either ha hb h), Bool.or_eq_true, match_of ha, match_of hb]
  simp only [MA, MS_g1]
theorem check_concat : checkR (concatS p q) = if 200 < p.length + q.length + 4 then 4 else 0 := by
  have hl : (concatS p q).length = p.length + q.length + 4 := by simp [concatS]; omega
  split
  · unfold checkR; rw [if_pos (by omega)]
  · obtain ⟨a, ha⟩ := checkR_zero.1 hp
    obtain ⟨b, hb⟩ := checkR_zero.1 hq
    rw [checkR_zero]
    exact ⟨_, parse_concat ha hb (by omega)⟩
theorem match_concat (h : p.length + q.length + 4 ≤ 200) (s : List UInt8) : matchR (concatS p q) s = true ↔ ∃ x y, s = x ++ y ∧ matchR p x = true ∧ matchR q y = true := by
  obtain ⟨a, ha⟩ := checkR_zero.1 hp
  obtain ⟨b, hb⟩ := checkR_zero.1 hq
  rw [match_of (p := concatS p q) (parse_concat ha hb h)]
  simp only [MA, MS, MU, MS_g1, match_of ha, match_of hb]
end
end Rx
end Go.Proofs.Ytheblleadjbndaa
