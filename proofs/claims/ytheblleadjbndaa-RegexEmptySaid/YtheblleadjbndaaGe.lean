/- great. -/
import Derived.Test.YtheblleadjbndaaBase
import Derived.Deep.LoopGhost
namespace Go.Proofs.Ytheblleadjbndaa
open Go.RowKit
def greatR (s : ByteArray) (ps : List ByteArray) : Bool := ps.any (fun p => decide (210 < p.size)) || decide (40 < s.size)
set_option maxHeartbeats 1000000 in
theorem great_any (s : ByteArray) (b : Nat) (ps : List ByteArray) (W : World) (hl : ps.length ≤ 1000) (hc : ∀ (j : Nat) q, ps[j]? = some q → W.cell? ⟨b, j, none⟩ = some (.string q)) :
    Calls Try.prog 13 #[.string s, .slice (some ⟨b, 0, none⟩) ps.length ps.length] W fun e w' => e = .returned (.bool (greatR s ps)) ∧ w' = W := by
  have HL := Lib.hid hl
  have HC := Lib.hid hc
  clear hl hc
  go_enter Try.func13, Try.ntmps13
  go_wp2_with fail
  go_loopg [9] ps.length (fun g i wr => ∃ j : Nat, W = wr ∧ g = ps.length - j ∧ j ≤ ps.length ∧ i = .int .i64 j ∧ (ps.take j).any (fun p => decide (210 < p.size)) = false)
  case atStart => exact ⟨0, rfl, rfl, Nat.zero_le _, rfl, rfl⟩
  case round =>
    obtain ⟨j, rfl, hg, hj, rfl, hn⟩ := hrel
    have hjl : (j : Int) ≤ 1000 := by have := HL.out; omega
    have HN := Lib.hid hn
    clear hn
    by_cases hlt : j < ps.length
    · obtain ⟨q, hq⟩ : ∃ q, ps[j]? = some q := ⟨_, List.getElem?_eq_getElem hlt⟩
      have hlti : (j : Int) < (ps.length : Int) := by omega
      have c0 : W.cell? ⟨b, j, none⟩ = some (.string q) := HC.out j q hq
      have hpq : ps[j] = q := by rw [List.getElem?_eq_getElem hlt] at hq; exact Option.some.inj hq
      by_cases hb : 210 < q.size
      · have HG : Hid (greatR s ps = true) := Lib.hid (by
          unfold greatR
          rw [Bool.or_eq_true, List.any_eq_true]
          exact .inl ⟨q, List.mem_of_getElem? hq, by simp [hb]⟩)
        have hbi : (q.size : Int) > 210 := by omega
        clear hb hq hpq hg
        go_wp2_with fail
        go_ret
        exact ⟨ret_bool HG.out.symm, rfl⟩
      · have HN2 : Hid ((ps.take (j + 1)).any (fun p => decide (210 < p.size)) = false) := Lib.hid (by
          rw [List.take_succ_eq_append_getElem hlt, List.any_append, HN.out, hpq]
          simp [hb])
        have hbi : ¬ (q.size : Int) > 210 := by omega
        have HMO : Hid (ps.length - (j + 1) < gk) := Lib.hid (by omega)
        clear hb hq hpq hg
        go_wp2_with fail
        go_roundg (ps.length - (j + 1))
        case measure => exact HMO.out
        case rel => exact ⟨j + 1, rfl, rfl, by omega, rfl, HN2.out⟩
    · obtain rfl : j = ps.length := by omega
      have HG : Hid (greatR s ps = decide ((s.size : Int) > 40)) := Lib.hid (by
        have h1 := HN.out
        rw [List.take_of_length_le (Nat.le_refl _)] at h1
        unfold greatR
        rw [h1, Bool.false_or]
        by_cases h : 40 < s.size
        · have : (s.size : Int) > 40 := by omega
          simp [h, this]
        · have : ¬ (s.size : Int) > 40 := by omega
          rw [decide_eq_false h, decide_eq_false this])
      clear hlt hj hg
      go_wp2_with fail
      go_ret
      exact ⟨ret_bool HG.out.symm, rfl⟩
end Go.Proofs.Ytheblleadjbndaa
