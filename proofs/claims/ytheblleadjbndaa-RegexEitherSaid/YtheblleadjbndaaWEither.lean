/- The walk of RegexEither. -/
import Derived.Test.YtheblleadjbndaaGd
import Derived.Test.YtheblleadjbndaaGe
import Derived.Test.YtheblleadjbndaaLawA
import Derived.Deep.DeepCutAuto
namespace Go.Proofs.Ytheblleadjbndaa
open Go.RowKit Rx
theorem bs_app (a b : ByteArray) : bs (a ++ b) = bs a ++ bs b := by simp [bs, ByteArray.data_append]
def eitherB (p q : ByteArray) : ByteArray := (⟨#[40]⟩ : ByteArray) ++ p ++ ⟨#[41, 124, 40]⟩ ++ q ++ ⟨#[41]⟩
def optB (p : ByteArray) : ByteArray := (⟨#[40]⟩ : ByteArray) ++ p ++ ⟨#[41, 63]⟩
theorem bs_either (p q : ByteArray) : bs (eitherB p q) = eitherS (bs p) (bs q) := by simp [eitherB, eitherS, bs]
theorem bs_opt (p : ByteArray) : bs (optB p) = quantS (bs p) 63 := by simp [optB, quantS, bs]
theorem ne_int {n : Nat} (h : n ≠ 0) : ((n : Int) != 0) = true := by rw [bne_iff_ne]; omega
theorem great_small {s : ByteArray} {ps : List ByteArray} (h : greatR s ps = false) : s.size ≤ 40 ∧ ∀ p ∈ ps, p.size ≤ 210 := by
  unfold greatR at h
  rw [Bool.or_eq_false_iff, List.any_eq_false, decide_eq_false_iff_not] at h
  exact ⟨by omega, fun p hp => by have := h.1 p hp; simpa using this⟩
set_option maxRecDepth 100000 in
set_option maxHeartbeats 4000000 in
theorem either_walk (p q s : ByteArray) (W : World) : Calls Try.prog 5 #[.string p, .string q, .string s] W fun e w' => e = .returned (.bool true) ∧ Below W.heap.size W w' := by
  have HAW := Lib.hid awake_any
  have HCK := Lib.hid check_any
  have HMT := Lib.hid match_any
  have hgr := great_any s W.heap.size [p, q] (W.alloc (.cells #[.string p, .string q] 9)) (by simp) (fun j x hx => by
    rcases j with _ | _ | j
    · simp at hx; subst hx; exact (At.new W #[.string p, .string q] 9).cell 0
    · simp at hx; subst hx; exact (At.new W #[.string p, .string q] 9).cell 1
    · simp at hx)
  have HGR := Lib.hid hgr
  clear hgr
  go_enter Try.func5, Try.ntmps5
  go_wp2_with fail
  refine (HGR.out).mono ?_
  rintro e w1 ⟨rfl, rfl⟩
  have HB : Hid (Below W.heap.size W (W.alloc (.cells #[.string p, .string q] 9))) := Lib.hid ((Below.refl _ _).alloc (Nat.le_refl _) _)
  generalize W.alloc (.cells #[.string p, .string q] 9) = w1 at *
  cases hg : greatR s [p, q]
  · obtain ⟨hs, hpq⟩ := great_small hg
    have HS : Hid (s.size ≤ 40000) := Lib.hid (by omega)
    have HPQ : Hid (p.size ≤ 210 ∧ q.size ≤ 210) := Lib.hid ⟨hpq p (by simp), hpq q (by simp)⟩
    clear hg hs hpq HGR
    go_wp2_with fail
    refine ((HCK.out p _)).mono ?_
    rintro e w' ⟨rfl, hb⟩
    replace HB := Lib.hid (HB.out.trans (hb.mono HB.out.size))
    clear hb
    by_cases hp : checkR (bs p) = 0
    · rw [hp]
      have HP := Lib.hid hp
      clear hp
      go_wp2_with fail
      refine ((HCK.out q _)).mono ?_
      rintro e w' ⟨rfl, hb⟩
      replace HB := Lib.hid (HB.out.trans (hb.mono HB.out.size))
      clear hb
      by_cases hq : checkR (bs q) = 0
      · rw [hq]
        have HQ := Lib.hid hq
        clear hq
        have k1 : ¬ 9223372036854775807 < 1 + p.size := by have := HPQ.out; omega
        have k2 : ¬ 9223372036854775807 < 1 + p.size + 3 := by have := HPQ.out; omega
        have k3 : ¬ 9223372036854775807 < 1 + p.size + 3 + q.size := by have := HPQ.out; omega
        have k4 : ¬ 9223372036854775807 < 1 + p.size + 3 + q.size + 1 := by have := HPQ.out; omega
        have k5 : ¬ 9223372036854775807 < 1 + p.size + 2 := by have := HPQ.out; omega
        go_upto_region 4 with fail
        clear k1 k2 k3 k4 k5
        have hbE : bs (({ data := #[40] } : ByteArray) ++ p ++ { data := #[41, 124, 40] } ++ q ++ { data := #[41] }) = eitherS (bs p) (bs q) := bs_either p q
        have hbO : bs (({ data := #[40] } : ByteArray) ++ p ++ { data := #[41, 63] }) = quantS (bs p) 63 := bs_opt p
        generalize (({ data := #[40] } : ByteArray) ++ p ++ { data := #[41, 124, 40] } ++ q ++ { data := #[41] }) = E at *
        generalize (({ data := #[40] } : ByteArray) ++ p ++ { data := #[41, 63] }) = O at *
        have hsE : E.size = p.size + q.size + 5 := by
          have h1 : (bs E).length = E.size := rfl
          rw [hbE] at h1
          have h2 : (bs p).length = p.size := rfl
          have h3 : (bs q).length = q.size := rfl
          simp [eitherS] at h1
          omega
        have hsO : O.size = p.size + 3 := by
          have h1 : (bs O).length = O.size := rfl
          rw [hbO] at h1
          have h2 : (bs p).length = p.size := rfl
          simp [quantS] at h1
          omega
        have hcE := check_either HP.out HQ.out
        have hcO := check_quant HP.out 63 (.inr (.inr rfl))
        have hmE := match_either HP.out HQ.out (s := bs s)
        have hmO := match_opt HP.out (s := bs s)
        rw [← hbE] at hcE hmE
        rw [← hbO] at hcO hmO
        simp only [bs_length] at hcE hcO hmE hmO
        simp only [← hsE] at hcE hmE
        simp only [← hsO] at hcO hmO
        have HSE : Hid (E.size = p.size + q.size + 5) := Lib.hid hsE
        have HSO : Hid (O.size = p.size + 3) := Lib.hid hsO
        have HCE := Lib.hid hcE
        have HCO := Lib.hid hcO
        have HME := Lib.hid hmE
        have HMO := Lib.hid hmO
        clear hbE hbO hsE hsO hcE hcO hmE hmO HP HQ
        go_cut [50] (fun v wx => v = .bool false ∧ Below W.heap.size W wx)
        case first =>
          by_cases h1 : 200 < E.size
          · have h2 : checkR (bs E) = 4 := by rw [HCE.out, if_pos h1]
            clear h1
            go_wp2_with fail
            refine ((HCK.out E _)).mono ?_
            rintro e w' ⟨rfl, hb⟩
            replace HB := Lib.hid (HB.out.trans (hb.mono HB.out.size))
            clear hb
            rw [h2]
            clear h2
            go_wp2_with fail
            go_meet
            exact ⟨rfl, HB.out⟩
          · have h2 : checkR (bs E) = 0 := by rw [HCE.out, if_neg h1]
            have h3 := HME.out (by omega)
            clear h1
            go_wp2_with fail
            refine ((HCK.out E _)).mono ?_
            rintro e w' ⟨rfl, hb⟩
            replace HB := Lib.hid (HB.out.trans (hb.mono HB.out.size))
            clear hb
            rw [h2]
            clear h2
            go_wp2_with fail
            refine ((HMT.out E s _ HS.out)).mono ?_
            rintro e w' ⟨rfl, hb⟩
            replace HB := Lib.hid (HB.out.trans (hb.mono HB.out.size))
            clear hb
            rw [h3]
            clear h3
            go_wp2_with fail
            refine ((HMT.out p s _ HS.out)).mono ?_
            rintro e w' ⟨rfl, hb⟩
            replace HB := Lib.hid (HB.out.trans (hb.mono HB.out.size))
            clear hb
            cases hx : matchR (bs p) (bs s)
            · clear hx
              go_wp2_with fail
              refine ((HMT.out q s _ HS.out)).mono ?_
              rintro e w' ⟨rfl, hb⟩
              replace HB := Lib.hid (HB.out.trans (hb.mono HB.out.size))
              clear hb
              cases hy : matchR (bs q) (bs s)
              · clear hy
                go_wp2_with fail
                go_meet
                exact ⟨rfl, HB.out⟩
              · clear hy
                go_wp2_with fail
                go_meet
                exact ⟨rfl, HB.out⟩
            · clear hx
              go_wp2_with fail
              go_meet
              exact ⟨rfl, HB.out⟩
        case rest =>
          obtain ⟨rfl, hb⟩ := hcut
          clear HB
          have HB := Lib.hid hb
          clear hb HME
          go_upto_region 6 with fail
          go_cut [66] (fun v wx => v = .bool false ∧ Below W.heap.size W wx)
          case first =>
            by_cases h1 : 200 < O.size
            · have h2 : checkR (bs O) = 4 := by rw [HCO.out, if_pos h1]
              clear h1
              go_wp2_with fail
              refine ((HCK.out O _)).mono ?_
              rintro e w' ⟨rfl, hb⟩
              replace HB := Lib.hid (HB.out.trans (hb.mono HB.out.size))
              clear hb
              rw [h2]
              clear h2
              go_wp2_with fail
              go_meet
              exact ⟨rfl, HB.out⟩
            · have h2 : checkR (bs O) = 0 := by rw [HCO.out, if_neg h1]
              have h3 := HMO.out (by omega)
              clear h1
              go_wp2_with fail
              refine ((HCK.out O _)).mono ?_
              rintro e w' ⟨rfl, hb⟩
              replace HB := Lib.hid (HB.out.trans (hb.mono HB.out.size))
              clear hb
              rw [h2]
              clear h2
              go_wp2_with fail
              refine ((HMT.out O s _ HS.out)).mono ?_
              rintro e w' ⟨rfl, hb⟩
              replace HB := Lib.hid (HB.out.trans (hb.mono HB.out.size))
              clear hb
              rw [h3]
              clear h3
              by_cases hz : bs s = []
              · have hse : s.toList = [] := by rw [ByteArray.toList_eq]; exact hz
                rw [decide_eq_true hz, Bool.true_or]
                clear hz
                go_wp2_with fail
                go_meet
                exact ⟨by first | rfl | simp [hse], HB.out⟩
              · have hse : ¬ s.toList = [] := by rw [ByteArray.toList_eq]; exact hz
                rw [decide_eq_false hz, Bool.false_or]
                clear hz
                go_wp2_with fail
                refine ((HMT.out p s _ HS.out)).mono ?_
                rintro e w' ⟨rfl, hb⟩
                replace HB := Lib.hid (HB.out.trans (hb.mono HB.out.size))
                clear hb
                cases hx : matchR (bs p) (bs s)
                · clear hx
                  go_wp2_with fail
                  go_meet
                  exact ⟨by first | rfl | simp [hse], HB.out⟩
                · clear hx
                  go_wp2_with fail
                  go_meet
                  exact ⟨by first | rfl | simp [hse], HB.out⟩
          case rest =>
            obtain ⟨rfl, hb⟩ := hcut
            clear HB
            have HB := Lib.hid hb
            clear hb HMO
            by_cases h1 : 200 < E.size
            · have h2 : checkR (bs E) = 4 := by rw [HCE.out, if_pos h1]
              have h1i : ¬ (E.size : Int) ≤ 200 := by omega
              by_cases h3 : 200 < O.size
              · have h4 : checkR (bs O) = 4 := by rw [HCO.out, if_pos h3]
                have h3i : ¬ (O.size : Int) ≤ 200 := by omega
                clear h1 h3
                go_wp2_with fail
                refine ((HCK.out E _)).mono ?_
                rintro e w' ⟨rfl, hb⟩
                replace HB := Lib.hid (HB.out.trans (hb.mono HB.out.size))
                clear hb
                rw [h2]
                clear h2
                go_wp2_with fail
                refine ((HCK.out O _)).mono ?_
                rintro e w' ⟨rfl, hb⟩
                replace HB := Lib.hid (HB.out.trans (hb.mono HB.out.size))
                clear hb
                rw [h4]
                clear h4
                go_wp2_with fail
                refine ((HAW.out _)).mono ?_
                rintro e w' ⟨rfl, hb⟩
                replace HB := Lib.hid (HB.out.trans (hb.mono HB.out.size))
                clear hb
                go_wp2_with fail
                go_ret
                exact ⟨by first | rfl | exact ret_bool (by simp [h1i, h3i]), HB.out⟩
              · have h4 : checkR (bs O) = 0 := by rw [HCO.out, if_neg h3]
                have h3i : (O.size : Int) ≤ 200 := by omega
                clear h1 h3
                go_wp2_with fail
                refine ((HCK.out E _)).mono ?_
                rintro e w' ⟨rfl, hb⟩
                replace HB := Lib.hid (HB.out.trans (hb.mono HB.out.size))
                clear hb
                rw [h2]
                clear h2
                go_wp2_with fail
                refine ((HCK.out O _)).mono ?_
                rintro e w' ⟨rfl, hb⟩
                replace HB := Lib.hid (HB.out.trans (hb.mono HB.out.size))
                clear hb
                rw [h4]
                clear h4
                go_wp2_with fail
                refine ((HAW.out _)).mono ?_
                rintro e w' ⟨rfl, hb⟩
                replace HB := Lib.hid (HB.out.trans (hb.mono HB.out.size))
                clear hb
                go_wp2_with fail
                go_ret
                exact ⟨by first | rfl | exact ret_bool (by simp [h1i]), HB.out⟩
            · have h2 : checkR (bs E) = 0 := by rw [HCE.out, if_neg h1]
              have h1i : (E.size : Int) ≤ 200 := by omega
              have h4 : checkR (bs O) = 0 := by rw [HCO.out, if_neg (by have := HSE.out; have := HSO.out; omega)]
              have h3i : (O.size : Int) ≤ 200 := by have := HSE.out; have := HSO.out; omega
              clear h1
              go_wp2_with fail
              refine ((HCK.out E _)).mono ?_
              rintro e w' ⟨rfl, hb⟩
              replace HB := Lib.hid (HB.out.trans (hb.mono HB.out.size))
              clear hb
              rw [h2]
              clear h2
              go_wp2_with fail
              refine ((HCK.out O _)).mono ?_
              rintro e w' ⟨rfl, hb⟩
              replace HB := Lib.hid (HB.out.trans (hb.mono HB.out.size))
              clear hb
              rw [h4]
              clear h4
              go_wp2_with fail
              refine ((HAW.out _)).mono ?_
              rintro e w' ⟨rfl, hb⟩
              replace HB := Lib.hid (HB.out.trans (hb.mono HB.out.size))
              clear hb
              go_wp2_with fail
              go_ret
              exact ⟨by first | rfl | exact ret_bool (by simp [h1i, h3i]), HB.out⟩
      · have hq2 := ne_int hq
        generalize checkR (bs q) = n at *
        clear hq
        go_wp2_with fail
        refine ((HAW.out _)).mono ?_
        rintro e w' ⟨rfl, hb⟩
        replace HB := Lib.hid (HB.out.trans (hb.mono HB.out.size))
        clear hb
        go_wp2_with fail
        go_ret
        exact ⟨rfl, HB.out⟩
    · have hp2 := ne_int hp
      generalize checkR (bs p) = n at *
      clear hp
      go_wp2_with fail
      refine ((HAW.out _)).mono ?_
      rintro e w' ⟨rfl, hb⟩
      replace HB := Lib.hid (HB.out.trans (hb.mono HB.out.size))
      clear hb
      go_wp2_with fail
      go_ret
      exact ⟨rfl, HB.out⟩
  · clear hg HGR
    go_wp2_with fail
    refine ((HAW.out _)).mono ?_
    rintro e w' ⟨rfl, hb⟩
    replace HB := Lib.hid (HB.out.trans (hb.mono HB.out.size))
    clear hb
    go_wp2_with fail
    go_ret
    exact ⟨rfl, HB.out⟩
end Go.Proofs.Ytheblleadjbndaa
