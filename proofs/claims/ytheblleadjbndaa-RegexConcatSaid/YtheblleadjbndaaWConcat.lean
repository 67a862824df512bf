/- The walk of RegexConcat. -/
import Derived.Test.YtheblleadjbndaaWw
namespace Go.Proofs.Ytheblleadjbndaa
open Go.RowKit Rx
set_option maxRecDepth 100000 in
set_option maxHeartbeats 4000000 in
theorem concat_walk (p q s : ByteArray) (W : World) (hp0 : p.size ≤ 140737488351232) (hq0 : q.size ≤ 140737488351232) : Calls Try.prog 6 #[.string p, .string q, .string s] W fun e w' => e = .returned (.bool true) ∧ Below W.heap.size W w' := by
  have HAW := Lib.hid awake_any
  have HCK := Lib.hid check_any
  have HMT := Lib.hid match_any
  have hgr := great_any s W.heap.size [p, q] (W.alloc (.cells #[.string p, .string q] 9)) (by simp) (fun j x hx => by
    rcases j with _ | _ | j
    · simp at hx; subst hx; exact (At.new W #[.string p, .string q] 9).cell 0
    · simp at hx; subst hx; exact (At.new W #[.string p, .string q] 9).cell 1
    · simp at hx)
  have HGR := Lib.hid hgr
  clear hgr
  have k1 : ¬ 9223372036854775807 < 1 + p.size := by omega
  have k2 : ¬ 9223372036854775807 < 1 + p.size + 2 := by omega
  have k3 : ¬ 9223372036854775807 < 1 + p.size + 2 + q.size := by omega
  have k4 : ¬ 9223372036854775807 < 1 + p.size + 2 + q.size + 1 := by omega
  clear hp0 hq0
  go_enter Try.func6, Try.ntmps6
  go_upto_region 2 with fail
  clear k1 k2 k3 k4
  have hbE := bs_concat p q
  generalize (({ data := #[40] } : ByteArray) ++ p ++ { data := #[41, 40] } ++ q ++ { data := #[41] }) = E at *
  have HBE := Lib.hid hbE
  clear hbE
  go_wp2_with fail
  refine (HGR.out).mono ?_
  rintro e w1 ⟨rfl, rfl⟩
  have HB : Hid (Below W.heap.size W (W.alloc (.cells #[.string p, .string q] 9))) := Lib.hid ((Below.refl _ _).alloc (Nat.le_refl _) _)
  generalize W.alloc (.cells #[.string p, .string q] 9) = w1 at *
  cases hg : greatR s [p, q]
  · obtain ⟨hs, hpq⟩ := great_small hg
    have HS : Hid (s.size ≤ 40) := Lib.hid (by omega)
    clear hg hpq HGR hs
    go_wp2_with fail
    refine ((HCK.out p _)).mono ?_
    rintro e w' ⟨rfl, hb⟩
    replace HB := Lib.hid (HB.out.trans (hb.mono HB.out.size))
    clear hb
    by_cases hp : checkR (bs p) = 0
    · rw [hp]
      have HP := Lib.hid hp
      clear hp
      go_wp2_with fail
      refine ((HCK.out q _)).mono ?_
      rintro e w' ⟨rfl, hb⟩
      replace HB := Lib.hid (HB.out.trans (hb.mono HB.out.size))
      clear hb
      by_cases hq : checkR (bs q) = 0
      · rw [hq]
        have HQ := Lib.hid hq
        clear hq
        go_wp2_with fail
        refine ((HCK.out E _)).mono ?_
        rintro e w' ⟨rfl, hb⟩
        replace HB := Lib.hid (HB.out.trans (hb.mono HB.out.size))
        clear hb
        by_cases he : checkR (bs E) = 0
        · rw [he]
          have hE : matchR (bs E) (bs s) = cuts (matchR (bs p)) (matchR (bs q)) (bs s) (s.size + 1) := by
            have h1 := check_concat HP.out HQ.out
            rw [HBE.out] at he ⊢
            rw [h1] at he
            have h2 : ¬ 200 < (bs p).length + (bs q).length + 4 := fun h => by rw [if_pos h] at he; cases he
            exact match_concat_cuts HP.out HQ.out (by omega) (bs s)
          have HE := Lib.hid hE
          clear hE he HP HQ HBE
          have hsl : (s.size : Int) ≤ 40 := by have := HS.out; omega
          go_wp2_with fail
          go_loopg [8, 40] (s.size + 2) (fun g v i wr => ∃ j : Nat, g = s.size + 2 - j ∧ j ≤ s.size + 1 ∧ i = .int .i64 j ∧ v = .bool (cuts (matchR (bs p)) (matchR (bs q)) (bs s) j) ∧ Below W.heap.size W wr)
          case atStart => exact ⟨0, rfl, Nat.zero_le _, rfl, rfl, HB.out⟩
          case round =>
            obtain ⟨j, hg, hj, rfl, rfl, hb⟩ := hrel
            clear HB
            have HB := Lib.hid hb
            clear hb
            have hjl : (j : Int) ≤ 41 := by have := HS.out; omega
            have hmo : s.size + 2 - (j + 1) < gk := by omega
            have HMO := Lib.hid hmo
            clear hmo hg
            have HCS := Lib.hid (cuts_succ (matchR (bs p)) (matchR (bs q)) (bs s) j)
            have HTO : Hid (bs (s.extract 0 j) = (bs s).take j) := Lib.hid (bs_to s j)
            have HFR : Hid (bs (s.extract j s.size) = (bs s).drop j) := Lib.hid (bs_from s j)
            by_cases hlt : j ≤ s.size
            · have hlti : (j : Int) < (s.size : Int) + 1 := by omega
              have hlti2 : (j : Int) ≤ (s.size : Int) := by omega
              have hltn : j < s.size + 1 := by omega
              generalize cuts (matchR (bs p)) (matchR (bs q)) (bs s) j = c at *
              cases c
              · go_wp2_with fail
                refine ((HMT.out p _ _ (part_small _ _ HS.out))).mono ?_
                rintro e w' ⟨rfl, hb⟩
                replace HB := Lib.hid (HB.out.trans (hb.mono HB.out.size))
                clear hb
                rw [HTO.out]
                cases hx : matchR (bs p) ((bs s).take j)
                · have HC2 : Hid (cuts (matchR (bs p)) (matchR (bs q)) (bs s) (j + 1) = false) := Lib.hid (by rw [HCS.out, hx]; rfl)
                  clear hx
                  go_wp2_with fail
                  go_roundg (s.size + 2 - (j + 1))
                  case measure => exact HMO.out
                  case rel => exact ⟨j + 1, rfl, by omega, rfl, by rw [HC2.out], HB.out⟩
                · have HC2 : Hid (cuts (matchR (bs p)) (matchR (bs q)) (bs s) (j + 1) = matchR (bs q) ((bs s).drop j)) := Lib.hid (by rw [HCS.out, hx]; rfl)
                  clear hx
                  go_wp2_with fail
                  refine ((HMT.out q _ _ (part_small _ _ HS.out))).mono ?_
                  rintro e w' ⟨rfl, hb⟩
                  replace HB := Lib.hid (HB.out.trans (hb.mono HB.out.size))
                  clear hb
                  rw [HFR.out]
                  generalize matchR (bs q) ((bs s).drop j) = d at *
                  go_wp2_with fail
                  go_roundg (s.size + 2 - (j + 1))
                  case measure => exact HMO.out
                  case rel => exact ⟨j + 1, rfl, by omega, rfl, by rw [HC2.out], HB.out⟩
              · go_wp2_with fail
                go_roundg (s.size + 2 - (j + 1))
                case measure => exact HMO.out
                case rel => exact ⟨j + 1, rfl, by omega, rfl, by rw [HCS.out]; rfl, HB.out⟩
            · have HJ : Hid (j = s.size + 1) := Lib.hid (by omega)
              have hlti : ¬ (j : Int) < (s.size : Int) + 1 := by omega
              have hltn : ¬ j < s.size + 1 := by omega
              go_wp2_with fail
              refine ((HMT.out E s _ (by have := HS.out; omega))).mono ?_
              rintro e w' ⟨rfl, hb⟩
              replace HB := Lib.hid (HB.out.trans (hb.mono HB.out.size))
              clear hb
              rw [HE.out, ← HJ.out]
              generalize cuts (matchR (bs p)) (matchR (bs q)) (bs s) j = c at *
              cases c
              all_goals
                go_wp2_with fail
                refine ((HAW.out _)).mono ?_
                rintro e w' ⟨rfl, hb⟩
                replace HB := Lib.hid (HB.out.trans (hb.mono HB.out.size))
                clear hb
                go_wp2_with fail
                go_ret
                exact ⟨rfl, HB.out⟩
        · have he2 := ne_int he
          generalize checkR (bs E) = n at *
          clear he
          go_wp2_with fail
          refine ((HAW.out _)).mono ?_
          rintro e w' ⟨rfl, hb⟩
          replace HB := Lib.hid (HB.out.trans (hb.mono HB.out.size))
          clear hb
          go_wp2_with fail
          go_ret
          exact ⟨rfl, HB.out⟩
      · have hq2 := ne_int hq
        generalize checkR (bs q) = n at *
        clear hq
        go_wp2_with fail
        refine ((HAW.out _)).mono ?_
        rintro e w' ⟨rfl, hb⟩
        replace HB := Lib.hid (HB.out.trans (hb.mono HB.out.size))
        clear hb
        go_wp2_with fail
        go_ret
        exact ⟨rfl, HB.out⟩
    · have hp2 := ne_int hp
      generalize checkR (bs p) = n at *
      clear hp
      go_wp2_with fail
      refine ((HAW.out _)).mono ?_
      rintro e w' ⟨rfl, hb⟩
      replace HB := Lib.hid (HB.out.trans (hb.mono HB.out.size))
      clear hb
      go_wp2_with fail
      go_ret
      exact ⟨rfl, HB.out⟩
  · clear hg HGR
    go_wp2_with fail
    refine ((HAW.out _)).mono ?_
    rintro e w' ⟨rfl, hb⟩
    replace HB := Lib.hid (HB.out.trans (hb.mono HB.out.size))
    clear hb
    go_wp2_with fail
    go_ret
    exact ⟨rfl, HB.out⟩
end Go.Proofs.Ytheblleadjbndaa
