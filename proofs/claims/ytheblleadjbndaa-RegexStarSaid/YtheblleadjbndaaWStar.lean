/- The walk of RegexStar. -/
import Derived.Test.YtheblleadjbndaaWw
namespace Go.Proofs.Ytheblleadjbndaa
open Go.RowKit Rx
set_option maxRecDepth 100000 in
set_option maxHeartbeats 4000000 in
theorem star_walk (p s : ByteArray) (W : World) (hp0 : p.size ≤ 140737488351232) : Calls Try.prog 7 #[.string p, .string s] W fun e w' => e = .returned (.bool true) ∧ Below W.heap.size W w' := by
  have HAW := Lib.hid awake_any
  have HCK := Lib.hid check_any
  have HMT := Lib.hid match_any
  have hgr := great_any s W.heap.size [p] (W.alloc (.cells #[.string p] 9)) (by simp) (fun j x hx => by
    rcases j with _ | j
    · simp at hx; subst hx; exact (At.new W #[.string p] 9).cell 0
    · simp at hx)
  have HGR := Lib.hid hgr
  clear hgr
  have k1 : ¬ 9223372036854775807 < 1 + p.size := by omega
  have k2 : ¬ 9223372036854775807 < 1 + p.size + 2 := by omega
  clear hp0
  go_enter Try.func7, Try.ntmps7
  go_upto_region 2 with fail
  clear k1 k2
  have hbM := bs_quant p 42
  have hbP := bs_quant p 43
  generalize (({ data := #[40] } : ByteArray) ++ p ++ { data := #[41, 42] }) = M at *
  generalize (({ data := #[40] } : ByteArray) ++ p ++ { data := #[41, 43] }) = P at *
  have HBM := Lib.hid hbM
  have HBP := Lib.hid hbP
  clear hbM hbP
  go_wp2_with fail
  refine (HGR.out).mono ?_
  rintro e w1 ⟨rfl, rfl⟩
  have HB : Hid (Below W.heap.size W (W.alloc (.cells #[.string p] 9))) := Lib.hid ((Below.refl _ _).alloc (Nat.le_refl _) _)
  generalize W.alloc (.cells #[.string p] 9) = w1 at *
  cases hg : greatR s [p]
  · obtain ⟨hs, hpq⟩ := great_small hg
    have HS : Hid (s.size ≤ 40) := Lib.hid (by omega)
    clear hg hpq HGR hs
    go_wp2_with fail
    refine ((HCK.out p _)).mono ?_
    rintro e w' ⟨rfl, hb⟩
    replace HB := Lib.hid (HB.out.trans (hb.mono HB.out.size))
    clear hb
    by_cases hp : checkR (bs p) = 0
    · rw [hp]
      have HP := Lib.hid hp
      clear hp
      go_wp2_with fail
      refine ((HCK.out M _)).mono ?_
      rintro e w' ⟨rfl, hb⟩
      replace HB := Lib.hid (HB.out.trans (hb.mono HB.out.size))
      clear hb
      by_cases he : checkR (bs M) = 0
      · rw [he]
        have hl : (bs p).length + 3 ≤ 200 := by
          have h1 := check_quant HP.out 42 (.inl rfl)
          rw [HBM.out, h1] at he
          by_cases h : 200 < (bs p).length + 3
          · rw [if_pos h] at he; cases he
          · omega
        have hM : ∃ z, matchR (bs M) (bs s) = some_ (matchR (bs p)) (matchR (bs M)) (bs s) z ∧ z = s.size + 1 := ⟨_, by rw [HBM.out]; exact match_star HP.out hl (bs s), rfl⟩
        have hP : ∃ z, matchR (bs P) (bs s) = cuts (matchR (bs p)) (matchR (bs M)) (bs s) z ∧ z = s.size + 1 := ⟨_, by rw [HBM.out, HBP.out]; exact match_plus HP.out hl (bs s), rfl⟩
        have HM := Lib.hid hM
        have HPP := Lib.hid hP
        clear hM hP he hl HP HBM HBP
        have hsl : (s.size : Int) ≤ 40 := by have := HS.out; omega
        have hse : ∃ z, (s.toList.isEmpty = z) ∧ decide (bs s = []) = z := by
          refine ⟨_, rfl, ?_⟩
          rw [ByteArray.toList_eq]
          show _ = (bs s).isEmpty
          cases bs s <;> rfl
        obtain ⟨z, hz1, hz2⟩ := hse
        have HZ : Hid (some_ (matchR (bs p)) (matchR (bs M)) (bs s) 0 = z) := Lib.hid (by rw [some_zero, hz2])
        clear hz2
        go_wp2_with fail
        clear hz1
        go_loopg [7, 8, 38] (s.size + 2) (fun g v x i wr => ∃ j : Nat, g = s.size + 2 - j ∧ j ≤ s.size + 1 ∧ i = .int .i64 j ∧ v = .bool (some_ (matchR (bs p)) (matchR (bs M)) (bs s) j) ∧ x = .bool (cuts (matchR (bs p)) (matchR (bs M)) (bs s) j) ∧ Below W.heap.size W wr)
        case atStart => exact ⟨0, rfl, Nat.zero_le _, rfl, by rw [HZ.out], rfl, HB.out⟩
        case round =>
          obtain ⟨j, hg, hj, rfl, rfl, rfl, hb⟩ := hrel
          clear HB
          have HB := Lib.hid hb
          clear hb HZ
          have hjl : (j : Int) ≤ 41 := by have := HS.out; omega
          have hmo : s.size + 2 - (j + 1) < gk := by omega
          have HMO := Lib.hid hmo
          clear hmo hg
          have HCS := Lib.hid (cuts_succ (matchR (bs p)) (matchR (bs M)) (bs s) j)
          have HSS := Lib.hid (some_succ (matchR (bs p)) (matchR (bs M)) (bs s) j)
          have HTO : Hid (bs (s.extract 0 j) = (bs s).take j) := Lib.hid (bs_to s j)
          have HFR : Hid (bs (s.extract j s.size) = (bs s).drop j) := Lib.hid (bs_from s j)
          by_cases hlt : j ≤ s.size
          · have hlti : (j : Int) < (s.size : Int) + 1 := by omega
            have hlti2 : (j : Int) ≤ (s.size : Int) := by omega
            have hltn : j < s.size + 1 := by omega
            generalize some_ (matchR (bs p)) (matchR (bs M)) (bs s) j = c at *
            generalize cuts (matchR (bs p)) (matchR (bs M)) (bs s) j = d at *
            go_upto_region 8 with fail
            go_cut [10, 11] (fun v x wx => v = .bool (matchR (bs p) ((bs s).take j)) ∧ x = .bool (matchR (bs M) ((bs s).drop j)) ∧ Below W.heap.size W wx)
            case first =>
              go_region_with (go_at_call 14; refine (HMT.out _ _ _ (part_small _ _ HS.out)).mono ?_; rintro e w' ⟨rfl, hb⟩; replace HB := Lib.hid (by first | exact below_step HB.out hb | exact below_stepD HB.out hb); clear hb)
              all_goals
                go_wp2_with fail
                go_meet
                exact ⟨by rw [HTO.out], by rw [HFR.out], HB.out⟩
            case rest =>
              obtain ⟨rfl, rfl, hb⟩ := hcut
              clear HB
              have HB := Lib.hid hb
              clear hb
              generalize matchR (bs p) ((bs s).take j) = x at *
              generalize matchR (bs M) ((bs s).drop j) = y at *
              by_cases hj0 : j = 0
              · have hj0i : ¬ (j : Int) > 0 := by omega
                have hj0n : ¬ 0 < j := by omega
                have HS2 : Hid (some_ (matchR (bs p)) (matchR (bs M)) (bs s) (j + 1) = c) := Lib.hid (by rw [HSS.out, decide_eq_false hj0n]; simp)
                clear HSS hj0
                cases c <;> cases d <;> cases x <;> cases y
                all_goals
                  go_wp2_with fail
                  go_roundg (s.size + 2 - (j + 1))
                  case measure => exact HMO.out
                  case rel => exact ⟨j + 1, rfl, by omega, rfl, by rw [HS2.out], by rw [HCS.out]; rfl, HB.out⟩
              · have hj0i : (j : Int) > 0 := by omega
                have hj0n : 0 < j := by omega
                have HS2 : Hid (some_ (matchR (bs p)) (matchR (bs M)) (bs s) (j + 1) = (c || (x && y))) := Lib.hid (by rw [HSS.out, decide_eq_true hj0n]; simp)
                clear HSS hj0
                cases c <;> cases d <;> cases x <;> cases y
                all_goals
                  go_wp2_with fail
                  go_roundg (s.size + 2 - (j + 1))
                  case measure => exact HMO.out
                  case rel => exact ⟨j + 1, rfl, by omega, rfl, by rw [HS2.out]; rfl, by rw [HCS.out]; rfl, HB.out⟩
          · have HJ : Hid (j = s.size + 1) := Lib.hid (by omega)
            have hlti : ¬ (j : Int) < (s.size : Int) + 1 := by omega
            have hltn : ¬ j < s.size + 1 := by omega
            have HM2 : Hid (matchR (bs M) (bs s) = some_ (matchR (bs p)) (matchR (bs M)) (bs s) j) := Lib.hid (by obtain ⟨z, h1, h2⟩ := HM.out; rw [h1, h2, HJ.out])
            have HP2 : Hid (matchR (bs P) (bs s) = cuts (matchR (bs p)) (matchR (bs M)) (bs s) j) := Lib.hid (by obtain ⟨z, h1, h2⟩ := HPP.out; rw [h1, h2, HJ.out])
            clear HCS HSS HTO HFR HM HPP
            generalize some_ (matchR (bs p)) (matchR (bs M)) (bs s) j = c at *
            generalize cuts (matchR (bs p)) (matchR (bs M)) (bs s) j = d at *
            go_wp2_with fail
            refine ((HMT.out M s _ (by have := HS.out; omega))).mono ?_
            rintro e w' ⟨rfl, hb⟩
            replace HB := Lib.hid (HB.out.trans (hb.mono HB.out.size))
            clear hb
            rw [HM2.out]
            cases c <;> cases d
            all_goals
              go_wp2_with fail
              refine ((HMT.out P s _ (by have := HS.out; omega))).mono ?_
              rintro e w' ⟨rfl, hb⟩
              replace HB := Lib.hid (HB.out.trans (hb.mono HB.out.size))
              clear hb
              rw [HP2.out]
              go_wp2_with fail
              refine ((HAW.out _)).mono ?_
              rintro e w' ⟨rfl, hb⟩
              replace HB := Lib.hid (HB.out.trans (hb.mono HB.out.size))
              clear hb
              go_wp2_with fail
              go_ret
              exact ⟨rfl, HB.out⟩
      · have he2 := ne_int he
        generalize checkR (bs M) = n at *
        clear he
        go_wp2_with fail
        refine ((HAW.out _)).mono ?_
        rintro e w' ⟨rfl, hb⟩
        replace HB := Lib.hid (HB.out.trans (hb.mono HB.out.size))
        clear hb
        go_wp2_with fail
        go_ret
        exact ⟨rfl, HB.out⟩
    · have hp2 := ne_int hp
      generalize checkR (bs p) = n at *
      clear hp
      go_wp2_with fail
      refine ((HAW.out _)).mono ?_
      rintro e w' ⟨rfl, hb⟩
      replace HB := Lib.hid (HB.out.trans (hb.mono HB.out.size))
      clear hb
      go_wp2_with fail
      go_ret
      exact ⟨rfl, HB.out⟩
  · clear hg HGR
    go_wp2_with fail
    refine ((HAW.out _)).mono ?_
    rintro e w' ⟨rfl, hb⟩
    replace HB := Lib.hid (HB.out.trans (hb.mono HB.out.size))
    clear hb
    go_wp2_with fail
    go_ret
    exact ⟨rfl, HB.out⟩
end Go.Proofs.Ytheblleadjbndaa
