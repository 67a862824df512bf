/- The walk of RegexLeftmost. -/
import Derived.Test.YtheblleadjbndaaWw
namespace Go.Proofs.Ytheblleadjbndaa
open Go.RowKit Rx
set_option maxRecDepth 100000 in
set_option maxHeartbeats 4000000 in
theorem leftmost_walk (p s : ByteArray) (W : World) : Calls Try.prog 8 #[.string p, .string s] W fun e w' => e = .returned (.bool true) ∧ Below W.heap.size W w' := by
  have HAW := Lib.hid awake_any
  have HCK := Lib.hid check_any
  have HMT := Lib.hid match_any
  have HFD := Lib.hid find_pub
  have hgr := great_any { data := #[] } W.heap.size [p] (W.alloc (.cells #[.string p] 9)) (by simp) (fun j x hx => by
    rcases j with _ | j
    · simp at hx; subst hx; exact (At.new W #[.string p] 9).cell 0
    · simp at hx)
  have HGR := Lib.hid hgr
  clear hgr
  go_enter Try.func8, Try.ntmps8
  go_wp2_with fail
  refine (HGR.out).mono ?_
  rintro e w1 ⟨rfl, rfl⟩
  have HB : Hid (Below W.heap.size W (W.alloc (.cells #[.string p] 9))) := Lib.hid ((Below.refl _ _).alloc (Nat.le_refl _) _)
  generalize W.alloc (.cells #[.string p] 9) = w1 at *
  cases hg : greatR { data := #[] } [p]
  · clear hg HGR
    by_cases hs : 25 < s.size
    · have hsi : (s.size : Int) > 25 := by omega
      clear hs
      go_wp2_with fail
      refine ((HAW.out _)).mono ?_
      rintro e w' ⟨rfl, hb⟩
      replace HB := Lib.hid (HB.out.trans (hb.mono HB.out.size))
      clear hb
      go_wp2_with fail
      go_ret
      exact ⟨rfl, HB.out⟩
    · have hsi : ¬ (s.size : Int) > 25 := by omega
      have hsl : (s.size : Int) ≤ 25 := by omega
      have HS : Hid (s.size ≤ 25) := Lib.hid (by omega)
      clear hs
      go_wp2_with fail
      refine ((HCK.out p _)).mono ?_
      rintro e w' ⟨rfl, hb⟩
      replace HB := Lib.hid (HB.out.trans (hb.mono HB.out.size))
      clear hb
      by_cases hp : checkR (bs p) = 0
      · rw [hp]
        clear hp
        go_wp2_with fail
        have hfd := HFD.out p s
        obtain ⟨is, f, en, hfe, hgood, hbad⟩ := find_tells p s
        rw [hfe] at hfd
        have HFD2 := Lib.hid hfd
        have HGO := Lib.hid hgood
        have HBA := Lib.hid hbad
        clear hfe hgood hbad hfd HFD
        refine (HFD2.out _ (by have := HS.out; omega)).mono ?_
        rintro e w2 ⟨rfl, hb⟩
        replace HB := Lib.hid (below_step HB.out hb)
        clear hb HFD2
        have hat := At.new w2 #[.int .i64 (f : Nat), .int .i64 (en : Nat)] 26
        have HA := Lib.hid hat
        have HBW : Hid (Below W.heap.size W (w2.alloc (.cells #[.int .i64 (f : Nat), .int .i64 (en : Nat)] 26))) := Lib.hid (HB.out.alloc HB.out.size _)
        clear hat
        clear HB
        go_upto_region 4 with fail
        generalize w2.alloc (.cells #[.int .i64 (f : Nat), .int .i64 (en : Nat)] 26) = w3 at *
        generalize w2.heap.size = B at *
        have c0 : w3.cell? ⟨B, 0, none⟩ = some (.int .i64 (f : Nat)) := HA.out.cell 0
        have c1 : w3.cell? ⟨B, 1, none⟩ = some (.int .i64 (en : Nat)) := HA.out.cell 1
        cases is
        · go_upto_region 6 with fail
          clear c0 c1
          go_wp2_with fail
          go_loopg [64] (s.size + 2) (fun g i wr => ∃ j : Nat, g = s.size + 2 - j ∧ j ≤ s.size + 1 ∧ i = .int .i64 j ∧ Below W.heap.size W wr ∧ At wr B #[.int .i64 (f : Nat), .int .i64 (en : Nat)] 26)
          case atStart => exact ⟨0, rfl, Nat.zero_le _, rfl, HBW.out, HA.out⟩
          case round =>
            obtain ⟨j, hg, hj, rfl, hb, ha⟩ := hrel
            clear HBW HA
            have HBW := Lib.hid hb
            have HA := Lib.hid ha
            clear hb ha
            have hjl : (j : Int) ≤ 26 := by have := HS.out; omega
            have hmo : s.size + 2 - (j + 1) < gk := by omega
            have HMO := Lib.hid hmo
            clear hmo hg
            by_cases hlt : j ≤ s.size
            · have hlti : (j : Int) < (s.size : Int) + 1 := by omega
              have hltn : j < s.size + 1 := by omega
              go_upto_region 10 with fail
              obtain ⟨wo, hwo⟩ : ∃ wo : World, wo = wr := ⟨_, rfl⟩
              subst hwo
              go_wp2_with fail
              go_loopg [8] (s.size + 2) (fun g k wr => ∃ m : Nat, g = s.size + 2 + j - m ∧ j ≤ m ∧ m ≤ s.size + 1 ∧ k = .int .i64 m ∧ Below W.heap.size W wr ∧ At wr B #[.int .i64 (f : Nat), .int .i64 (en : Nat)] 26)
              case atStart => exact ⟨j, by omega, Nat.le_refl _, by omega, rfl, HBW.out, HA.out⟩
              case round =>
                obtain ⟨m, hg, hjm, hm, rfl, hb, ha⟩ := hrel
                clear HBW HA
                have HBW := Lib.hid hb
                have HA := Lib.hid ha
                clear hb ha
                have hml : (m : Int) ≤ 26 := by have := HS.out; omega
                have hmo : s.size + 2 + j - (m + 1) < gk := by omega
                have HMI := Lib.hid hmo
                clear hmo hg
                by_cases hlm : m ≤ s.size
                · have hlmi : (m : Int) ≤ (s.size : Int) := by omega
                  have hjmi : (j : Int) ≤ (m : Int) := by omega
                  have c0 : wr.cell? ⟨B, 0, none⟩ = some (.int .i64 (f : Nat)) := HA.out.cell 0
                  have c1 : wr.cell? ⟨B, 1, none⟩ = some (.int .i64 (en : Nat)) := HA.out.cell 1
                  have HSEG : Hid (bs (s.extract j m) = seg (bs s) j m) := Lib.hid (bs_part s j m)
                  have HNO : Hid (matchR (bs p) (seg (bs s) j m) = false) := Lib.hid (HBA.out j m hjm hlm (by simp))
                  go_wp2_with fail
                  refine (HMT.out p _ _ (part_small _ _ (by have := HS.out; omega))).mono ?_
                  rintro e w' ⟨rfl, hb⟩
                  replace HBW := Lib.hid (below_step HBW.out hb)
                  replace HA := Lib.hid (HA.out.below hb)
                  clear hb
                  rw [HSEG.out, HNO.out]
                  go_wp2_with fail
                  go_roundg (s.size + 2 + j - (m + 1))
                  case measure => exact HMI.out
                  case rel => exact ⟨m + 1, rfl, by omega, by omega, rfl, HBW.out, HA.out⟩
                · have hlmi : ¬ (m : Int) ≤ (s.size : Int) := by omega
                  go_wp2_with fail
                  go_roundg (s.size + 2 - (j + 1))
                  case measure => exact HMO.out
                  case rel => exact ⟨j + 1, rfl, by omega, rfl, HBW.out, HA.out⟩
            · have hlti : ¬ (j : Int) < (s.size : Int) + 1 := by omega
              have hltn : ¬ j < s.size + 1 := by omega
              go_wp2_with fail
              refine (HAW.out _).mono ?_
              rintro e w' ⟨rfl, hb⟩
              replace HBW := Lib.hid (below_step HBW.out hb)
              clear hb
              go_wp2_with fail
              go_ret
              exact ⟨rfl, HBW.out⟩
        · obtain ⟨g1, g2, g3⟩ := HGO.out rfl
          have g1i : ¬ (en : Int) < (f : Int) := by omega
          have g2i : ¬ (en : Int) > (s.size : Int) := by omega
          have g4i : (f : Int) ≤ (en : Int) := by omega
          have g5i : (en : Int) ≤ (s.size : Int) := by omega
          have HSG : Hid (bs (s.extract f en) = seg (bs s) f en) := Lib.hid (bs_part s f en)
          have HG3 := Lib.hid g3
          clear g3
          go_wp2_with fail
          refine (HMT.out p _ _ (part_small _ _ (by have := HS.out; omega))).mono ?_
          rintro e w' ⟨rfl, hb⟩
          replace HBW := Lib.hid (below_step HBW.out hb)
          replace HA := Lib.hid (HA.out.below hb)
          clear hb
          rw [HSG.out, HG3.out]
          clear c0 c1
          go_upto_region 6 with fail
          go_wp2_with fail
          go_loopg [64] (s.size + 2) (fun g i wr => ∃ j : Nat, g = s.size + 2 - j ∧ j ≤ s.size + 1 ∧ i = .int .i64 j ∧ Below W.heap.size W wr ∧ At wr B #[.int .i64 (f : Nat), .int .i64 (en : Nat)] 26)
          case atStart => exact ⟨0, rfl, Nat.zero_le _, rfl, HBW.out, HA.out⟩
          case round =>
            obtain ⟨j, hg, hj, rfl, hb, ha⟩ := hrel
            clear HBW HA
            have HBW := Lib.hid hb
            have HA := Lib.hid ha
            clear hb ha
            have hjl : (j : Int) ≤ 26 := by have := HS.out; omega
            have hmo : s.size + 2 - (j + 1) < gk := by omega
            have HMO := Lib.hid hmo
            clear hmo hg
            by_cases hlt : j ≤ s.size
            · have hlti : (j : Int) < (s.size : Int) + 1 := by omega
              have hltn : j < s.size + 1 := by omega
              go_upto_region 10 with fail
              obtain ⟨wo, hwo⟩ : ∃ wo : World, wo = wr := ⟨_, rfl⟩
              subst hwo
              go_wp2_with fail
              go_loopg [8] (s.size + 2) (fun g k wr => ∃ m : Nat, g = s.size + 2 + j - m ∧ j ≤ m ∧ m ≤ s.size + 1 ∧ k = .int .i64 m ∧ Below W.heap.size W wr ∧ At wr B #[.int .i64 (f : Nat), .int .i64 (en : Nat)] 26)
              case atStart => exact ⟨j, by omega, Nat.le_refl _, by omega, rfl, HBW.out, HA.out⟩
              case round =>
                obtain ⟨m, hg, hjm, hm, rfl, hb, ha⟩ := hrel
                clear HBW HA
                have HBW := Lib.hid hb
                have HA := Lib.hid ha
                clear hb ha
                have hml : (m : Int) ≤ 26 := by have := HS.out; omega
                have hmo : s.size + 2 + j - (m + 1) < gk := by omega
                have HMI := Lib.hid hmo
                clear hmo hg
                by_cases hlm : m ≤ s.size
                · have hlmi : (m : Int) ≤ (s.size : Int) := by omega
                  have hjmi : (j : Int) ≤ (m : Int) := by omega
                  have c0 : wr.cell? ⟨B, 0, none⟩ = some (.int .i64 (f : Nat)) := HA.out.cell 0
                  have c1 : wr.cell? ⟨B, 1, none⟩ = some (.int .i64 (en : Nat)) := HA.out.cell 1
                  have HSEG : Hid (bs (s.extract j m) = seg (bs s) j m) := Lib.hid (bs_part s j m)
                  by_cases h1 : j < f
                  · have h1i : (j : Int) < (f : Int) := by omega
                    have HNO : Hid (matchR (bs p) (seg (bs s) j m) = false) := Lib.hid (HBA.out j m hjm hlm (.inr (.inl h1)))
                    go_wp2_with fail
                    refine (HMT.out p _ _ (part_small _ _ (by have := HS.out; omega))).mono ?_
                    rintro e w' ⟨rfl, hb⟩
                    replace HBW := Lib.hid (below_step HBW.out hb)
                    replace HA := Lib.hid (HA.out.below hb)
                    clear hb
                    rw [HSEG.out, HNO.out]
                    go_wp2_with fail
                    go_roundg (s.size + 2 + j - (m + 1))
                    case measure => exact HMI.out
                    case rel => exact ⟨m + 1, rfl, by omega, by omega, rfl, HBW.out, HA.out⟩
                  · have h1i : ¬ (j : Int) < (f : Int) := by omega
                    by_cases h2 : j = f
                    · have HJF : Hid (j = f) := Lib.hid h2
                      have h2i : (j : Int) = (f : Int) := by omega
                      by_cases h3 : en < m
                      · have h3i : (m : Int) > (en : Int) := by omega
                        have HNO : Hid (matchR (bs p) (seg (bs s) j m) = false) := Lib.hid (HBA.out j m hjm hlm (.inr (.inr ⟨h2, h3⟩)))
                        clear h2i
                        subst h2
                        go_wp2_with fail
                        refine (HMT.out p _ _ (part_small _ _ (by have := HS.out; omega))).mono ?_
                        rintro e w' ⟨rfl, hb⟩
                        replace HBW := Lib.hid (below_step HBW.out hb)
                        replace HA := Lib.hid (HA.out.below hb)
                        clear hb
                        rw [HSEG.out, HNO.out]
                        go_wp2_with fail
                        go_roundg (s.size + 2 + j - (m + 1))
                        case measure => exact HMI.out
                        case rel => exact ⟨m + 1, rfl, by omega, by omega, rfl, HBW.out, HA.out⟩
                      · have h3i : ¬ (m : Int) > (en : Int) := by omega
                        clear h2i
                        subst h2
                        go_wp2_with fail
                        go_roundg (s.size + 2 + j - (m + 1))
                        case measure => exact HMI.out
                        case rel => exact ⟨m + 1, rfl, by omega, by omega, rfl, HBW.out, HA.out⟩
                    · have h2i : ¬ (j : Int) = (f : Int) := by omega
                      go_wp2_with fail
                      go_roundg (s.size + 2 + j - (m + 1))
                      case measure => exact HMI.out
                      case rel => exact ⟨m + 1, rfl, by omega, by omega, rfl, HBW.out, HA.out⟩
                · have hlmi : ¬ (m : Int) ≤ (s.size : Int) := by omega
                  go_wp2_with fail
                  go_roundg (s.size + 2 - (j + 1))
                  case measure => exact HMO.out
                  case rel => exact ⟨j + 1, rfl, by omega, rfl, HBW.out, HA.out⟩
            · have hlti : ¬ (j : Int) < (s.size : Int) + 1 := by omega
              have hltn : ¬ j < s.size + 1 := by omega
              go_wp2_with fail
              refine (HAW.out _).mono ?_
              rintro e w' ⟨rfl, hb⟩
              replace HBW := Lib.hid (below_step HBW.out hb)
              clear hb
              go_wp2_with fail
              go_ret
              exact ⟨rfl, HBW.out⟩
      · have he2 := ne_int hp
        generalize checkR (bs p) = n at *
        clear hp
        go_wp2_with fail
        refine ((HAW.out _)).mono ?_
        rintro e w' ⟨rfl, hb⟩
        replace HB := Lib.hid (HB.out.trans (hb.mono HB.out.size))
        clear hb
        go_wp2_with fail
        go_ret
        exact ⟨rfl, HB.out⟩
  · clear hg HGR
    go_wp2_with fail
    refine ((HAW.out _)).mono ?_
    rintro e w' ⟨rfl, hb⟩
    replace HB := Lib.hid (HB.out.trans (hb.mono HB.out.size))
    clear hb
    go_wp2_with fail
    go_ret
    exact ⟨rfl, HB.out⟩
end Go.Proofs.Ytheblleadjbndaa
