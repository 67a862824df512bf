/- The walk of RegexEmpty. -/
import Derived.Test.YtheblleadjbndaaWw
import Derived.Test.YtheblleadjbndaaGg
namespace Go.Proofs.Ytheblleadjbndaa
open Go.RowKit Rx
set_option maxRecDepth 100000 in
set_option maxHeartbeats 4000000 in
theorem empty_walk (p q s : ByteArray) (W : World) : Calls Try.prog 12 #[.string p, .string q, .string s] W fun e w' => e = .returned (.bool true) ∧ Below W.heap.size W w' := by
  have HAW := Lib.hid awake_any
  have HCK := Lib.hid check_any
  have HMT := Lib.hid match_any
  have HEM := Lib.hid empty_any
  have HB : Hid (Below W.heap.size W W) := Lib.hid (Below.refl _ _)
  by_cases h0 : 95 < p.size ∨ 95 < q.size ∨ 40 < s.size
  · by_cases h1 : 95 < p.size
    · have h1i : (p.size : Int) > 95 := by omega
      clear h0 h1
      go_enter Try.func12, Try.ntmps12
      go_wp2_with fail
      refine ((HAW.out _)).mono ?_
      rintro e w' ⟨rfl, hb⟩
      replace HB := Lib.hid (HB.out.trans (hb.mono HB.out.size))
      clear hb
      go_wp2_with fail
      go_ret
      exact ⟨rfl, HB.out⟩
    · have h1i : ¬ (p.size : Int) > 95 := by omega
      by_cases h2 : 95 < q.size
      · have h2i : (q.size : Int) > 95 := by omega
        clear h0 h1 h2
        go_enter Try.func12, Try.ntmps12
        go_wp2_with fail
        refine ((HAW.out _)).mono ?_
        rintro e w' ⟨rfl, hb⟩
        replace HB := Lib.hid (HB.out.trans (hb.mono HB.out.size))
        clear hb
        go_wp2_with fail
        go_ret
        exact ⟨rfl, HB.out⟩
      · have h2i : ¬ (q.size : Int) > 95 := by omega
        have h3i : (s.size : Int) > 40 := by omega
        clear h0 h1 h2
        go_enter Try.func12, Try.ntmps12
        go_wp2_with fail
        refine ((HAW.out _)).mono ?_
        rintro e w' ⟨rfl, hb⟩
        replace HB := Lib.hid (HB.out.trans (hb.mono HB.out.size))
        clear hb
        go_wp2_with fail
        go_ret
        exact ⟨rfl, HB.out⟩
  · have h1i : ¬ (p.size : Int) > 95 := by omega
    have h2i : ¬ (q.size : Int) > 95 := by omega
    have h3i : ¬ (s.size : Int) > 40 := by omega
    have HS : Hid (p.size ≤ 95 ∧ q.size ≤ 95 ∧ s.size ≤ 40) := Lib.hid ⟨by omega, by omega, by omega⟩
    clear h0
    go_enter Try.func12, Try.ntmps12
    go_wp2_with fail
    refine ((HCK.out p _)).mono ?_
    rintro e w' ⟨rfl, hb⟩
    replace HB := Lib.hid (HB.out.trans (hb.mono HB.out.size))
    clear hb
    by_cases hp : checkR (bs p) = 0
    · rw [hp]
      have HP := Lib.hid hp
      clear hp
      go_wp2_with fail
      refine ((HCK.out q _)).mono ?_
      rintro e w' ⟨rfl, hb⟩
      replace HB := Lib.hid (HB.out.trans (hb.mono HB.out.size))
      clear hb
      by_cases hq : checkR (bs q) = 0
      · rw [hq]
        have HQ := Lib.hid hq
        clear hq
        have k1 : ¬ 9223372036854775807 < 1 + p.size := by have := HS.out; omega
        have k2 : ¬ 9223372036854775807 < 1 + p.size + 3 := by have := HS.out; omega
        have k3 : ¬ 9223372036854775807 < 1 + p.size + 3 + q.size := by have := HS.out; omega
        have k4 : ¬ 9223372036854775807 < 1 + p.size + 3 + q.size + 1 := by have := HS.out; omega
        have k5 : ¬ 9223372036854775807 < 1 + p.size + 2 := by have := HS.out; omega
        have k6 : ¬ 9223372036854775807 < 1 + p.size + 2 + q.size := by have := HS.out; omega
        have k7 : ¬ 9223372036854775807 < 1 + p.size + 2 + q.size + 1 := by have := HS.out; omega
        have HEQ := Lib.hid (empty_quant HP.out (by rw [bs_length]; have := HS.out; omega))
        have HEE := Lib.hid (empty_either HP.out HQ.out (by rw [bs_length, bs_length]; have := HS.out; omega))
        have HEC := Lib.hid (empty_concat HP.out HQ.out (by rw [bs_length, bs_length]; have := HS.out; omega))
        have HNO : Hid (emptyR (bs p) = true → matchR (bs p) (bs s) = false) := Lib.hid (fun h => empty_no h (bs s))
        clear HP HQ
        go_wp2_with fail
        refine ((HEM.out p _)).mono ?_
        rintro e w' ⟨rfl, hb⟩
        replace HB := Lib.hid (HB.out.trans (hb.mono HB.out.size))
        clear hb
        generalize emptyR (bs p) = a at *
        go_wp2_with fail
        refine ((HEM.out q _)).mono ?_
        rintro e w' ⟨rfl, hb⟩
        replace HB := Lib.hid (HB.out.trans (hb.mono HB.out.size))
        clear hb
        generalize emptyR (bs q) = b at *
        have hbE := bs_either p q
        unfold eitherB at hbE
        have HBE := Lib.hid hbE
        clear hbE
        cases a
        · clear HNO
          go_wp2_with fail
          refine ((HEM.out _ _)).mono ?_
          rintro e w' ⟨rfl, hb⟩
          replace HB := Lib.hid (HB.out.trans (hb.mono HB.out.size))
          clear hb
          rw [bs_quant, HEQ.out.1]
          go_wp2_with fail
          refine ((HEM.out _ _)).mono ?_
          rintro e w' ⟨rfl, hb⟩
          replace HB := Lib.hid (HB.out.trans (hb.mono HB.out.size))
          clear hb
          rw [bs_quant, HEQ.out.2.1]
          go_wp2_with fail
          refine ((HEM.out _ _)).mono ?_
          rintro e w' ⟨rfl, hb⟩
          replace HB := Lib.hid (HB.out.trans (hb.mono HB.out.size))
          clear hb
          rw [bs_quant, HEQ.out.2.2]
          go_wp2_with fail
          refine ((HEM.out _ _)).mono ?_
          rintro e w' ⟨rfl, hb⟩
          replace HB := Lib.hid (HB.out.trans (hb.mono HB.out.size))
          clear hb
          rw [HBE.out, HEE.out]
          cases b
          all_goals
            go_wp2_with fail
            refine ((HEM.out _ _)).mono ?_
            rintro e w' ⟨rfl, hb⟩
            replace HB := Lib.hid (HB.out.trans (hb.mono HB.out.size))
            clear hb
            rw [bs_concat, HEC.out]
            go_wp2_with fail
            refine ((HAW.out _)).mono ?_
            rintro e w' ⟨rfl, hb⟩
            replace HB := Lib.hid (HB.out.trans (hb.mono HB.out.size))
            clear hb
            go_wp2_with fail
            go_ret
            exact ⟨rfl, HB.out⟩
        · have HN := Lib.hid (HNO.out rfl)
          clear HNO
          go_wp2_with fail
          refine ((HMT.out p s _ (by have := HS.out; omega))).mono ?_
          rintro e w' ⟨rfl, hb⟩
          replace HB := Lib.hid (HB.out.trans (hb.mono HB.out.size))
          clear hb
          rw [HN.out]
          go_wp2_with fail
          refine ((HEM.out _ _)).mono ?_
          rintro e w' ⟨rfl, hb⟩
          replace HB := Lib.hid (HB.out.trans (hb.mono HB.out.size))
          clear hb
          rw [bs_quant, HEQ.out.1]
          go_wp2_with fail
          refine ((HEM.out _ _)).mono ?_
          rintro e w' ⟨rfl, hb⟩
          replace HB := Lib.hid (HB.out.trans (hb.mono HB.out.size))
          clear hb
          rw [bs_quant, HEQ.out.2.1]
          go_wp2_with fail
          refine ((HEM.out _ _)).mono ?_
          rintro e w' ⟨rfl, hb⟩
          replace HB := Lib.hid (HB.out.trans (hb.mono HB.out.size))
          clear hb
          rw [bs_quant, HEQ.out.2.2]
          go_wp2_with fail
          refine ((HEM.out _ _)).mono ?_
          rintro e w' ⟨rfl, hb⟩
          replace HB := Lib.hid (HB.out.trans (hb.mono HB.out.size))
          clear hb
          rw [HBE.out, HEE.out]
          cases b
          all_goals
            go_wp2_with fail
            refine ((HEM.out _ _)).mono ?_
            rintro e w' ⟨rfl, hb⟩
            replace HB := Lib.hid (HB.out.trans (hb.mono HB.out.size))
            clear hb
            rw [bs_concat, HEC.out]
            go_wp2_with fail
            refine ((HAW.out _)).mono ?_
            rintro e w' ⟨rfl, hb⟩
            replace HB := Lib.hid (HB.out.trans (hb.mono HB.out.size))
            clear hb
            go_wp2_with fail
            go_ret
            exact ⟨rfl, HB.out⟩
      · have hq2 := ne_int hq
        generalize checkR (bs q) = n at *
        clear hq
        go_wp2_with fail
        refine ((HAW.out _)).mono ?_
        rintro e w' ⟨rfl, hb⟩
        replace HB := Lib.hid (HB.out.trans (hb.mono HB.out.size))
        clear hb
        go_wp2_with fail
        go_ret
        exact ⟨rfl, HB.out⟩
    · have hp2 := ne_int hp
      generalize checkR (bs p) = n at *
      clear hp
      go_wp2_with fail
      refine ((HAW.out _)).mono ?_
      rintro e w' ⟨rfl, hb⟩
      replace HB := Lib.hid (HB.out.trans (hb.mono HB.out.size))
      clear hb
      go_wp2_with fail
      go_ret
      exact ⟨rfl, HB.out⟩
end Go.Proofs.Ytheblleadjbndaa
