/- The walk of RegexPrefix. -/
import Derived.Test.YtheblleadjbndaaWw
import Derived.Test.YtheblleadjbndaaShelf
namespace Go.Proofs.Ytheblleadjbndaa
open Go.RowKit Rx
set_option maxRecDepth 100000 in
set_option maxHeartbeats 4000000 in
theorem prefix_walk (p s : ByteArray) (W : World) : Calls Try.prog 9 #[.string p, .string s] W fun e w' => e = .returned (.bool true) ∧ Below W.heap.size W w' := by
  have HAW := Lib.hid awake_any
  have HCK := Lib.hid check_any
  have HMT := Lib.hid match_any
  have HPX := Lib.hid prefix_any
  have HHP := Lib.hid Try.strings_HasPrefix
  have hgr := great_any s W.heap.size [p] (W.alloc (.cells #[.string p] 9)) (by simp) (fun j x hx => by
    rcases j with _ | j
    · simp at hx; subst hx; exact (At.new W #[.string p] 9).cell 0
    · simp at hx)
  have HGR := Lib.hid hgr
  clear hgr
  go_enter Try.func9, Try.ntmps9
  go_wp2_with fail
  refine (HGR.out).mono ?_
  rintro e w1 ⟨rfl, rfl⟩
  have HB : Hid (Below W.heap.size W (W.alloc (.cells #[.string p] 9))) := Lib.hid ((Below.refl _ _).alloc (Nat.le_refl _) _)
  generalize W.alloc (.cells #[.string p] 9) = w1 at *
  cases hg : greatR s [p]
  · obtain ⟨hs, _⟩ := great_small hg
    have HS : Hid (s.size ≤ 40000) := Lib.hid (by omega)
    clear hg HGR hs
    go_wp2_with fail
    refine ((HCK.out p _)).mono ?_
    rintro e w' ⟨rfl, hb⟩
    replace HB := Lib.hid (HB.out.trans (hb.mono HB.out.size))
    clear hb
    by_cases hp : checkR (bs p) = 0
    · rw [hp]
      clear hp
      go_wp2_with fail
      refine ((HPX.out p _)).mono ?_
      rintro e w' ⟨rfl, hb⟩
      replace HB := Lib.hid (HB.out.trans (hb.mono HB.out.size))
      clear hb
      obtain ⟨u, hu⟩ : ∃ u : ByteArray, (⟨(prefR (bs p)).1.toArray⟩ : ByteArray) = u := ⟨_, rfl⟩
      have hbu : bs u = (prefR (bs p)).1 := by rw [← hu]; rfl
      have hul : u.size ≤ 40000 := by
        have h1 := pref_len (bs p)
        rw [← hbu, bs_length] at h1
        omega
      have hmp : matchR (bs p) (bs s) = true → Lib.hasPrefix s.data.toList u.data.toList = true := fun h => by
        obtain ⟨v, hv⟩ := match_pref h
        rw [← hbu] at hv
        unfold Lib.hasPrefix
        rw [List.isPrefixOf_iff_prefix]
        exact ⟨v, hv.symm⟩
      have hma : (prefR (bs p)).2 = true → ∀ t : ByteArray, matchR (bs p) (bs t) = decide (bs t = bs u) := fun h t => by
        rw [hbu]; exact match_all h (bs t)
      have HUL := Lib.hid hul
      have HMP := Lib.hid hmp
      have HMA := Lib.hid hma
      rw [hu]
      clear hu hbu hul hmp hma
      generalize (prefR (bs p)).2 = al at *
      go_wp2_with fail
      refine ((HMT.out p s _ HS.out)).mono ?_
      rintro e w' ⟨rfl, hb⟩
      replace HB := Lib.hid (HB.out.trans (hb.mono HB.out.size))
      clear hb
      cases al
      · cases hx : matchR (bs p) (bs s)
        · clear hx
          go_wp2_with fail
          refine ((HAW.out _)).mono ?_
          rintro e w' ⟨rfl, hb⟩
          replace HB := Lib.hid (HB.out.trans (hb.mono HB.out.size))
          clear hb
          go_wp2_with fail
          go_ret
          exact ⟨rfl, HB.out⟩
        · have HH := Lib.hid (HMP.out hx)
          clear hx
          go_wp2_with fail
          refine (HHP.out s u _).mono ?_
          rintro e w' ⟨rfl, hw⟩
          have HW := Lib.hid hw
          clear hw
          rw [HH.out]
          rw [HW.out]
          clear HW
          go_wp2_with fail
          refine ((HAW.out _)).mono ?_
          rintro e w' ⟨rfl, hb⟩
          replace HB := Lib.hid (HB.out.trans (hb.mono HB.out.size))
          clear hb
          go_wp2_with fail
          go_ret
          exact ⟨rfl, HB.out⟩
      · have HMA2 := Lib.hid (HMA.out rfl)
        clear HMA
        have HMU : Hid (matchR (bs p) (bs u) = true) := Lib.hid (by rw [HMA2.out]; exact decide_eq_true rfl)
        by_cases hsu : s = u
        · have HMS : Hid (matchR (bs p) (bs s) = true) := Lib.hid (by rw [HMA2.out, hsu]; exact decide_eq_true rfl)
          have HH := Lib.hid (HMP.out HMS.out)
          clear HMA2 HMP
          subst hsu
          rw [HMS.out]
          go_wp2_with fail
          refine (HHP.out s s _).mono ?_
          rintro e w' ⟨rfl, hw⟩
          have HW := Lib.hid hw
          clear hw
          rw [HH.out]
          rw [HW.out]
          clear HW
          go_wp2_with fail
          refine ((HMT.out p s _ HUL.out)).mono ?_
          rintro e w' ⟨rfl, hb⟩
          replace HB := Lib.hid (HB.out.trans (hb.mono HB.out.size))
          clear hb
          rw [HMU.out]
          go_wp2_with fail
          refine ((HMT.out p s _ HS.out)).mono ?_
          rintro e w' ⟨rfl, hb⟩
          replace HB := Lib.hid (HB.out.trans (hb.mono HB.out.size))
          clear hb
          rw [HMS.out]
          go_wp2_with fail
          refine ((HAW.out _)).mono ?_
          rintro e w' ⟨rfl, hb⟩
          replace HB := Lib.hid (HB.out.trans (hb.mono HB.out.size))
          clear hb
          go_wp2_with fail
          go_ret
          exact ⟨rfl, HB.out⟩
        · have hbn : ¬ bs s = bs u := fun h => hsu (by rw [← str_bs s, h, str_bs])
          have HMS : Hid (matchR (bs p) (bs s) = false) := Lib.hid (by rw [HMA2.out]; exact decide_eq_false hbn)
          have hse : ¬ s.toList = u.toList := by rw [ByteArray.toList_eq, ByteArray.toList_eq]; exact hbn
          have hse2 : (s.toList == u.toList) = false := by rw [beq_eq_false_iff_ne]; exact hse
          clear HMA2 HMP hbn
          rw [HMS.out]
          go_wp2_with fail
          refine ((HMT.out p u _ HUL.out)).mono ?_
          rintro e w' ⟨rfl, hb⟩
          replace HB := Lib.hid (HB.out.trans (hb.mono HB.out.size))
          clear hb
          rw [HMU.out]
          go_wp2_with fail
          refine ((HMT.out p s _ HS.out)).mono ?_
          rintro e w' ⟨rfl, hb⟩
          replace HB := Lib.hid (HB.out.trans (hb.mono HB.out.size))
          clear hb
          rw [HMS.out]
          go_wp2_with fail
          refine ((HAW.out _)).mono ?_
          rintro e w' ⟨rfl, hb⟩
          replace HB := Lib.hid (HB.out.trans (hb.mono HB.out.size))
          clear hb
          go_wp2_with fail
          go_ret
          exact ⟨rfl, HB.out⟩
    · have hp2 := ne_int hp
      generalize checkR (bs p) = n at *
      clear hp
      go_wp2_with fail
      refine ((HAW.out _)).mono ?_
      rintro e w' ⟨rfl, hb⟩
      replace HB := Lib.hid (HB.out.trans (hb.mono HB.out.size))
      clear hb
      go_wp2_with fail
      go_ret
      exact ⟨rfl, HB.out⟩
  · clear hg HGR
    go_wp2_with fail
    refine ((HAW.out _)).mono ?_
    rintro e w' ⟨rfl, hb⟩
    replace HB := Lib.hid (HB.out.trans (hb.mono HB.out.size))
    clear hb
    go_wp2_with fail
    go_ret
    exact ⟨rfl, HB.out⟩
end Go.Proofs.Ytheblleadjbndaa
