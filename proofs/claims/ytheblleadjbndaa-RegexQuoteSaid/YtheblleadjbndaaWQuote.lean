/- The walk of RegexQuote. -/
import Derived.Test.YtheblleadjbndaaWw
import Derived.Test.YtheblleadjbndaaGg
namespace Go.Proofs.Ytheblleadjbndaa
open Go.RowKit Rx
set_option maxRecDepth 100000 in
set_option maxHeartbeats 4000000 in
theorem quote_walk (s t : ByteArray) (W : World) : Calls Try.prog 11 #[.string s, .string t] W fun e w' => e = .returned (.bool true) ∧ Below W.heap.size W w' := by
  have HAW := Lib.hid awake_any
  have HCK := Lib.hid check_any
  have HMT := Lib.hid match_any
  have HPX := Lib.hid prefix_any
  have HEM := Lib.hid empty_any
  have HQT := Lib.hid quote_any
  have HB : Hid (Below W.heap.size W W) := Lib.hid (Below.refl _ _)
  by_cases h1 : 100 < s.size
  · have h1i : (s.size : Int) > 100 := by omega
    clear h1
    go_enter Try.func11, Try.ntmps11
    go_wp2_with fail
    refine ((HAW.out _)).mono ?_
    rintro e w' ⟨rfl, hb⟩
    replace HB := Lib.hid (HB.out.trans (hb.mono HB.out.size))
    clear hb
    go_wp2_with fail
    go_ret
    exact ⟨rfl, HB.out⟩
  · have h1i : ¬ (s.size : Int) > 100 := by omega
    by_cases h2 : 100 < t.size
    · have h2i : (t.size : Int) > 100 := by omega
      clear h1 h2
      go_enter Try.func11, Try.ntmps11
      go_wp2_with fail
      refine ((HAW.out _)).mono ?_
      rintro e w' ⟨rfl, hb⟩
      replace HB := Lib.hid (HB.out.trans (hb.mono HB.out.size))
      clear hb
      go_wp2_with fail
      go_ret
      exact ⟨rfl, HB.out⟩
    · have h2i : ¬ (t.size : Int) > 100 := by omega
      have hql := quoteR_len (bs s)
      have hbl := bs_length s
      have ht := quote_tells (l := bs s) (by omega)
      have HS : Hid (s.size ≤ 100 ∧ t.size ≤ 100) := Lib.hid ⟨by omega, by omega⟩
      have HT := Lib.hid ht
      clear h1 h2 ht hql hbl
      go_enter Try.func11, Try.ntmps11
      go_wp2_with fail
      refine ((HQT.out s _ (by have := HS.out; omega))).mono ?_
      rintro e w' ⟨rfl, hb⟩
      replace HB := Lib.hid (HB.out.trans (hb.mono HB.out.size))
      clear hb
      obtain ⟨p, hp⟩ : ∃ p : ByteArray, (⟨(quoteR (bs s)).toArray⟩ : ByteArray) = p := ⟨_, rfl⟩
      have hbp : bs p = quoteR (bs s) := by rw [← hp]; rfl
      rw [hp]
      have HC : Hid (checkR (bs p) = 0) := Lib.hid (by rw [hbp]; exact HT.out.1)
      have HP : Hid ((⟨(prefR (bs p)).1.toArray⟩ : ByteArray) = s ∧ (prefR (bs p)).2 = true) := Lib.hid (by rw [hbp, HT.out.2.1]; exact ⟨str_bs s, rfl⟩)
      have HM : Hid (∀ x : ByteArray, matchR (bs p) (bs x) = decide (bs x = bs s)) := Lib.hid (fun x => by rw [hbp]; exact HT.out.2.2.1 (bs x))
      have HE : Hid (emptyR (bs p) = false) := Lib.hid (by rw [hbp]; exact HT.out.2.2.2)
      clear hp hbp HT HQT
      go_wp2_with fail
      refine ((HPX.out p _)).mono ?_
      rintro e w' ⟨rfl, hb⟩
      replace HB := Lib.hid (HB.out.trans (hb.mono HB.out.size))
      clear hb
      rw [HP.out.1, HP.out.2]
      go_wp2_with fail
      refine ((HCK.out p _)).mono ?_
      rintro e w' ⟨rfl, hb⟩
      replace HB := Lib.hid (HB.out.trans (hb.mono HB.out.size))
      clear hb
      rw [HC.out]
      go_wp2_with fail
      refine ((HMT.out p s _ (by have := HS.out; omega))).mono ?_
      rintro e w' ⟨rfl, hb⟩
      replace HB := Lib.hid (HB.out.trans (hb.mono HB.out.size))
      clear hb
      rw [HM.out s, decide_eq_true rfl]
      go_wp2_with fail
      refine ((HMT.out p t _ (by have := HS.out; omega))).mono ?_
      rintro e w' ⟨rfl, hb⟩
      replace HB := Lib.hid (HB.out.trans (hb.mono HB.out.size))
      clear hb
      by_cases hst : s = t
      · subst hst
        rw [HM.out s, decide_eq_true rfl]
        go_wp2_with fail
        refine ((HEM.out p _)).mono ?_
        rintro e w' ⟨rfl, hb⟩
        replace HB := Lib.hid (HB.out.trans (hb.mono HB.out.size))
        clear hb
        rw [HE.out]
        go_wp2_with fail
        refine ((HAW.out _)).mono ?_
        rintro e w' ⟨rfl, hb⟩
        replace HB := Lib.hid (HB.out.trans (hb.mono HB.out.size))
        clear hb
        go_wp2_with fail
        go_ret
        exact ⟨rfl, HB.out⟩
      · have hbn : ¬ bs t = bs s := fun h => hst (by rw [← str_bs s, ← h, str_bs])
        have hse : ¬ s.toList = t.toList := by rw [ByteArray.toList_eq, ByteArray.toList_eq]; exact fun h => hbn h.symm
        have hse2 : (s.toList == t.toList) = false := by rw [beq_eq_false_iff_ne]; exact hse
        rw [HM.out t, decide_eq_false hbn]
        clear hbn hst
        go_wp2_with fail
        refine ((HEM.out p _)).mono ?_
        rintro e w' ⟨rfl, hb⟩
        replace HB := Lib.hid (HB.out.trans (hb.mono HB.out.size))
        clear hb
        rw [HE.out]
        go_wp2_with fail
        refine ((HAW.out _)).mono ?_
        rintro e w' ⟨rfl, hb⟩
        replace HB := Lib.hid (HB.out.trans (hb.mono HB.out.size))
        clear hb
        go_wp2_with fail
        go_ret
        exact ⟨rfl, HB.out⟩
end Go.Proofs.Ytheblleadjbndaa
