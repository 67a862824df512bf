/- Walks: the law MatcherRoundTrip. -/
import Derived.Test.YthckgmbadmilfaaGreatMBW
namespace Go.Proofs.YthckgmbadmilfaaGreat
open Go.RowKit

theorem fmtMs_size {ms : List Mt} (h : chkMs ms = 0) : (fmtMs ms).length ≤ 100000 := by
  obtain ⟨h1, h2⟩ := chkMs_iff.1 h
  have h3 := fmtMin_len ms (fun x hx => by have := szM_of (h2 x hx); omega)
  have h5 : (fmtMin ms).length ≤ 90000 := by
    have : ∀ x ∈ ms, (fmtM x).length ≤ 466 := fun x hx => by
      have h6 := szM_of (h2 x hx)
      have h7 := quoB_len (bs x.value)
      have h8 := opK_len x.kind
      rw [bs_length] at h7
      unfold fmtM
      simp only [List.length_append, List.length_cons, List.length_nil, bs_length]
      omega
    have hmore : ∀ l : List Mt, (∀ x ∈ l, (fmtM x).length ≤ 466) → (fmtMmore l).length ≤ 467 * l.length := by
      intro l
      induction l with
      | nil => intro _; simp [fmtMmore]
      | cons y r ih =>
        intro hh
        have a := hh y (by simp)
        have b := ih (fun x hx => hh x (by simp [hx]))
        simp only [fmtMmore, List.length_cons, List.length_append]
        omega
    cases ms with
    | nil => simp [fmtMin]
    | cons y r =>
      have a := this y (by simp)
      have b := hmore r (fun x hx => this x (by simp [hx]))
      simp only [List.length_cons] at h1
      simp only [fmtMin, List.length_append]
      omega
  unfold fmtMs
  rw [if_pos h]
  simp only [List.length_cons, List.length_append, List.length_nil]
  omega
theorem str_eqS {a b : ByteArray} (h : a = b) : (a.toList == b.toList) = true := by rw [h]; simp
set_option maxRecDepth 100000 in
set_option maxHeartbeats 8000000 in
theorem wkRoundTrip (ms : List Mt) (A : Option Addr) (c : Nat) (s : ByteArray) (w : World) (hm : MtsOk w ms A c) (hs : s.size ≤ 140737488351232) :
    Calls Tryz.prog 5 #[.slice A ms.length c, .string s] w fun e w' => e = .returned (.bool true) ∧ Below w.heap.size w w' := by
  have HAW := Lib.hid awakeM_any
  have HM := Lib.hid hm.rd
  have hX : (w.alloc (.cells #[.slice A ms.length c] 22)).cell? ⟨w.heap.size, 0, none⟩ = some (.slice A ms.length c) := (At.new w #[.slice A ms.length c] 22).cell 0
  have hal : Below w.heap.size w (w.alloc (.cells #[.slice A ms.length c] 22)) := (Below.refl _ _).alloc (Nat.le_refl _) _
  have HG := Lib.hid (great1_any w.heap.size A c ms (w.alloc (.cells #[.slice A ms.length c] 22)) hX (hm.rd.up hal hal.size) hm.len)
  have HB0 := Lib.hid hal
  clear hal hX hm
  go_enter Tryz.func5, Tryz.ntmps5
  go_wp2_with fail
  refine HG.out.mono ?_
  rintro e w1 ⟨rfl, q, hw1⟩
  have HB1 : Hid (Below w.heap.size w w1) := Lib.hid (by rw [hw1]; exact bN HB0.out q)
  clear hw1 HG
  rcases hg : greatM ms with _ | _
  · clear hg
    by_cases h2 : 200 < s.size
    · go_wp2_with fail
      refine (HAW.out w1).mono ?_
      rintro e w3 ⟨rfl, hb3⟩
      go_wp2_with fail
      go_ret
      exact ⟨rfl, HB1.out.trans (hb3.mono HB1.out.size)⟩
    · have HSZ : Hid (s.size ≤ 100000) := Lib.hid (by omega)
      have HF := Lib.hid (formatM_any A c ms w1 (HM.out.up HB1.out HB1.out.size))
      go_wp2_with fail
      refine HF.out.mono ?_
      rintro e w2 ⟨rfl, hb2⟩
      have HB2 := Lib.hid (HB1.out.trans (hb2.mono HB1.out.size))
      clear hb2 HF h2
      have HCH := Lib.hid (mcheck_any A c ms w2 (HM.out.up HB2.out HB2.out.size))
      have HTAIL := Lib.hid (fun W => parseM_any s W HSZ.out)
      by_cases hck : chkMs ms = 0
      · rw [hck] at HCH
        have HPF := Lib.hid (parseM_fmt hck)
        have HLN : Hid (ms.length ≤ 100000) := Lib.hid (by have := (chkMs_iff.1 hck).1; omega)
        have HPA := Lib.hid (fun W => parseM_any (str (fmtMs ms)) W (by rw [← bs_length, bs_str]; exact fmtMs_size hck))
        rw [bs_str, HPF.out] at HPA
        clear hck
        generalize str (fmtMs ms) = T at *
        go_wp2_with fail
        refine HCH.out.mono ?_
        rintro e w3 ⟨rfl, hb3⟩
        have HB3 := Lib.hid (HB2.out.trans (hb3.mono HB2.out.size))
        clear hb3 HCH
        go_wp2_with fail
        refine (HPA.out w3).mono ?_
        rintro e w4 ⟨⟨A4, n4, c4, rfl, rfl, hm4⟩, hb4⟩
        have HB4 := Lib.hid (HB3.out.trans (hb4.mono HB3.out.size))
        have hm4' : MtsIn w4.heap.size w4 A4 ms := hm4
        have HSA := Lib.hid (sameMs_any A A4 c c4 ms ms w4 (HM.out.up HB4.out HB4.out.size) hm4' HLN.out)
        rw [decide_eq_true (rfl : ms = ms)] at HSA
        clear hm4 hb4 hm4' HPA
        go_wp2_with fail
        refine HSA.out.mono ?_
        rintro e w5 ⟨rfl, n5, hw5⟩
        have HB5 : Hid (Below w.heap.size w w5) := Lib.hid (by rw [hw5]; exact bN HB4.out n5)
        clear hw5 HSA
        go_wp2_with fail
        refine (HTAIL.out w5).mono ?_
        rintro e w11 ⟨⟨A11, n11, c11, rfl, rfl, hm11⟩, hb11⟩
        have HB11 := Lib.hid (HB5.out.trans (hb11.mono HB5.out.size))
        have HM11 := Lib.hid hm11
        clear hb11 hm11 HTAIL
        by_cases he : (parseM (bs s)).2 = 0
        · have hp : parseM (bs s) = ((parseM (bs s)).1, 0) := by rw [← he]
          obtain ⟨hk, hf⟩ := parseM_ok hp
          rw [he]
          generalize (parseM (bs s)).1 = l at *
          have HCK := Lib.hid (mcheck_any A11 c11 l w11 HM11.out)
          rw [hk] at HCK
          have HFS : Hid (str (fmtMs l) = s) := Lib.hid (by rw [hf, str_bs])
          clear hp hk hf he
          go_wp2_with fail
          refine HCK.out.mono ?_
          rintro e w12 ⟨rfl, hb12⟩
          have HB12 := Lib.hid (HB11.out.trans (hb12.mono HB11.out.size))
          have HFO := Lib.hid (formatM_any A11 c11 l w12 (HM11.out.up hb12 hb12.size))
          rw [HFS.out] at HFO
          clear hb12 HCK
          have hss : (s.toList == s.toList) = true := by simp
          go_wp2_with fail
          refine HFO.out.mono ?_
          rintro e w13 ⟨rfl, hb13⟩
          have HB13 := Lib.hid (HB12.out.trans (hb13.mono HB12.out.size))
          clear hb13 HFO
          go_wp2_with fail
          refine (HAW.out w13).mono ?_
          rintro e w15 ⟨rfl, hb15⟩
          go_wp2_with fail
          go_ret
          exact ⟨rfl, HB13.out.trans (hb15.mono HB13.out.size)⟩
        · have hn := parseM_err he
          rw [hn]
          generalize (parseM (bs s)).2 = r at *
          have hrb : (r != (0 : Int)) = true := by simp [he]
          clear hn he
          go_wp2_with fail
          refine (HAW.out w11).mono ?_
          rintro e w15 ⟨rfl, hb15⟩
          go_wp2_with fail
          go_ret
          exact ⟨rfl, HB11.out.trans (hb15.mono HB11.out.size)⟩
      · have HT : Hid (fmtMs ms = []) := Lib.hid (by unfold fmtMs; rw [if_neg hck])
        obtain ⟨r, hr⟩ : ∃ r, chkMs ms = r := ⟨_, rfl⟩
        rw [hr] at HCH hck
        have hrb : (r == (0 : Int)) = false := by simp [hck]
        have hrt : ((str (fmtMs ms)).toList == []) = true := by rw [HT.out]; exact str_eq rfl
        generalize str (fmtMs ms) = T at *
        clear hr hck
        go_wp2_with fail
        refine HCH.out.mono ?_
        rintro e w3 ⟨rfl, hb3⟩
        have HB3 := Lib.hid (HB2.out.trans (hb3.mono HB2.out.size))
        clear hb3 HCH
        go_wp2_with fail
        refine (HTAIL.out w3).mono ?_
        rintro e w11 ⟨⟨A11, n11, c11, rfl, rfl, hm11⟩, hb11⟩
        have HB11 := Lib.hid (HB3.out.trans (hb11.mono HB3.out.size))
        have HM11 := Lib.hid hm11
        clear hb11 hm11 HTAIL
        by_cases he : (parseM (bs s)).2 = 0
        · have hp : parseM (bs s) = ((parseM (bs s)).1, 0) := by rw [← he]
          obtain ⟨hk, hf⟩ := parseM_ok hp
          rw [he]
          generalize (parseM (bs s)).1 = l at *
          have HCK := Lib.hid (mcheck_any A11 c11 l w11 HM11.out)
          rw [hk] at HCK
          have HFS : Hid (str (fmtMs l) = s) := Lib.hid (by rw [hf, str_bs])
          clear hp hk hf he
          go_wp2_with fail
          refine HCK.out.mono ?_
          rintro e w12 ⟨rfl, hb12⟩
          have HB12 := Lib.hid (HB11.out.trans (hb12.mono HB11.out.size))
          have HFO := Lib.hid (formatM_any A11 c11 l w12 (HM11.out.up hb12 hb12.size))
          rw [HFS.out] at HFO
          clear hb12 HCK
          have hss : (s.toList == s.toList) = true := by simp
          go_wp2_with fail
          refine HFO.out.mono ?_
          rintro e w13 ⟨rfl, hb13⟩
          have HB13 := Lib.hid (HB12.out.trans (hb13.mono HB12.out.size))
          clear hb13 HFO
          go_wp2_with fail
          refine (HAW.out w13).mono ?_
          rintro e w15 ⟨rfl, hb15⟩
          go_wp2_with fail
          go_ret
          exact ⟨rfl, HB13.out.trans (hb15.mono HB13.out.size)⟩
        · have hn := parseM_err he
          rw [hn]
          generalize (parseM (bs s)).2 = r at *
          have hrb : (r != (0 : Int)) = true := by simp [he]
          clear hn he
          go_wp2_with fail
          refine (HAW.out w11).mono ?_
          rintro e w15 ⟨rfl, hb15⟩
          go_wp2_with fail
          go_ret
          exact ⟨rfl, HB11.out.trans (hb15.mono HB11.out.size)⟩
  · clear hg
    go_wp2_with fail
    refine (HAW.out w1).mono ?_
    rintro e w3 ⟨rfl, hb3⟩
    go_wp2_with fail
    go_ret
    exact ⟨rfl, HB1.out.trans (hb3.mono HB1.out.size)⟩
end Go.Proofs.YthckgmbadmilfaaGreat
