/- Walks: comparison of labels (the reference's), Same, Great. Walks: comparison of labels (the program's). Walks: a chunk is checked, chunks are compared (the program's). -/
import Derived.Test.YtoojpfcnekpboaaGreatZAC
import Derived.Test.YtoojpfcnekpboaaGreatZAF
namespace Go.Proofs.YtoojpfcnekpboaaGreat
open Go.RowKit

theorem cmpL_step {a b : List Lab} {k : Nat} (ha : k < a.length) (hb : k < b.length) : cmpL (a.drop k) (b.drop k) = if cmpX a[k] b[k] = 0 then cmpL (a.drop (k + 1)) (b.drop (k + 1)) else cmpX a[k] b[k] := by
  rw [drop_cons ha, drop_cons hb]
  rfl
theorem cmpL_end1 {a b : List Lab} {k : Nat} (ha : a.length ≤ k) (hb : k < b.length) : cmpL (a.drop k) (b.drop k) = -1 := by
  rw [List.drop_eq_nil_of_le ha, drop_cons hb]
  rfl
theorem cmpL_end2 {a b : List Lab} {k : Nat} (ha : k < a.length) (hb : b.length ≤ k) : cmpL (a.drop k) (b.drop k) = 1 := by
  rw [List.drop_eq_nil_of_le hb, drop_cons ha]
  rfl
theorem cmpL_end0 {a b : List Lab} {k : Nat} (ha : a.length ≤ k) (hb : b.length ≤ k) : cmpL (a.drop k) (b.drop k) = 0 := by
  rw [List.drop_eq_nil_of_le ha, List.drop_eq_nil_of_le hb]
  rfl
theorem quiet_text {a b : ByteArray} {w : World} {m n : Nat} : Calls Tryz.prog 103 #[.string a, .string b] (w.drewN (m + n)) fun e w'' => e = .returned (.int .i64 (cmpS a b)) ∧ ∃ j, w'' = w.drewN (m + j) :=
  (text05_any a b _).mono fun _ _ ⟨he, hm⟩ => ⟨he, n, hm⟩

set_option maxRecDepth 100000 in
set_option maxHeartbeats 2000000 in
theorem compare05_any (A A' : Option Addr) (c c' : Nat) (a b : List Lab) (B : Nat) (w : World) (ha : LabsIn B w A a) (hb : LabsIn B w A' b) (hc : a.length ≤ c) (hc' : b.length ≤ c') (hl : a.length ≤ 9223372036854775807) :
    Calls Tryz.prog 69 #[.slice A a.length c, .slice A' b.length c'] w fun e w' => e = .returned (.int .i64 (cmpL a b)) ∧ Drw w w' := by
  have HC := Lib.hid hc
  have HC' := Lib.hid hc'
  have HA := Lib.hid ha
  have HB := Lib.hid hb
  clear hc hc' ha hb
  go_enter Tryz.func69, Tryz.ntmps69
  go_wp2_with fail
  go_loopw [5] (fun i wr => ∃ k : Nat, k ≤ a.length ∧ k ≤ b.length ∧ i = .int .i64 k ∧ Hid (cmpL a b = cmpL (a.drop k) (b.drop k)) ∧ Drw w wr) (fun i _ => a.length - (intOf i).toNat)
  case atStart => exact ⟨0, Nat.zero_le _, Nat.zero_le _, rfl, Lib.hid rfl, Drw.refl _⟩
  case round =>
    obtain ⟨k, hk, hk', rfl, HK, hD⟩ := hrel
    obtain ⟨n, rfl⟩ := hD
    by_cases h1 : k < a.length
    · by_cases h2 : k < b.length
      · obtain ⟨b1, o1, rfl, _, c0, c1⟩ := HA.out.at_ k h1
        obtain ⟨b2, o2, rfl, _, d0, d1⟩ := HB.out.at_ k h2
        have HST := Lib.hid (cmpL_step h1 h2)
        by_cases hx : cmpS (a[k]).name (b[k]).name = 0
        · by_cases hy : cmpS (a[k]).value (b[k]).value = 0
          · have HR : Hid (cmpL a b = cmpL (a.drop (k + 1)) (b.drop (k + 1))) := Lib.hid (by
              have e : cmpX a[k] b[k] = 0 := by unfold cmpX; rw [if_pos hx, hy]
              rw [HK.out, HST.out, if_pos e])
            have HX := Lib.hid hx
            have HY := Lib.hid hy
            clear hx hy
            go_wp2_with fail
            go_quiet (first | exact quiet_text | (refine Calls.quiet_of_same ?_; exact text05_any _ _ _))
            rw [HX.out]
            go_wp2_with fail
            go_quiet (first | exact quiet_text | (refine Calls.quiet_of_same ?_; exact text05_any _ _ _))
            rw [HY.out]
            go_wp2_with fail
            go_roundw
            case rel => exact ⟨k + 1, by omega, by omega, by go_num, HR, (by repeat (first | exact Drw.refl _ | apply Drw.step))⟩
            case measure => simp [intOf]; omega
          · have HR : Hid (cmpL a b = cmpS (a[k]).value (b[k]).value) := Lib.hid (by
              have e : cmpX a[k] b[k] = cmpS (a[k]).value (b[k]).value := by unfold cmpX; rw [if_pos hx]
              rw [HK.out, HST.out, e, if_neg hy])
            have dy : (cmpS (a[k]).value (b[k]).value != 0) = true := bne_iff_ne.2 hy
            have HX := Lib.hid hx
            clear hx hy
            go_wp2_with fail
            go_quiet (first | exact quiet_text | (refine Calls.quiet_of_same ?_; exact text05_any _ _ _))
            rw [HX.out]
            go_wp2_with fail
            go_quiet (first | exact quiet_text | (refine Calls.quiet_of_same ?_; exact text05_any _ _ _))
            go_wp2_with fail
            go_ret
            exact ⟨ret_int HR.out.symm, (by repeat (first | exact Drw.refl _ | apply Drw.step))⟩
        · have HR : Hid (cmpL a b = cmpS (a[k]).name (b[k]).name) := Lib.hid (by
            have e : cmpX a[k] b[k] = cmpS (a[k]).name (b[k]).name := by unfold cmpX; rw [if_neg hx]
            rw [HK.out, HST.out, e, if_neg hx])
          have dx : (cmpS (a[k]).name (b[k]).name != 0) = true := bne_iff_ne.2 hx
          clear hx
          go_wp2_with fail
          go_quiet (first | exact quiet_text | (refine Calls.quiet_of_same ?_; exact text05_any _ _ _))
          go_wp2_with fail
          go_ret
          exact ⟨ret_int HR.out.symm, (by repeat (first | exact Drw.refl _ | apply Drw.step))⟩
      · have HR : Hid (cmpL a b = 1) := Lib.hid (by rw [HK.out, cmpL_end2 h1 (Nat.le_of_not_lt h2)])
        have h3 : b.length < a.length := by omega
        go_wp2_with fail
        go_ret
        exact ⟨ret_int HR.out.symm, (by repeat (first | exact Drw.refl _ | apply Drw.step))⟩
    · by_cases h2 : k < b.length
      · have HR : Hid (cmpL a b = -1) := Lib.hid (by rw [HK.out, cmpL_end1 (Nat.le_of_not_lt h1) h2])
        have h3 : a.length < b.length := by omega
        go_wp2_with fail
        go_ret
        exact ⟨ret_int HR.out.symm, (by repeat (first | exact Drw.refl _ | apply Drw.step))⟩
      · have HR : Hid (cmpL a b = 0) := Lib.hid (by rw [HK.out, cmpL_end0 (Nat.le_of_not_lt h1) (Nat.le_of_not_lt h2)])
        have h3 : ¬ a.length < b.length := by omega
        have h4 : ¬ b.length < a.length := by omega
        go_wp2_with fail
        go_ret
        exact ⟨ret_int HR.out.symm, (by repeat (first | exact Drw.refl _ | apply Drw.step))⟩

set_option maxHeartbeats 400000 in
theorem same05_any (A A' : Option Addr) (c c' : Nat) (a b : List Lab) (B : Nat) (w : World) (ha : LabsIn B w A a) (hb : LabsIn B w A' b) (hc : a.length ≤ c) (hc' : b.length ≤ c') (hl : a.length ≤ 9223372036854775807) :
    Calls Tryz.prog 36 #[.slice A a.length c, .slice A' b.length c'] w fun e w' => e = .returned (.bool (decide (cmpL a b = 0))) ∧ Drw w w' := by
  have HCM := Lib.hid (compare05_any A A' c c' a b B w ha hb hc hc' hl)
  clear ha hb hc hc' hl
  by_cases h : cmpL a b = 0
  · have HD : Hid (decide (cmpL a b = 0) = true) := Lib.hid (decide_eq_true h)
    have H := Lib.hid h
    clear h
    go_enter Tryz.func36, Tryz.ntmps36
    go_wp2_with fail
    refine HCM.out.mono ?_
    rintro e w' ⟨rfl, hd⟩
    rw [H.out]
    have HD' := Lib.hid hd
    clear hd
    go_wp2_with fail
    go_ret
    exact ⟨ret_bool (by rw [HD.out]), HD'.out⟩
  · have HD : Hid (decide (cmpL a b = 0) = false) := Lib.hid (decide_eq_false h)
    have H : (cmpL a b == 0) = false := beq_eq_false_iff_ne.2 h
    clear h
    go_enter Tryz.func36, Tryz.ntmps36
    go_wp2_with fail
    refine HCM.out.mono ?_
    rintro e w' ⟨rfl, hd⟩
    have HD' := Lib.hid hd
    clear hd
    go_wp2_with fail
    go_ret
    exact ⟨ret_bool HD.out.symm, HD'.out⟩
end Go.Proofs.YtoojpfcnekpboaaGreat

namespace Go.Proofs.YtoojpfcnekpboaaGreat
open Go.RowKit

theorem orI_cmpX (x y : Lab) : orI (cmpS x.name y.name) (cmpS x.value y.value) = cmpX x y := rfl
theorem at_two0 (w : World) (c d : Array Value) (t u : TypeId) : At ((w.alloc (.cells c t)).alloc (.cells d u)) w.heap.size c t := (At.new w c t).alloc _
theorem size2 (w : World) (o p : Obj) : ((w.alloc o).alloc p).heap.size = w.heap.size + 2 := by show ((w.heap.push _).push _).size = _; simp
theorem at_two1 (w : World) (c d : Array Value) (t u : TypeId) : At ((w.alloc (.cells c t)).alloc (.cells d u)) (w.heap.size + 1) d u := by
  have h := At.new (w.alloc (.cells c t)) d u
  have e : (w.alloc (.cells c t)).heap.size = w.heap.size + 1 := by show (w.heap.push _).size = _; simp
  rwa [e] at h

set_option maxRecDepth 100000 in
set_option maxHeartbeats 2000000 in
theorem cmpLab_any (x y : Lab) (w : World) : Calls Tryz.prog 152 #[.agg #[.string x.name, .string x.value], .agg #[.string y.name, .string y.value]] w fun e w' => e = .returned (.int .i64 (cmpX x y)) ∧ Below w.heap.size w w' := by
  have hb0 : Below w.heap.size w ((w.alloc (.cells #[.string x.name, .string x.value] 66)).alloc (.cells #[.string y.name, .string y.value] 66)) := ((Below.refl _ _).alloc (Nat.le_refl _) _).alloc (by simp) _
  have HB := Lib.hid hb0
  have c0 := (at_two0 w #[.string x.name, .string x.value] #[.string y.name, .string y.value] 66 66).cell 0
  have c1 := (at_two0 w #[.string x.name, .string x.value] #[.string y.name, .string y.value] 66 66).cell 1
  have d0 := (at_two1 w #[.string x.name, .string x.value] #[.string y.name, .string y.value] 66 66).cell 0
  have d1 := (at_two1 w #[.string x.name, .string x.value] #[.string y.name, .string y.value] 66 66).cell 1
  simp only [List.getElem?_toArray, List.getElem?_cons_zero, List.getElem?_cons_succ] at c0 c1 d0 d1
  clear hb0
  go_enter Tryz.func152, Tryz.ntmps152
  go_upto_region 1 with fail
  generalize ((w.alloc (.cells #[.string x.name, .string x.value] 66)).alloc (.cells #[.string y.name, .string y.value] 66)) = w1 at *
  refine wp_region_still_tail 10 (by kernel_rfl) (by kernel_rfl) ?_
  simp only [List.take_succ_cons, List.take_zero, List.drop_succ_cons, List.drop_zero]
  still_step
  still_step
  still_step
  still_step
  still_call (cmpStr_any _ _ _)
  still_step
  still_step
  still_step
  still_step
  still_call (cmpStr_any _ _ _)
  refine wpStill_nil ?_
  change wpList _ _ _ _ _ w1.drew
  have HB2 : Hid (Below w.heap.size w w1.drew) := Lib.hid (bN HB.out 1)
  clear c0 c1 d0 d1 HB
  generalize w1.drew = w2 at *
  go_wp2_with fail
  refine (or2_any _ _ _ _ (At.new _ _ _)).mono ?_
  rintro e w' ⟨rfl, rfl⟩
  rw [orI_cmpX]
  go_wp2_with fail
  go_ret
  exact ⟨rfl, HB2.out.alloc HB2.out.size _⟩

set_option maxRecDepth 100000 in
set_option maxHeartbeats 2000000 in
theorem compareFunc_any (A A' : Option Addr) (c c' : Nat) (a b : List Lab) (w : World) (ha : LabsIn w.heap.size w A a) (hb : LabsIn w.heap.size w A' b) (hc : a.length ≤ c) (hc' : b.length ≤ c') (hl : a.length ≤ 9223372036854775807) :
    Calls Tryz.prog 151 #[.slice A a.length c, .slice A' b.length c', .func (.func 152) #[] #[]] w fun e w' => e = .returned (.int .i64 (cmpL a b)) ∧ Below w.heap.size w w' := by
  have HC := Lib.hid hc
  have HC' := Lib.hid hc'
  have HA := Lib.hid ha
  have HB := Lib.hid hb
  clear hc hc' ha hb
  go_enter Tryz.func151, Tryz.ntmps151
  go_wp2_with fail
  go_loopw [13] (fun i wr => ∃ k : Nat, k ≤ a.length ∧ k ≤ b.length ∧ i = .int .i64 k ∧ Hid (cmpL a b = cmpL (a.drop k) (b.drop k)) ∧ Below w.heap.size w wr) (fun i _ => a.length - (intOf i).toNat)
  case atStart => exact ⟨0, Nat.zero_le _, Nat.zero_le _, rfl, Lib.hid rfl, Below.refl _ _⟩
  case round =>
    obtain ⟨k, hk, hk', rfl, HK, hD⟩ := hrel
    have HD := Lib.hid hD
    by_cases h1 : k < a.length
    · obtain ⟨b1, o1, rfl, hlt1, c0, c1⟩ := (HA.out.below hD).at_ k h1
      have hlt1 : b1 < wr.heap.size := Nat.lt_of_lt_of_le hlt1 hD.size
      by_cases h2 : k < b.length
      · obtain ⟨b2, o2, rfl, hlt2, d0, d1⟩ := (HB.out.below hD).at_ k h2
        have hlt2 : b2 < wr.heap.size := Nat.lt_of_lt_of_le hlt2 hD.size
        have e0 := at_alloc d0 hlt2 (.cells #[.string (a[k]).name, .string (a[k]).value] 66)
        have e1 := at_alloc d1 hlt2 (.cells #[.string (a[k]).name, .string (a[k]).value] 66)
        have HST := Lib.hid (cmpL_step h1 h2)
        clear hD d0 d1
        by_cases hx : cmpX a[k] b[k] = 0
        · have HR : Hid (cmpL a b = cmpL (a.drop (k + 1)) (b.drop (k + 1))) := Lib.hid (by rw [HK.out, HST.out, if_pos hx])
          have HX := Lib.hid hx
          clear hx
          go_wp2_with fail
          refine (cmpLab_any _ _ _).mono ?_
          rintro e w' ⟨rfl, hb⟩
          rw [HX.out]
          have HD' : Hid (Below w.heap.size w w') := Lib.hid (((HD.out.alloc HD.out.size _).alloc (by have := HD.out.size; simp; omega) _).trans (hb.mono (by have := HD.out.size; simp; omega)))
          clear hb
          go_wp2_with fail
          go_roundw
          case rel => exact ⟨k + 1, by omega, by omega, by go_num, HR, HD'.out⟩
          case measure => simp [intOf]; omega
        · have HR : Hid (cmpL a b = cmpX a[k] b[k]) := Lib.hid (by rw [HK.out, HST.out, if_neg hx])
          have dx : (cmpX a[k] b[k] != 0) = true := bne_iff_ne.2 hx
          clear hx
          go_wp2_with fail
          refine (cmpLab_any _ _ _).mono ?_
          rintro e w' ⟨rfl, hb⟩
          have HD' : Hid (Below w.heap.size w w') := Lib.hid (((HD.out.alloc HD.out.size _).alloc (by have := HD.out.size; simp; omega) _).trans (hb.mono (by have := HD.out.size; simp; omega)))
          clear hb
          go_wp2_with fail
          go_ret
          exact ⟨ret_int HR.out.symm, HD'.out⟩
      · have HR : Hid (cmpL a b = 1) := Lib.hid (by rw [HK.out, cmpL_end2 h1 (Nat.le_of_not_lt h2)])
        have h3 : b.length ≤ k := by omega
        clear hD
        go_wp2_with fail
        go_ret
        exact ⟨ret_int HR.out.symm, HD.out.alloc HD.out.size _⟩
    · clear hD
      by_cases h2 : k < b.length
      · have HR : Hid (cmpL a b = -1) := Lib.hid (by rw [HK.out, cmpL_end1 (Nat.le_of_not_lt h1) h2])
        have h3 : a.length < b.length := by omega
        go_wp2_with fail
        go_ret
        exact ⟨ret_int HR.out.symm, HD.out⟩
      · have HR : Hid (cmpL a b = 0) := Lib.hid (by rw [HK.out, cmpL_end0 (Nat.le_of_not_lt h1) (Nat.le_of_not_lt h2)])
        have h3 : ¬ a.length < b.length := by omega
        go_wp2_with fail
        go_ret
        exact ⟨ret_int HR.out.symm, HD.out⟩

theorem compareL_any (A A' : Option Addr) (c c' : Nat) (a b : List Lab) (w : World) (ha : LabsIn w.heap.size w A a) (hb : LabsIn w.heap.size w A' b) (hc : a.length ≤ c) (hc' : b.length ≤ c') (hl : a.length ≤ 9223372036854775807) :
    Calls Tryz.prog 120 #[.slice A a.length c, .slice A' b.length c'] w fun e w' => e = .returned (.int .i64 (cmpL a b)) ∧ Below w.heap.size w w' := by
  have HCM := Lib.hid (compareFunc_any A A' c c' a b w ha hb hc hc' hl)
  clear ha hb hc hc' hl
  go_enter Tryz.func120, Tryz.ntmps120
  go_wp2_with fail
  refine HCM.out.mono ?_
  rintro e w' ⟨rfl, hd⟩
  have HD' := Lib.hid hd
  clear hd
  go_wp2_with fail
  go_ret
  exact ⟨rfl, HD'.out⟩
end Go.Proofs.YtoojpfcnekpboaaGreat

namespace Go.Proofs.YtoojpfcnekpboaaGreat
open Go.RowKit

set_option maxHeartbeats 400000 in
theorem unlabelled_any (n : Int) (w : World) : Calls Tryz.prog 40 #[.int .i64 n] w fun e w' => e = .returned (.bool (bareB n)) ∧ w' = w := by
  by_cases h3 : n = 3
  · subst h3
    go_enter Tryz.func40, Tryz.ntmps40
    go_wp2_with fail
    go_ret
    exact ⟨rfl, rfl⟩
  · have d3 : (n == 3) = false := beq_eq_false_iff_ne.2 h3
    by_cases h5 : n = 5
    · subst h5
      go_enter Tryz.func40, Tryz.ntmps40
      go_wp2_with fail
      go_ret
      exact ⟨rfl, rfl⟩
    · have d5 : (n == 5) = false := beq_eq_false_iff_ne.2 h5
      have HR : Hid (bareB n = false) := Lib.hid (by unfold bareB; simp [h3, h5])
      clear h3 h5
      go_enter Tryz.func40, Tryz.ntmps40
      go_wp2_with fail
      go_ret
      exact ⟨ret_bool HR.out.symm, rfl⟩

set_option maxRecDepth 100000 in
set_option maxHeartbeats 4000000 in
theorem checkChunk_any (x : Chk) (A : Option Addr) (c : Nat) (width : Int) (w : World) (hl : LabsIn w.heap.size w A x.labs) (hc : x.labs.length ≤ c) :
    Calls Tryz.prog 85 #[.agg (chC x.sig A x.labs.length c x.zone x.data), .int .i64 width] w fun e w' => e = .returned (.int .i64 (cchk x width)) ∧ Below w.heap.size w w' := by
  have hat := At.new w (chC x.sig A x.labs.length c x.zone x.data) 58
  have hb : Below w.heap.size w (w.alloc (.cells (chC x.sig A x.labs.length c x.zone x.data) 58)) := (Below.refl _ _).alloc (Nat.le_refl _) _
  have HB := Lib.hid hb
  have HAT := Lib.hid hat
  have HL0 : Hid (LabsIn (w.alloc (.cells (chC x.sig A x.labs.length c x.zone x.data) 58)).heap.size (w.alloc (.cells (chC x.sig A x.labs.length c x.zone x.data) 58)) A x.labs) := Lib.hid ((hl.alloc (Nat.le_refl _) _).mono hb.size)
  have HC := Lib.hid hc
  clear hat hl hc hb
  go_enter Tryz.func85, Tryz.ntmps85
  go_upto_region 1 with fail
  generalize w.alloc (.cells (chC x.sig A x.labs.length c x.zone x.data) 58) = w0 at *
  have c0 : w0.cell? ⟨w.heap.size, 0, none⟩ = some (.int .i64 x.sig) := HAT.out.cell 0
  by_cases h0 : x.sig < 1
  · have HR : Hid (cchk x width = 8) := Lib.hid (by unfold cchk; rw [if_pos (.inl h0)])
    go_wp2_with fail
    go_ret
    exact ⟨ret_int HR.out.symm, HB.out⟩
  by_cases h1 : 6 < x.sig
  · have HR : Hid (cchk x width = 8) := Lib.hid (by unfold cchk; rw [if_pos (.inr h1)])
    go_wp2_with fail
    go_ret
    exact ⟨ret_int HR.out.symm, HB.out⟩
  have hA : ¬ (x.sig < 1 ∨ 6 < x.sig) := by omega
  obtain ⟨p, hp⟩ : ∃ p, p = decide (x.sig = 6) := ⟨_, rfl⟩
  obtain ⟨q, hq⟩ : ∃ q, q = decide (width = 0) := ⟨_, rfl⟩
  have dp : (x.sig == 6) = p := by rw [hp]; rfl
  have dq : (width != 0) = !q := by rw [hq]; rfl
  by_cases h2 : p = q
  · have HR : Hid (cchk x width = 8) := Lib.hid (by unfold cchk; rw [if_neg hA, if_pos (by rw [← hp, ← hq]; exact h2)])
    subst h2
    clear hp hq hA
    cases p
    all_goals
      go_wp2_with fail
      go_ret
      exact ⟨ret_int HR.out.symm, HB.out⟩
  have hB : ¬ decide (x.sig = 6) = decide (width = 0) := by rw [← hp, ← hq]; exact h2
  have hpq : p = !q := by cases p <;> cases q <;> simp_all
  subst hpq
  have HA := Lib.hid hA
  have HBB := Lib.hid hB
  clear h2 hp hq hA hB
  have c1 : w0.cell? ⟨w.heap.size, 1, none⟩ = some (.slice A x.labs.length c) := HAT.out.cell 1
  cases q
  all_goals
    go_wp2_with fail
    refine (checkL_any A c x.labs _ HL0.out HC.out).mono ?_
    rintro e w1 ⟨rfl, hb⟩
    have HB1 := Lib.hid (HB.out.trans (hb.mono HB.out.size))
    have HAT1 := Lib.hid (HAT.out.below hb)
    clear hb c0 c1 HAT HB HL0
    by_cases h3 : chkL x.labs = 0
    · have H3 := Lib.hid h3
      rw [h3]
      have c0 : w1.cell? ⟨w.heap.size, 0, none⟩ = some (.int .i64 x.sig) := HAT1.out.cell 0
      have c1 : w1.cell? ⟨w.heap.size, 1, none⟩ = some (.slice A x.labs.length c) := HAT1.out.cell 1
      have c15 : w1.cell? ⟨w.heap.size, 15, none⟩ = some (.string x.data) := HAT1.out.cell 15
      have hz := zone_range (range_at HAT1.out)
      rw [Nat.zero_add] at hz
      have HZ := Lib.hid hz
      clear h3 hz
      have HR : Hid (cchk x width = if bareB x.sig = true ∧ 0 < x.labs.length then 1 else if zchk x.zone ≠ 0 then zchk x.zone else if 262144 < x.data.size then 4 else 0) := Lib.hid (by unfold cchk; rw [if_neg HA.out, if_neg HBB.out, if_neg (by rw [H3.out]; simp)])
      go_wp2_with fail
      refine (unlabelled_any _ _).mono ?_
      rintro e w' ⟨rfl, rfl⟩
      rcases hbr : bareB x.sig
      · have HR2 : Hid (cchk x width = if zchk x.zone ≠ 0 then zchk x.zone else if 262144 < x.data.size then 4 else 0) := Lib.hid (by rw [HR.out, hbr]; rfl)
        clear hbr HR
        go_wp2_with (refine wpList_load_mid rfl 50 (.tmp 36) rfl w.heap.size 2 rfl x.zone.cells.toList _ HZ.out Tryz.underlying50 rfl size_zone ?_)
        refine (zcheck_any x.zone _).mono ?_
        rintro e w2 ⟨rfl, hb⟩
        have HB2 := Lib.hid (HB1.out.trans (hb.mono HB1.out.size))
        have c15 : w2.cell? ⟨w.heap.size, 15, none⟩ = some (.string x.data) := (HAT1.out.below hb).cell 15
        clear hb c0 c1
        by_cases h5 : zchk x.zone = 0
        · have HR3 : Hid (cchk x width = if 262144 < x.data.size then 4 else 0) := Lib.hid (by rw [HR2.out, h5]; rfl)
          rw [h5]
          clear h5 HR2
          by_cases h6 : 262144 < x.data.size
          · have HR4 : Hid (cchk x width = 4) := Lib.hid (by rw [HR3.out, if_pos h6])
            go_wp2_with fail
            go_ret
            exact ⟨ret_int HR4.out.symm, HB2.out⟩
          · have HR4 : Hid (cchk x width = 0) := Lib.hid (by rw [HR3.out, if_neg h6])
            go_wp2_with fail
            go_ret
            exact ⟨ret_int HR4.out.symm, HB2.out⟩
        · have HR3 : Hid (cchk x width = zchk x.zone) := Lib.hid (by rw [HR2.out, if_pos h5])
          have d5 : (zchk x.zone != 0) = true := bne_iff_ne.2 h5
          clear h5 HR2
          go_wp2_with fail
          go_ret
          exact ⟨ret_int HR3.out.symm, HB2.out⟩
      · by_cases h4 : 0 < x.labs.length
        · have HR2 : Hid (cchk x width = 1) := Lib.hid (by rw [HR.out, if_pos ⟨hbr, h4⟩])
          clear hbr HR
          go_wp2_with fail
          go_ret
          exact ⟨ret_int HR2.out.symm, HB1.out⟩
        · have HR2 : Hid (cchk x width = if zchk x.zone ≠ 0 then zchk x.zone else if 262144 < x.data.size then 4 else 0) := Lib.hid (by rw [HR.out, if_neg (fun h => h4 h.2)])
          clear hbr HR
          go_wp2_with (refine wpList_load_mid rfl 50 (.tmp 36) rfl w.heap.size 2 rfl x.zone.cells.toList _ HZ.out Tryz.underlying50 rfl size_zone ?_)
          refine (zcheck_any x.zone _).mono ?_
          rintro e w2 ⟨rfl, hb⟩
          have HB2 := Lib.hid (HB1.out.trans (hb.mono HB1.out.size))
          have c15 : w2.cell? ⟨w.heap.size, 15, none⟩ = some (.string x.data) := (HAT1.out.below hb).cell 15
          clear hb c0 c1
          by_cases h5 : zchk x.zone = 0
          · have HR3 : Hid (cchk x width = if 262144 < x.data.size then 4 else 0) := Lib.hid (by rw [HR2.out, h5]; rfl)
            rw [h5]
            clear h5 HR2
            by_cases h6 : 262144 < x.data.size
            · have HR4 : Hid (cchk x width = 4) := Lib.hid (by rw [HR3.out, if_pos h6])
              go_wp2_with fail
              go_ret
              exact ⟨ret_int HR4.out.symm, HB2.out⟩
            · have HR4 : Hid (cchk x width = 0) := Lib.hid (by rw [HR3.out, if_neg h6])
              go_wp2_with fail
              go_ret
              exact ⟨ret_int HR4.out.symm, HB2.out⟩
          · have HR3 : Hid (cchk x width = zchk x.zone) := Lib.hid (by rw [HR2.out, if_pos h5])
            have d5 : (zchk x.zone != 0) = true := bne_iff_ne.2 h5
            clear h5 HR2
            go_wp2_with fail
            go_ret
            exact ⟨ret_int HR3.out.symm, HB2.out⟩
    · have HR : Hid (cchk x width = chkL x.labs) := Lib.hid (by unfold cchk; rw [if_neg HA.out, if_neg HBB.out, if_pos h3])
      have d3 : (chkL x.labs != 0) = true := bne_iff_ne.2 h3
      clear h3
      go_wp2_with fail
      go_ret
      exact ⟨ret_int HR.out.symm, HB1.out⟩
end Go.Proofs.YtoojpfcnekpboaaGreat
