/- Walks: a quoted value and the text of labels (the reference's). Walks: chunks are compared, a block is checked (the program's). -/
import Derived.Test.YtoojpfcnekpboaaGreatZAH
import Derived.Deep.RegionHeld3
import Derived.Test.YtoojpfcnekpboaaGreatZAG
namespace Go.Proofs.YtoojpfcnekpboaaGreat
open Go.RowKit

set_option maxHeartbeats 2000000 in
theorem quoted05_any (W : World) (s : ByteArray) (hs : s.size ≤ 100000000) :
    Calls Tryz.prog 163 #[.string s] W fun e w' => e = .returned (.string (str (quoB (bs s)))) ∧ Below W.heap.size W w' := by
  have HS0 : Hid (BR W (some ⟨W.heap.size, 0, none⟩) 0 0 (quoB ((bs s).take 0)) (W.alloc (.cells #[] 5))) := Lib.hid (BR.lit (Below.refl _ _) [] (by decide))
  have HSL := Lib.hid hs
  clear hs
  go_enter Tryz.func163, Tryz.ntmps163
  go_wp2_with fail
  go_loopg [3, 4] (s.size + 1) (fun g v i wr => ∃ (k : Nat) (A1 : Option Addr) (n1 c1 : Nat), g = s.size + 1 - k ∧ k ≤ s.size ∧ v = .slice A1 n1 c1 ∧ i = .int .i64 k ∧ BR W A1 n1 c1 (quoB ((bs s).take k)) wr)
  case atStart => exact ⟨0, _, 0, 0, rfl, Nat.zero_le _, rfl, rfl, HS0.out⟩
  case round =>
    obtain ⟨k, A1, n1, c1, hg, hk, rfl, rfl, hbr⟩ := hrel
    have HBR := Lib.hid hbr
    have hkl : (k : Int) ≤ 100000000 := by have := HSL.out; omega
    clear hbr HS0
    by_cases hlt : k < s.size
    · have HQ := Lib.hid (quo_step hlt)
      have HLN : Hid (n1 + 2 ≤ 1000000000000) := Lib.hid (by
        have h0 := HBR.out.len
        have h1 := quo_take_len s k
        have h2 := HSL.out
        omega)
      have HMO : Hid (s.size + 1 - (k + 1) < gk) := Lib.hid (by omega)
      clear hg
      obtain ⟨b, hb⟩ : ∃ b, s[k] = b := ⟨_, rfl⟩
      rw [hb] at HQ
      generalize hL : quoB ((bs s).take k) = L at *
      have HL := Lib.hid hL
      clear hL
      by_cases h10 : b = 10
      · subst h10
        go_wp2_with (at_builtin; (refine wpList_bytes rfl (.tmp 16) (.tmp 17) rfl HBR.out [92, 110] (by decide) rfl rfl HLN.out ?_))
        intro A' n' c' l' w' HE hq _
        have HQR : Hid (BR W A' n' c' (quoB ((bs s).take (k + 1))) w') := Lib.hid (by rw [HQ.out]; rw [HE.out] at hq; exact hq)
        clear hq
        go_wp2_with fail
        go_roundg (s.size + 1 - (k + 1))
        case measure => exact HMO.out
        case rel => exact ⟨k + 1, A', n', c', rfl, by omega, rfl, rfl, HQR.out⟩
      have d3 : ((b.toNat : Int) == 10) = false := byte_ne h10
      by_cases h92 : b = 92
      · subst h92
        clear h10
        go_wp2_with (at_builtin; (refine wpList_bytes rfl (.tmp 29) (.tmp 30) rfl HBR.out [92] (by decide) rfl rfl (by have := HLN.out; simp; omega) ?_))
        intro A2 n2 c2 l2 w2 HE2 hq2 _
        have HB2 := Lib.hid hq2
        have HL2 : Hid (n2 + 1 ≤ 1000000000000) := Lib.hid (by have h1 := hq2.len; rw [HE2.out, List.length_append, HBR.out.len] at h1; simp at h1; have := HLN.out; omega)
        clear hq2
        go_wp2_with (at_builtin; (refine wpList_bytes rfl (.tmp 32) (.tmp 36) rfl HB2.out [92] (by decide) rfl rfl HL2.out ?_))
        intro A' n' c' l' w' HE hq _
        have HQR : Hid (BR W A' n' c' (quoB ((bs s).take (k + 1))) w') := Lib.hid (by rw [HQ.out]; rw [HE.out, HE2.out, List.append_assoc] at hq; exact hq)
        clear hq
        go_wp2_with fail
        go_roundg (s.size + 1 - (k + 1))
        case measure => exact HMO.out
        case rel => exact ⟨k + 1, A', n', c', rfl, by omega, rfl, rfl, HQR.out⟩
      have d1 : ((b.toNat : Int) == 92) = false := byte_ne h92
      by_cases h34 : b = 34
      · subst h34
        clear h10 h92
        go_wp2_with (at_builtin; (refine wpList_bytes rfl (.tmp 29) (.tmp 30) rfl HBR.out [92] (by decide) rfl rfl (by have := HLN.out; simp; omega) ?_))
        intro A2 n2 c2 l2 w2 HE2 hq2 _
        have HB2 := Lib.hid hq2
        have HL2 : Hid (n2 + 1 ≤ 1000000000000) := Lib.hid (by have h1 := hq2.len; rw [HE2.out, List.length_append, HBR.out.len] at h1; simp at h1; have := HLN.out; omega)
        clear hq2
        go_wp2_with (at_builtin; (refine wpList_bytes rfl (.tmp 32) (.tmp 36) rfl HB2.out [34] (by decide) rfl rfl HL2.out ?_))
        intro A' n' c' l' w' HE hq _
        have HQR : Hid (BR W A' n' c' (quoB ((bs s).take (k + 1))) w') := Lib.hid (by rw [HQ.out]; rw [HE.out, HE2.out, List.append_assoc] at hq; exact hq)
        clear hq
        go_wp2_with fail
        go_roundg (s.size + 1 - (k + 1))
        case measure => exact HMO.out
        case rel => exact ⟨k + 1, A', n', c', rfl, by omega, rfl, rfl, HQR.out⟩
      · have d2 : ((b.toNat : Int) == 34) = false := byte_ne h34
        have hq1 : quo1 b = [b] := by unfold quo1; rw [if_neg (by rintro (h | h); exact h92 h; exact h34 h), if_neg h10]
        rw [hq1] at HQ
        clear h92 h34 h10 hq1
        go_wp2_with (at_builtin; (refine wpList_bytes rfl (.tmp 32) (.tmp 36) rfl HBR.out [b] (by simp) rfl rfl (by have := HLN.out; simp; omega) ?_))
        intro A' n' c' l' w' HE hq _
        have HQR : Hid (BR W A' n' c' (quoB ((bs s).take (k + 1))) w') := Lib.hid (by rw [HQ.out]; rw [HE.out] at hq; exact hq)
        clear hq
        go_wp2_with fail
        go_roundg (s.size + 1 - (k + 1))
        case measure => exact HMO.out
        case rel => exact ⟨k + 1, A', n', c', rfl, by omega, rfl, rfl, HQR.out⟩
    · have HT := Lib.hid (take_end (Nat.le_of_not_lt hlt))
      rw [HT.out] at HBR
      have kc := HBR.out.str
      go_wp2_with fail
      go_ret
      exact ⟨rfl, HBR.out.below⟩

theorem below_drew {B : Nat} {a w : World} (h : Below B a w) : Below B a w.drew := ⟨h.os, h.tape, h.output, h.size, h.block⟩
def fmt5 (ls : List Lab) (k : Nat) : ByteArray := str (fmtTo ls k)
theorem str_append (a b : List UInt8) : str (a ++ b) = str a ++ str b := by
  apply bs_inj
  rw [bs_str]
  show _ = ((str a) ++ (str b)).data.toList
  rw [ByteArray.data_append, Array.toList_append]
  rfl
theorem fmt5_step0 {ls : List Lab} (h : 0 < ls.length) : fmt5 ls 1 = fmt5 ls 0 ++ (ls[0]).name ++ ⟨#[61, 34]⟩ ++ str (quoB (bs (ls[0]).value)) ++ ⟨#[34]⟩ := by
  unfold fmt5
  rw [fmtTo_step0 h, str_append, str_append, str_append, str_append]
  rfl
theorem fmt5_step {ls : List Lab} {k : Nat} (h : k + 1 < ls.length) : fmt5 ls (k + 1 + 1) = fmt5 ls (k + 1) ++ ⟨#[44]⟩ ++ (ls[k + 1]).name ++ ⟨#[61, 34]⟩ ++ str (quoB (bs (ls[k + 1]).value)) ++ ⟨#[34]⟩ := by
  unfold fmt5
  rw [fmtTo_step h, str_append, str_append, str_append, str_append, str_append]
  rfl
theorem fmt5_stepj {ls : List Lab} {j : Nat} (h0 : j ≠ 0) (h : j < ls.length) : fmt5 ls (j + 1) = fmt5 ls j ++ ⟨#[44]⟩ ++ (ls[j]).name ++ ⟨#[61, 34]⟩ ++ str (quoB (bs (ls[j]).value)) ++ ⟨#[34]⟩ := by
  obtain ⟨k, rfl⟩ : ∃ k, j = k + 1 := ⟨j - 1, by omega⟩
  exact fmt5_step h
theorem fmt5_end (ls : List Lab) : fmt5 ls ls.length ++ ⟨#[125]⟩ = str (fmtL ls) := by
  unfold fmt5
  rw [← fmtTo_end, str_append]
  rfl
theorem fmt5_len {ls : List Lab} (k : Nat) (h : ∀ x ∈ ls, x.name.size ≤ 10000 ∧ x.value.size ≤ 10000) (hl : ls.length ≤ 100) : (fmt5 ls k).size ≤ 4000000 := fmtTo_len k h hl

set_option maxRecDepth 100000 in
set_option maxHeartbeats 4000000 in
theorem format05_any (A : Option Addr) (c : Nat) (ls : List Lab) (w : World) (hr : LabsIn w.heap.size w A ls) (hc : ls.length ≤ c) (hl : ls.length ≤ 100) (hsz : ∀ x ∈ ls, x.name.size ≤ 10000 ∧ x.value.size ≤ 10000) :
    Calls Tryz.prog 134 #[.slice A ls.length c] w fun e w' => e = .returned (.string (str (fmtL ls))) ∧ Below w.heap.size w w' := by
  have HC := Lib.hid hc
  have HRD := Lib.hid hr
  have HSZ := Lib.hid hsz
  have H0 : Hid ((⟨#[123]⟩ : ByteArray) = fmt5 ls 0) := Lib.hid rfl
  clear hc hr hsz
  go_enter Tryz.func134, Tryz.ntmps134
  go_wp2_with fail
  go_loopw [3, 4] (fun v i wr => ∃ k : Nat, k ≤ ls.length ∧ v = .string (fmt5 ls k) ∧ i = .int .i64 k ∧ Below w.heap.size w wr) (fun _ i _ => ls.length - (intOf i).toNat)
  case atStart => exact ⟨0, Nat.zero_le _, by rw [H0.out], rfl, Below.refl _ _⟩
  case round =>
    obtain ⟨k, hk, rfl, rfl, hD⟩ := hrel
    have HD := Lib.hid hD
    have HFL := Lib.hid (fmt5_len k HSZ.out hl)
    by_cases hlt : k < ls.length
    · obtain ⟨b, o, rfl, hb, c0, c1⟩ := (HRD.out.below hD).at_ k hlt
      have hbw : b < w.heap.size := hb
      have HSX := Lib.hid (HSZ.out _ (List.getElem_mem hlt))
      obtain ⟨x, hx⟩ : ∃ x, ls[k] = x := ⟨_, rfl⟩
      have hvl : (quoB (bs x.value)).length ≤ 20000 := by
        have h1 := quoB_len (bs x.value)
        have h2 := HSX.out.2
        rw [bs_length] at h1
        rw [hx] at h2
        omega
      have HQ : Hid (∀ W' : World, Below w.heap.size w W' → Calls Tryz.prog 163 #[.string x.value] W' fun e w' => e = .returned (.string (str (quoB (bs x.value)))) ∧ Below w.heap.size w w') := Lib.hid fun W' hW => (quoted05_any W' x.value (by have h2 := HSX.out.2; rw [hx] at h2; omega)).mono fun e w' ⟨he, hb⟩ => ⟨he, hW.trans (hb.mono hW.size)⟩
      have HCL : Hid (∀ W' : World, Below w.heap.size w W' → W'.cell? ⟨b, o + k * 2, none⟩ = some (.string x.name) ∧ W'.cell? ⟨b, o + k * 2 + 1, none⟩ = some (.string x.value)) := Lib.hid fun W' hW => by
        obtain ⟨b', o', e1, _, d0, d1⟩ := (HRD.out.below hW).at_ k hlt
        cases e1
        rw [hx] at d0 d1
        exact ⟨d0, d1⟩
      rw [hx] at c0 c1 HSX
      have hxn : x.name.size ≤ 10000 := HSX.out.1
      have hqs : (str (quoB (bs x.value))).size ≤ 20000 := hvl
      generalize hQ : str (quoB (bs x.value)) = Q at *
      have HQE := Lib.hid hQ
      clear hQ hD hb hvl
      by_cases hj : k = 0
      · subst hj
        simp only [Nat.zero_mul, Nat.add_zero] at c0 c1 HCL
        have HST := Lib.hid (fmt5_step0 hlt)
        rw [hx, HQE.out] at HST
        clear hx
        generalize fmt5 ls 0 = T at *
        have hfl : T.size ≤ 4000000 := HFL.out
        have k1 : ¬ 9223372036854775807 < T.size + x.name.size := by omega
        have k2 : ¬ 9223372036854775807 < T.size + x.name.size + 2 := by omega
        have k3 : ¬ 9223372036854775807 < T.size + x.name.size + 2 + Q.size := by omega
        have k4 : ¬ 9223372036854775807 < T.size + x.name.size + 2 + Q.size + 1 := by omega
        go_wp2_with fail
        go_region_held3 (fun w' => w'.cell? ⟨b, o, none⟩ = some (.string x.name) ∧ w'.cell? ⟨b, o + 1, none⟩ = some (.string x.value) ∧ Below w.heap.size w w') ((first | exact ⟨c0, c1, below_drew HD.out⟩ | exact ⟨(HCL.out _ hb).1, (HCL.out _ hb).2, hb⟩ | go_keep))
          (first | (go_at_call 163; refine (HQ.out _ ?_).mono ?_; (exact (‹_ ∧ _ ∧ Below w.heap.size w _›).2.2); rintro e w' ⟨rfl, hb⟩))
        go_wp2_with fail
        go_roundw
        case rel => exact ⟨1, hlt, by rw [HST.out], by go_num, ‹_›⟩
        case measure => simp [intOf]; omega
      · have HST := Lib.hid (fmt5_stepj hj hlt)
        rw [hx, HQE.out] at HST
        have hk0 : (0 : Int) < (k : Int) := by omega
        have hk1 : (0 : Int) ≤ (k : Int) := by omega
        have hk2 : (k : Int) < (ls.length : Int) := by omega
        clear hx hj
        generalize fmt5 ls k = T at *
        have hfl : T.size ≤ 4000000 := HFL.out
        have k0 : ¬ 9223372036854775807 < T.size + 1 := by omega
        have k1 : ¬ 9223372036854775807 < T.size + 1 + x.name.size := by omega
        have k2 : ¬ 9223372036854775807 < T.size + 1 + x.name.size + 2 := by omega
        have k3 : ¬ 9223372036854775807 < T.size + 1 + x.name.size + 2 + Q.size := by omega
        have k4 : ¬ 9223372036854775807 < T.size + 1 + x.name.size + 2 + Q.size + 1 := by omega
        go_wp2_with fail
        go_region_held3 (fun w' => w'.cell? ⟨b, o + k * 2, none⟩ = some (.string x.name) ∧ w'.cell? ⟨b, o + k * 2 + 1, none⟩ = some (.string x.value) ∧ Below w.heap.size w w') ((first | exact ⟨c0, c1, below_drew HD.out⟩ | exact ⟨(HCL.out _ hb).1, (HCL.out _ hb).2, hb⟩ | go_keep))
          (first | (go_at_call 163; refine (HQ.out _ ?_).mono ?_; (exact (‹_ ∧ _ ∧ Below w.heap.size w _›).2.2); rintro e w' ⟨rfl, hb⟩))
        go_wp2_with fail
        go_roundw
        case rel => exact ⟨k + 1, by omega, by rw [HST.out], by go_num, ‹_›⟩
        case measure => simp [intOf]; omega
    · obtain rfl : k = ls.length := by omega
      have hfl : (fmt5 ls ls.length).size ≤ 4000000 := HFL.out
      have HE := Lib.hid (fmt5_end ls)
      clear hD hlt hk
      go_wp2_with fail
      go_ret
      exact ⟨ret_str HE.out, HD.out⟩
end Go.Proofs.YtoojpfcnekpboaaGreat

namespace Go.Proofs.YtoojpfcnekpboaaGreat
open Go.RowKit

/-- Cells of a chunk that are read: the number and the slice. -/
theorem chC_at0 (s : Int) (A : Option Addr) (n c : Nat) (z : Zn) (d : ByteArray) : (chC s A n c z d)[0]? = some (.int .i64 s) := rfl
theorem chC_at1 (s : Int) (A : Option Addr) (n c : Nat) (z : Zn) (d : ByteArray) : (chC s A n c z d)[1]? = some (.slice A n c) := rfl

set_option maxRecDepth 100000 in
set_option maxHeartbeats 4000000 in
theorem compareC_any (x y : Chk) (A A' : Option Addr) (c c' : Nat) (w : World) (hl : LabsIn w.heap.size w A x.labs) (hc : x.labs.length ≤ c) (hl' : LabsIn w.heap.size w A' y.labs) (hc' : y.labs.length ≤ c') (hn : x.labs.length ≤ 9223372036854775807) :
    Calls Tryz.prog 86 #[.agg (chC x.sig A x.labs.length c x.zone x.data), .agg (chC y.sig A' y.labs.length c' y.zone y.data)] w fun e w' => e = .returned (.int .i64 (ccmp x y)) ∧ Below w.heap.size w w' := by
  have hb0 : Below w.heap.size w ((w.alloc (.cells (chC x.sig A x.labs.length c x.zone x.data) 58)).alloc (.cells (chC y.sig A' y.labs.length c' y.zone y.data) 58)) := ((Below.refl _ _).alloc (Nat.le_refl _) _).alloc (by simp) _
  have HB := Lib.hid hb0
  have HT0 := Lib.hid (at_two0 w (chC x.sig A x.labs.length c x.zone x.data) (chC y.sig A' y.labs.length c' y.zone y.data) 58 58)
  have HT1 := Lib.hid (at_two1 w (chC x.sig A x.labs.length c x.zone x.data) (chC y.sig A' y.labs.length c' y.zone y.data) 58 58)
  have HCP : Hid (∀ W' : World, Below w.heap.size w W' → Calls Tryz.prog 120 #[.slice A x.labs.length c, .slice A' y.labs.length c'] W' fun e w' => e = .returned (.int .i64 (cmpL x.labs y.labs)) ∧ Below w.heap.size w w' ∧ Below W'.heap.size W' w') := Lib.hid fun W' hW => (compareL_any A A' c c' x.labs y.labs W' ((hl.below hW).mono hW.size) ((hl'.below hW).mono hW.size) hc hc' hn).mono fun e w' ⟨he, hb⟩ => ⟨he, hW.trans (hb.mono hW.size), hb⟩
  have HR : Hid (orI (cmpI x.sig y.sig) (cmpL x.labs y.labs) = ccmp x y) := Lib.hid rfl
  clear hb0 hl hl' hc hc' hn
  go_enter Tryz.func86, Tryz.ntmps86
  go_upto_region 1 with fail
  generalize ((w.alloc (.cells (chC x.sig A x.labs.length c x.zone x.data) 58)).alloc (.cells (chC y.sig A' y.labs.length c' y.zone y.data) 58)) = w1 at *
  have hlt : w.heap.size + 1 < w1.heap.size := HT1.out.lt
  have c0 : w1.cell? ⟨w.heap.size, 0, none⟩ = some (.int .i64 x.sig) := HT0.out.cell 0
  have c1 : w1.cell? ⟨w.heap.size, 1, none⟩ = some (.slice A x.labs.length c) := HT0.out.cell 1
  have d0 : w1.cell? ⟨w.heap.size + 1, 0, none⟩ = some (.int .i64 y.sig) := HT1.out.cell 0
  have d1 : w1.cell? ⟨w.heap.size + 1, 1, none⟩ = some (.slice A' y.labs.length c') := HT1.out.cell 1
  have HK : Hid (∀ W' W2 : World, (W'.cell? ⟨w.heap.size, 0, none⟩ = some (.int .i64 x.sig) ∧ W'.cell? ⟨w.heap.size, 1, none⟩ = some (.slice A x.labs.length c) ∧ W'.cell? ⟨w.heap.size + 1, 0, none⟩ = some (.int .i64 y.sig) ∧ W'.cell? ⟨w.heap.size + 1, 1, none⟩ = some (.slice A' y.labs.length c') ∧ w.heap.size + 1 < W'.heap.size ∧ Below w.heap.size w W') → Below W'.heap.size W' W2 → Below w.heap.size w W2 → W2.cell? ⟨w.heap.size, 0, none⟩ = some (.int .i64 x.sig) ∧ W2.cell? ⟨w.heap.size, 1, none⟩ = some (.slice A x.labs.length c) ∧ W2.cell? ⟨w.heap.size + 1, 0, none⟩ = some (.int .i64 y.sig) ∧ W2.cell? ⟨w.heap.size + 1, 1, none⟩ = some (.slice A' y.labs.length c') ∧ w.heap.size + 1 < W2.heap.size ∧ Below w.heap.size w W2) := Lib.hid fun W' W2 ⟨h0, h1, h2, h3, h4, h5⟩ hb hb2 => by
    have e1 : w.heap.size < W'.heap.size := by omega
    have s : W'.heap.size ≤ W2.heap.size := hb.size
    exact ⟨(hb.cell (p := ⟨w.heap.size, 0, none⟩) e1).trans h0, (hb.cell (p := ⟨w.heap.size, 1, none⟩) e1).trans h1, (hb.cell (p := ⟨w.heap.size + 1, 0, none⟩) h4).trans h2, (hb.cell (p := ⟨w.heap.size + 1, 1, none⟩) h4).trans h3, by omega, hb2⟩
  have HKA : Hid (∀ (W' : World) (o : Obj), (W'.cell? ⟨w.heap.size, 0, none⟩ = some (.int .i64 x.sig) ∧ W'.cell? ⟨w.heap.size, 1, none⟩ = some (.slice A x.labs.length c) ∧ W'.cell? ⟨w.heap.size + 1, 0, none⟩ = some (.int .i64 y.sig) ∧ W'.cell? ⟨w.heap.size + 1, 1, none⟩ = some (.slice A' y.labs.length c') ∧ w.heap.size + 1 < W'.heap.size ∧ Below w.heap.size w W') → (W'.alloc o).cell? ⟨w.heap.size, 0, none⟩ = some (.int .i64 x.sig) ∧ (W'.alloc o).cell? ⟨w.heap.size, 1, none⟩ = some (.slice A x.labs.length c) ∧ (W'.alloc o).cell? ⟨w.heap.size + 1, 0, none⟩ = some (.int .i64 y.sig) ∧ (W'.alloc o).cell? ⟨w.heap.size + 1, 1, none⟩ = some (.slice A' y.labs.length c') ∧ w.heap.size + 1 < (W'.alloc o).heap.size ∧ Below w.heap.size w (W'.alloc o)) := Lib.hid fun W' o h => HK.out W' (W'.alloc o) h ((Below.refl _ _).alloc (Nat.le_refl _) _) (h.2.2.2.2.2.alloc h.2.2.2.2.2.size _)
  clear HT0 HT1
  go_region_held3 (fun w' => w'.cell? ⟨w.heap.size, 0, none⟩ = some (.int .i64 x.sig) ∧ w'.cell? ⟨w.heap.size, 1, none⟩ = some (.slice A x.labs.length c) ∧ w'.cell? ⟨w.heap.size + 1, 0, none⟩ = some (.int .i64 y.sig) ∧ w'.cell? ⟨w.heap.size + 1, 1, none⟩ = some (.slice A' y.labs.length c') ∧ w.heap.size + 1 < w'.heap.size ∧ Below w.heap.size w w') ((first | assumption | exact ⟨c0, c1, d0, d1, hlt, below_drew HB.out⟩ | exact HK.out _ _ (by assumption) ‹Below _ _ _› hb2 | exact HKA.out _ _ (by assumption) | go_keep))
    (first | (go_at_call 119; refine (cmpInt_any _ _ _).mono ?_; rintro e w' ⟨rfl, rfl⟩) | (go_at_call 120; refine (HCP.out _ ?_).mono ?_; (exact (‹_ ∧ _ ∧ _ ∧ _ ∧ _ ∧ Below w.heap.size w _›).2.2.2.2.2); rintro e w' ⟨rfl, hb2, hb⟩) | (go_at_call 118; refine (or2_any _ _ _ _ (At.new _ _ _)).mono ?_; rintro e w' ⟨rfl, rfl⟩))
  go_wp2_with fail
  go_ret
  exact ⟨ret_int HR.out.symm, (‹_ ∧ _ ∧ _ ∧ _ ∧ _ ∧ Below w.heap.size w _›).2.2.2.2.2⟩
end Go.Proofs.YtoojpfcnekpboaaGreat
