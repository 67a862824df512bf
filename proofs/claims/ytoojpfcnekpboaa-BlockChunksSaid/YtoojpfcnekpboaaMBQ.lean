/- Walks: awake of the block's laws. The walk of the law BlockEncode. -/
import Derived.Test.YtoojpfcnekpboaaMBL
import Derived.Test.YtoojpfcnekpboaaMBM
import Derived.Test.YtoojpfcnekpboaaMBP
namespace Go.Proofs.Ytoojpfcnekpboaa
open Go.RowKit Go.Shelf

def b7 : Blk := ⟨7, 0, 0, []⟩
def labAX : Lab := ⟨⟨#[97]⟩, ⟨#[120]⟩⟩
def b1x : Blk := ⟨1, 0, 0, [⟨1, [labAX], Zn.zero, ⟨#[100, 97, 116, 97]⟩⟩]⟩
theorem b7_chk : bchk b7 = 0 := by decide +kernel
theorem b1_chk : bchk b1x = 0 := by decide +kernel
theorem zero_zw : ZW Zn.zero := fun i hi => by
  have : i = 0 ∨ i = 1 ∨ i = 2 ∨ i = 3 ∨ i = 4 ∨ i = 5 ∨ i = 6 ∨ i = 7 := by omega
  rcases this with rfl | rfl | rfl | rfl | rfl | rfl | rfl | rfl <;> decide
theorem b7_fine : Fine b7 := Fine.of (by decide +kernel) (fun x hx => by cases hx)
theorem b1_fine : Fine b1x := Fine.of (by decide +kernel) (fun x hx => by
  rcases List.mem_cons.1 hx with rfl | hx
  · exact zero_zw
  · cases hx)
theorem enc7 : pairV (encB b7) = .tuple #[.string (str (fileB b7)), .int .i64 0] := by unfold encB; rw [if_pos b7_chk]; rfl
theorem enc1 : pairV (encB b1x) = .tuple #[.string (str (fileB b1x)), .int .i64 0] := by unfold encB; rw [if_pos b1_chk]; rfl
theorem file7_size : (str (fileB b7)).size = 20 := by
  rw [str_size]
  unfold fileB
  rw [List.length_append, List.length_append, sealB_len, sealB_len]
  rfl
theorem file7_head : (str (fileB b7)).extract 0 8 = ⟨#[76, 75, 66, 49, 7, 0, 0, 0]⟩ := by
  refine bs_inj ?_
  rw [bs_ext, List.drop_zero, bs_str]
  have e : fileB b7 = [76, 75, 66, 49, 7, 0, 0, 0] ++ (Crc.ending (Crc.sum (bdir b7)) ++ sealB (four4 (sealB (bdir b7)).length)) := by
    unfold fileB
    rw [show datB b7 = [] from rfl, List.nil_append]
    unfold sealB
    rw [List.append_assoc]
    rfl
  rw [e]
  exact List.take_left (l₁ := [76, 75, 66, 49, 7, 0, 0, 0])
theorem awake_world (w1 : World) : At (((w1.alloc (.cells labAX.cells 57)).alloc (.cells (chC 1 (some ⟨w1.heap.size, 0, none⟩) 1 1 Zn.zero ⟨#[100, 97, 116, 97]⟩) 49)).alloc (.cells (blC b1x (some ⟨w1.heap.size + 1, 0, none⟩) 1) 24)) (w1.heap.size + 1 + 1) (blC b1x (some ⟨w1.heap.size + 1, 0, none⟩) 1) 24 ∧
    ChksIn (((w1.alloc (.cells labAX.cells 57)).alloc (.cells (chC 1 (some ⟨w1.heap.size, 0, none⟩) 1 1 Zn.zero ⟨#[100, 97, 116, 97]⟩) 49)).alloc (.cells (blC b1x (some ⟨w1.heap.size + 1, 0, none⟩) 1) 24)).heap.size (((w1.alloc (.cells labAX.cells 57)).alloc (.cells (chC 1 (some ⟨w1.heap.size, 0, none⟩) 1 1 Zn.zero ⟨#[100, 97, 116, 97]⟩) 49)).alloc (.cells (blC b1x (some ⟨w1.heap.size + 1, 0, none⟩) 1) 24)) (some ⟨w1.heap.size + 1, 0, none⟩) b1x.chunks := by
  have a0 := At.new w1 labAX.cells 57
  have a1 := At.new (w1.alloc (.cells labAX.cells 57)) (chC 1 (some ⟨w1.heap.size, 0, none⟩) 1 1 Zn.zero ⟨#[100, 97, 116, 97]⟩) 49
  have a2 := At.new ((w1.alloc (.cells labAX.cells 57)).alloc (.cells (chC 1 (some ⟨w1.heap.size, 0, none⟩) 1 1 Zn.zero ⟨#[100, 97, 116, 97]⟩) 49)) (blC b1x (some ⟨w1.heap.size + 1, 0, none⟩) 1) 24
  have z1 : (w1.alloc (.cells labAX.cells 57)).heap.size = w1.heap.size + 1 := by simp
  have z2 : ((w1.alloc (.cells labAX.cells 57)).alloc (.cells (chC 1 (some ⟨w1.heap.size, 0, none⟩) 1 1 Zn.zero ⟨#[100, 97, 116, 97]⟩) 49)).heap.size = w1.heap.size + 1 + 1 := by simp
  rw [z1] at a1
  rw [z2] at a2
  have b0 := (a0.alloc (.cells (chC 1 (some ⟨w1.heap.size, 0, none⟩) 1 1 Zn.zero ⟨#[100, 97, 116, 97]⟩) 49)).alloc (.cells (blC b1x (some ⟨w1.heap.size + 1, 0, none⟩) 1) 24)
  have b1 := a1.alloc (.cells (blC b1x (some ⟨w1.heap.size + 1, 0, none⟩) 1) 24)
  refine ⟨a2, ?_⟩
  generalize ((w1.alloc (.cells labAX.cells 57)).alloc (.cells (chC 1 (some ⟨w1.heap.size, 0, none⟩) 1 1 Zn.zero ⟨#[100, 97, 116, 97]⟩) 49)).alloc (.cells (blC b1x (some ⟨w1.heap.size + 1, 0, none⟩) 1) 24) = w2 at *
  refine ⟨[chC 1 (some ⟨w1.heap.size, 0, none⟩) 1 1 Zn.zero ⟨#[100, 97, 116, 97]⟩], rfl, fun k hk => ?_, fun k h1 h2 => ?_⟩
  · have hk0 : k = 0 := by simp at hk; omega
    subst hk0
    refine ⟨w1.heap.size + 1, 0, rfl, b1.lt, fun j _ => ?_⟩
    simp only [Nat.zero_mul, Nat.zero_add]
    rw [b1.cell]
    rfl
  · have hk0 : k = 0 := by simp at h1; omega
    subst hk0
    refine ⟨some ⟨w1.heap.size, 0, none⟩, 1, rfl, fun i hi => ?_, Nat.le_refl _⟩
    have hi0 : i = 0 := by
      have : i < 1 := hi
      omega
    subst hi0
    refine ⟨w1.heap.size, 0, rfl, b0.lt, fun j _ => ?_⟩
    simp only [Nat.zero_mul, Nat.zero_add]
    rw [b0.cell]
    rfl
set_option maxRecDepth 100000 in
set_option maxHeartbeats 2000000 in
theorem awake_any (w : World) : Calls Try.prog 8 #[] w fun e w' => e = .returned (.bool true) ∧ Below w.heap.size w w' := by
  have HE7 := Lib.hid (encode_any b7 none 0 w (ChksIn.nil _ _ _) (Nat.le_refl _) b7_fine.mid)
  rw [enc7] at HE7
  have hs7 := file7_size
  have hh7 := file7_head
  obtain ⟨F7, hF7⟩ : ∃ F, str (fileB b7) = F := ⟨_, rfl⟩
  rw [hF7] at HE7 hs7 hh7
  have HS7 := Lib.hid hs7
  have HH7 := Lib.hid hh7
  clear hF7 hs7 hh7
  go_enter Try.func8, Try.ntmps8
  go_wp2_with fail
  refine HE7.out.mono ?_
  rintro e w1 ⟨rfl, hb⟩
  have HB1 := Lib.hid hb
  clear hb HE7
  go_upto_region 3 with fail
  change Code.wp _ _ _ _ (((w1.alloc (.cells labAX.cells 57)).alloc (.cells (chC 1 (some ⟨w1.heap.size, 0, none⟩) 1 1 Zn.zero ⟨#[100, 97, 116, 97]⟩) 49)).alloc (.cells (blC b1x (some ⟨w1.heap.size + 1, 0, none⟩) 1) 24))
  have HW2 := Lib.hid (awake_world w1)
  have HB2 : Hid (Below w.heap.size w (((w1.alloc (.cells labAX.cells 57)).alloc (.cells (chC 1 (some ⟨w1.heap.size, 0, none⟩) 1 1 Zn.zero ⟨#[100, 97, 116, 97]⟩) 49)).alloc (.cells (blC b1x (some ⟨w1.heap.size + 1, 0, none⟩) 1) 24))) := Lib.hid (HB1.out.trans (((((Below.refl _ _).alloc (Nat.le_refl _) _).alloc (by simp) _).alloc (by simp; omega) _).mono HB1.out.size))
  generalize ((w1.alloc (.cells labAX.cells 57)).alloc (.cells (chC 1 (some ⟨w1.heap.size, 0, none⟩) 1 1 Zn.zero ⟨#[100, 97, 116, 97]⟩) 49)).alloc (.cells (blC b1x (some ⟨w1.heap.size + 1, 0, none⟩) 1) 24) = w2 at *
  obtain ⟨Bq, hBq⟩ : ∃ q, w1.heap.size + 1 + 1 = q := ⟨_, rfl⟩
  obtain ⟨C, hC⟩ : ∃ q, w1.heap.size + 1 = q := ⟨_, rfl⟩
  rw [hBq, hC] at HW2
  rw [hBq, hC]
  clear hBq hC
  have HCK := Lib.hid HW2.out.2
  have HBQ := Lib.hid HW2.out.1
  obtain ⟨V, hV⟩ : ∃ V, V = blC b1x (some ⟨C, 0, none⟩) 1 := ⟨_, rfl⟩
  rw [← hV] at HBQ
  have hvs : V.size = 4 := by rw [hV]; rfl
  have HE1 := Lib.hid (encode_any b1x (some ⟨C, 0, none⟩) 1 w2 HCK.out (Nat.le_refl _) b1_fine.mid)
  rw [enc1, ← hV] at HE1
  have HV := Lib.hid hV
  obtain ⟨F1, hF1⟩ : ∃ F, str (fileB b1x) = F := ⟨_, rfl⟩
  rw [hF1] at HE1
  have HF1 : Hid (bs F1 = fileB b1x) := Lib.hid (by rw [← hF1]; rfl)
  clear hV hF1 HW2
  go_wp2_with (refine wpList_load_row rfl 24 (.tmp 3) rfl Bq rfl 24 V (0, 0) _ HBQ.out.out Try.underlying24 rfl (by rw [hvs]; exact size_blk) ?_)
  refine HE1.out.mono ?_
  rintro e w3 ⟨rfl, hb⟩
  have HB3 := Lib.hid (HB2.out.trans (hb.mono HB2.out.size))
  have HBQ3 := Lib.hid (HBQ.out.below hb)
  have HCK3 := Lib.hid ((HCK.out.below hb).mono hb.size)
  have HDF := Lib.hid (dec_file b1x b1_chk b1_fine F1 HF1.out)
  have HSF : Hid (F1.size ≤ 100000) := Lib.hid (by
    have h1 := congrArg List.length HF1.out
    rw [bs_length] at h1
    have := b1_fine.file
    omega)
  clear hb HE1 HB2 HBQ HCK
  go_wp2_with fail
  refine (decode_any F1 w3 HSF.out).mono ?_
  unfold DPost
  rw [HDF.out.1, HDF.out.2]
  rintro e w4 ⟨hb, A, c, rfl, hck, hcc⟩
  have HB4 := Lib.hid (HB3.out.trans (hb.mono HB3.out.size))
  have HBQ4 := Lib.hid (HBQ3.out.below hb)
  have HCK4 := Lib.hid ((HCK3.out.below hb).mono hb.size)
  have HCD4 := Lib.hid hck
  have HCC := Lib.hid hcc
  obtain ⟨U, hU⟩ : ∃ U, U = blC b1x A c := ⟨_, rfl⟩
  rw [← hU]
  have hus : U.size = 4 := by rw [hU]; rfl
  have HU1 : Hid ((U.all fun v => v.oneCell') = true) := Lib.hid (by rw [hU]; exact blC_one _ _ _)
  have HU := Lib.hid hU
  have HX4 := Lib.hid (At.new w4 #[.int .i64 0, .int .i64 0, .int .i64 0, .slice none 0 0] 24)
  clear hb hck hcc hU HB3 HBQ3 HCK3
  go_wp2_with (refine wpList_store_at rfl 24 (.tmp 6) (.tmp 26) rfl w4.heap.size U rfl rfl 24 _ HX4.out (by rw [hus]; exact size_blk) hus.symm HU1.out ?_)
  intro w5 HW5
  have HRR : Hid (Below w4.heap.size w4 w5) := Lib.hid (by rw [HW5.out]; exact below_row ((Below.refl _ _).alloc (Nat.le_refl _) _) _ _ (Nat.le_refl _))
  have HX5 : Hid (At w5 w4.heap.size U 24) := Lib.hid (by rw [HW5.out]; exact HX4.out.row)
  have HB5 := Lib.hid (HB4.out.trans (HRR.out.mono HB4.out.size))
  have HBQ5 := Lib.hid (HBQ4.out.below HRR.out)
  have HCK5 := Lib.hid ((HCK4.out.below HRR.out).mono HRR.out.size)
  have HCD5 := Lib.hid ((HCD4.out.below HRR.out).mono HRR.out.size)
  clear HW5 HRR HX4 HB4 HBQ4 HCK4 HCD4
  have HSM := Lib.hid (same_eq b1x (some ⟨C, 0, none⟩) A 1 c w5 HCK5.out (Nat.le_refl _) HCD5.out HCC.out (fun x hx => by
    have := b1_fine.labs x hx
    omega) (by have := b1_fine.few; omega))
  rw [← HV.out, ← HU.out] at HSM
  have h20 : F7.size = 20 := HS7.out
  have h08 := HH7.out
  go_wp2_with (first | (refine wpList_load_atG rfl 24 (.tmp 3) rfl Bq rfl 24 V _ HBQ5.out Try.underlying24 rfl (by rw [hvs]; exact size_blk) ?_) | (refine wpList_load_atG rfl 24 (.tmp 6) rfl w4.heap.size rfl 24 U _ HX5.out Try.underlying24 rfl (by rw [hus]; exact size_blk) ?_))
  refine HSM.out.mono ?_
  rintro e w6 ⟨rfl, hb⟩
  have HB6 := Lib.hid (HB5.out.trans (hb.mono HB5.out.size))
  clear hb
  go_wp2_with fail
  go_ret
  exact ⟨rfl, HB6.out⟩
end Go.Proofs.Ytoojpfcnekpboaa

namespace Go.Proofs.Ytoojpfcnekpboaa
open Go.RowKit Go.Shelf

def S4 (Y : Nat) (b : Blk) (A : Option Addr) (c : Nat) (w w' : World) : Prop := w'.cell? ⟨Y, 0, none⟩ = some (.int .i64 b.id) ∧ w'.cell? ⟨Y, 1, none⟩ = some (.int .i64 b.width) ∧ w'.cell? ⟨Y, 2, none⟩ = some (.int .i64 b.fr) ∧ w'.cell? ⟨Y, 3, none⟩ = some (.slice A b.chunks.length c) ∧ Y < w'.heap.size ∧ Below Y w w'
theorem S4.keep {Y : Nat} {b : Blk} {A : Option Addr} {c : Nat} {w W' W2 : World} (h : S4 Y b A c w W') (hb : Below W'.heap.size W' W2) : S4 Y b A c w W2 := by
  obtain ⟨h0, h1, h2, h3, h4, h5⟩ := h
  have hs := hb.size
  exact ⟨(hb.cell (p := ⟨Y, 0, none⟩) h4).trans h0, (hb.cell (p := ⟨Y, 1, none⟩) h4).trans h1, (hb.cell (p := ⟨Y, 2, none⟩) h4).trans h2, (hb.cell (p := ⟨Y, 3, none⟩) h4).trans h3, by omega, h5.trans (hb.mono (by omega))⟩
set_option maxRecDepth 100000 in
set_option maxHeartbeats 2000000 in
theorem lawEncode_any (b : Blk) (A : Option Addr) (c : Nat) (w : World) (hl : ChksIn w.heap.size w A b.chunks) (hc : b.chunks.length ≤ c) (hn : ∀ x ∈ b.chunks, x.labs.length ≤ 9223372036854775807 ∧ ∀ y ∈ x.labs, y.name.size ≤ 140737488351232) (hz : ∀ x ∈ b.chunks, ZW x.zone) (hm : b.chunks.length ≤ 9223372036854775807) :
    Calls Try.prog 3 #[.agg (blC b A c)] w fun e w' => e = .returned (.bool true) ∧ Below w.heap.size w w' := by
  have hat := At.new w (blC b A c) 24
  have hb0 : Below w.heap.size w (w.alloc (.cells (blC b A c) 24)) := (Below.refl _ _).alloc (Nat.le_refl _) _
  have HB := Lib.hid hb0
  have HAT := Lib.hid hat
  have HG := Lib.hid (fun (W : World) (h : Below w.heap.size w W) => greatB_any b A c W ((hl.below h).mono h.size) hc (fun x hx => (hn x hx).1) hm)
  have HCK := Lib.hid (fun (W : World) (h : Below w.heap.size w W) => check_any b A c W ((hl.below h).mono h.size) hc (fun x hx => (hn x hx).1))
  have HCR := Lib.hid (fun (W : World) (h : Below w.heap.size w W) => checkR_any b A c W ((hl.below h).mono h.size) hc hn)
  have HEN := Lib.hid (fun (hf : Fine b) (W : World) (h : Below w.heap.size w W) => encode_any b A c W ((hl.below h).mono h.size) hc hf.mid)
  have HER := Lib.hid (fun (hf : Fine b) (W : World) (h : Below w.heap.size w W) => encodeR_any b A c W ((hl.below h).mono h.size) hc hf)
  have HFI := Lib.hid (fun (h : bgreat b = false) => Fine.of h hz)
  obtain ⟨V, hV⟩ : ∃ V, V = blC b A c := ⟨_, rfl⟩
  have HV := Lib.hid hV
  rw [← hV] at HAT HB HG HEN HER HCK HCR
  rw [← hV]
  have hvs : V.size = 4 := by rw [hV]; rfl
  clear hat hb0 hl hc hn hz hm hV
  go_enter Try.func3, Try.ntmps3
  go_upto_region 1 with fail
  generalize w.alloc (.cells V 24) = w0 at *
  go_wp2_with (refine wpList_load_row rfl 24 (.tmp 1) rfl w.heap.size rfl 24 V (0, 0) _ HAT.out.out Try.underlying24 rfl (by rw [hvs]; exact size_blk) ?_)
  refine (HG.out w0 HB.out).mono ?_
  rintro e w1 ⟨rfl, hb⟩
  replace HAT := Lib.hid (HAT.out.below hb)
  replace HB := Lib.hid (HB.out.trans (hb.mono HB.out.size))
  clear hb HG
  by_cases hg : bgreat b = true
  · rw [hg]
    clear hg HEN HER HCK HCR HFI
    go_wp2_with fail
    refine (awake_any w1).mono ?_
    rintro e w2 ⟨rfl, hb⟩
    have HB2 := Lib.hid (HB.out.trans (hb.mono HB.out.size))
    clear hb
    go_wp2_with fail
    go_ret
    exact ⟨rfl, HB2.out⟩
  · have hg2 : bgreat b = false := by simpa using hg
    have hf := HFI.out hg2
    have HEN2 := Lib.hid (HEN.out hf)
    have HER2 := Lib.hid (HER.out hf)
    rw [hg2]
    clear hg hg2 hf HEN HER HFI
    obtain ⟨⟨F, er⟩, hE⟩ : ∃ p, encB b = p := ⟨_, rfl⟩
    rw [hE] at HEN2 HER2
    clear hE
    simp only [pairV] at HEN2 HER2
    go_wp2_with (refine wpList_load_row rfl 24 (.tmp 1) rfl w.heap.size rfl 24 V (0, 0) _ HAT.out.out Try.underlying24 rfl (by rw [hvs]; exact size_blk) ?_)
    refine (HEN2.out w1 HB.out).mono ?_
    rintro e w2 ⟨rfl, hb⟩
    replace HAT := Lib.hid (HAT.out.below hb)
    replace HB := Lib.hid (HB.out.trans (hb.mono HB.out.size))
    clear hb HEN2
    go_wp2_with (refine wpList_load_row rfl 24 (.tmp 1) rfl w.heap.size rfl 24 V (0, 0) _ HAT.out.out Try.underlying24 rfl (by rw [hvs]; exact size_blk) ?_)
    refine (HER2.out w2 HB.out).mono ?_
    rintro e w3 ⟨rfl, hb⟩
    replace HAT := Lib.hid (HAT.out.below hb)
    replace HB := Lib.hid (HB.out.trans (hb.mono HB.out.size))
    clear hb HER2
    rw [HV.out] at HAT HCK HCR
    have HCK2 : Hid (∀ W, S4 w.heap.size b A c w W → Calls Try.prog 11 #[.agg (blC b A c)] W fun e w' => e = .returned (.int .i64 (bchk b)) ∧ S4 w.heap.size b A c w w' ∧ Below W.heap.size W w') := Lib.hid fun W h => (HCK.out W h.2.2.2.2.2).mono fun e w' ⟨a1, a2⟩ => ⟨a1, h.keep a2, a2⟩
    have HCR2 : Hid (∀ W, S4 w.heap.size b A c w W → Calls Try.prog 12 #[.agg (blC b A c)] W fun e w' => e = .returned (.int .i64 (bchk b)) ∧ S4 w.heap.size b A c w w' ∧ Below W.heap.size W w') := Lib.hid fun W h => (HCR.out W h.2.2.2.2.2).mono fun e w' ⟨a1, a2⟩ => ⟨a1, h.keep a2, a2⟩
    have HAW : Hid (∀ W, S4 w.heap.size b A c w W → Calls Try.prog 8 #[] W fun e w' => e = .returned (.bool true) ∧ S4 w.heap.size b A c w w' ∧ Below W.heap.size W w') := Lib.hid fun W h => (awake_any W).mono fun e w' ⟨a1, a2⟩ => ⟨a1, h.keep a2, a2⟩
    have HI : Hid (S4 w.heap.size b A c w w3.drew) := Lib.hid ⟨HAT.out.cell 0, HAT.out.cell 1, HAT.out.cell 2, HAT.out.cell 3, HAT.out.lt, below_drew HB.out⟩
    unfold S4 at HCK2 HCR2 HAW HI
    unfold blC at HCK2 HCR2
    generalize bchk b = k at *
    clear HCK HCR
    go_wp2_with fail
    go_region_held3 (fun w' => w'.cell? ⟨w.heap.size, 0, none⟩ = some (.int .i64 b.id) ∧ w'.cell? ⟨w.heap.size, 1, none⟩ = some (.int .i64 b.width) ∧ w'.cell? ⟨w.heap.size, 2, none⟩ = some (.int .i64 b.fr) ∧ w'.cell? ⟨w.heap.size, 3, none⟩ = some (.slice A b.chunks.length c) ∧ w.heap.size < w'.heap.size ∧ Below w.heap.size w w') ((first | assumption | exact HI.out | go_keep))
      (first | (go_at_call 11; refine (HCK2.out _ (by assumption)).mono ?_; rintro e w' ⟨rfl, hs4, hb⟩) | (go_at_call 12; refine (HCR2.out _ (by assumption)).mono ?_; rintro e w' ⟨rfl, hs4, hb⟩) | (go_at_call 8; refine (HAW.out _ (by assumption)).mono ?_; rintro e w' ⟨rfl, hs4, hb⟩))
    go_wp2_with fail
    go_ret
    exact ⟨rfl, (‹_ ∧ _ ∧ _ ∧ _ ∧ _ ∧ Below w.heap.size w _›).2.2.2.2.2⟩
end Go.Proofs.Ytoojpfcnekpboaa
