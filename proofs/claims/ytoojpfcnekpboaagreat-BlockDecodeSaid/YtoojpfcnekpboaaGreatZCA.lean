/- Walks: awake of the block's laws. Walks: the law BlockDecode. -/
import Derived.Test.YtoojpfcnekpboaaGreatZBP
import Derived.Test.YtoojpfcnekpboaaGreatZBX
import Derived.Test.YtoojpfcnekpboaaGreatZBZ
namespace Go.Proofs.YtoojpfcnekpboaaGreat
open Go.RowKit Go.Shelf

def b7 : Blk := ⟨7, 0, 0, []⟩
def labAX : Lab := ⟨⟨#[97]⟩, ⟨#[120]⟩⟩
def b1x : Blk := ⟨1, 0, 0, [⟨1, [labAX], Zn.zero, ⟨#[100, 97, 116, 97]⟩⟩]⟩
theorem b7_chk : bchk b7 = 0 := by decide +kernel
theorem b1_chk : bchk b1x = 0 := by decide +kernel
theorem zero_zw : ZW Zn.zero := fun i hi => by
  have : i = 0 ∨ i = 1 ∨ i = 2 ∨ i = 3 ∨ i = 4 ∨ i = 5 ∨ i = 6 ∨ i = 7 := by omega
  rcases this with rfl | rfl | rfl | rfl | rfl | rfl | rfl | rfl <;> decide
theorem b7_fine : Fine b7 := Fine.of (by decide +kernel) (fun x hx => by cases hx)
theorem b1_fine : Fine b1x := Fine.of (by decide +kernel) (fun x hx => by
  rcases List.mem_cons.1 hx with rfl | hx
  · exact zero_zw
  · cases hx)
theorem enc7 : pairV (encB b7) = .tuple #[.string (str (fileB b7)), .int .i64 0] := by unfold encB; rw [if_pos b7_chk]; rfl
theorem enc1 : pairV (encB b1x) = .tuple #[.string (str (fileB b1x)), .int .i64 0] := by unfold encB; rw [if_pos b1_chk]; rfl
theorem file7_size : (str (fileB b7)).size = 20 := by
  rw [str_size]
  unfold fileB
  rw [List.length_append, List.length_append, sealB_len, sealB_len]
  rfl
theorem file7_head : (str (fileB b7)).extract 0 8 = ⟨#[76, 75, 66, 49, 7, 0, 0, 0]⟩ := by
  refine bs_inj ?_
  rw [bs_ext, List.drop_zero, bs_str]
  have e : fileB b7 = [76, 75, 66, 49, 7, 0, 0, 0] ++ (Crc.ending (Crc.sum (bdir b7)) ++ sealB (four4 (sealB (bdir b7)).length)) := by
    unfold fileB
    rw [show datB b7 = [] from rfl, List.nil_append]
    unfold sealB
    rw [List.append_assoc]
    rfl
  rw [e]
  exact List.take_left (l₁ := [76, 75, 66, 49, 7, 0, 0, 0])
theorem awake_world (w1 : World) : At (((w1.alloc (.cells labAX.cells 66)).alloc (.cells (chC 1 (some ⟨w1.heap.size, 0, none⟩) 1 1 Zn.zero ⟨#[100, 97, 116, 97]⟩) 58)).alloc (.cells (blC b1x (some ⟨w1.heap.size + 1, 0, none⟩) 1) 25)) (w1.heap.size + 1 + 1) (blC b1x (some ⟨w1.heap.size + 1, 0, none⟩) 1) 25 ∧
    ChksIn (((w1.alloc (.cells labAX.cells 66)).alloc (.cells (chC 1 (some ⟨w1.heap.size, 0, none⟩) 1 1 Zn.zero ⟨#[100, 97, 116, 97]⟩) 58)).alloc (.cells (blC b1x (some ⟨w1.heap.size + 1, 0, none⟩) 1) 25)).heap.size (((w1.alloc (.cells labAX.cells 66)).alloc (.cells (chC 1 (some ⟨w1.heap.size, 0, none⟩) 1 1 Zn.zero ⟨#[100, 97, 116, 97]⟩) 58)).alloc (.cells (blC b1x (some ⟨w1.heap.size + 1, 0, none⟩) 1) 25)) (some ⟨w1.heap.size + 1, 0, none⟩) b1x.chunks := by
  have a0 := At.new w1 labAX.cells 66
  have a1 := At.new (w1.alloc (.cells labAX.cells 66)) (chC 1 (some ⟨w1.heap.size, 0, none⟩) 1 1 Zn.zero ⟨#[100, 97, 116, 97]⟩) 58
  have a2 := At.new ((w1.alloc (.cells labAX.cells 66)).alloc (.cells (chC 1 (some ⟨w1.heap.size, 0, none⟩) 1 1 Zn.zero ⟨#[100, 97, 116, 97]⟩) 58)) (blC b1x (some ⟨w1.heap.size + 1, 0, none⟩) 1) 25
  have z1 : (w1.alloc (.cells labAX.cells 66)).heap.size = w1.heap.size + 1 := by simp
  have z2 : ((w1.alloc (.cells labAX.cells 66)).alloc (.cells (chC 1 (some ⟨w1.heap.size, 0, none⟩) 1 1 Zn.zero ⟨#[100, 97, 116, 97]⟩) 58)).heap.size = w1.heap.size + 1 + 1 := by simp
  rw [z1] at a1
  rw [z2] at a2
  have b0 := (a0.alloc (.cells (chC 1 (some ⟨w1.heap.size, 0, none⟩) 1 1 Zn.zero ⟨#[100, 97, 116, 97]⟩) 58)).alloc (.cells (blC b1x (some ⟨w1.heap.size + 1, 0, none⟩) 1) 25)
  have b1 := a1.alloc (.cells (blC b1x (some ⟨w1.heap.size + 1, 0, none⟩) 1) 25)
  refine ⟨a2, ?_⟩
  generalize ((w1.alloc (.cells labAX.cells 66)).alloc (.cells (chC 1 (some ⟨w1.heap.size, 0, none⟩) 1 1 Zn.zero ⟨#[100, 97, 116, 97]⟩) 58)).alloc (.cells (blC b1x (some ⟨w1.heap.size + 1, 0, none⟩) 1) 25) = w2 at *
  refine ⟨[chC 1 (some ⟨w1.heap.size, 0, none⟩) 1 1 Zn.zero ⟨#[100, 97, 116, 97]⟩], rfl, fun k hk => ?_, fun k h1 h2 => ?_⟩
  · have hk0 : k = 0 := by simp at hk; omega
    subst hk0
    refine ⟨w1.heap.size + 1, 0, rfl, b1.lt, fun j _ => ?_⟩
    simp only [Nat.zero_mul, Nat.zero_add]
    rw [b1.cell]
    rfl
  · have hk0 : k = 0 := by simp at h1; omega
    subst hk0
    refine ⟨some ⟨w1.heap.size, 0, none⟩, 1, rfl, fun i hi => ?_, Nat.le_refl _⟩
    have hi0 : i = 0 := by
      have : i < 1 := hi
      omega
    subst hi0
    refine ⟨w1.heap.size, 0, rfl, b0.lt, fun j _ => ?_⟩
    simp only [Nat.zero_mul, Nat.zero_add]
    rw [b0.cell]
    rfl
set_option maxRecDepth 100000 in
set_option maxHeartbeats 2000000 in
theorem awake_any (w : World) : Calls Tryz.prog 7 #[] w fun e w' => e = .returned (.bool true) ∧ Below w.heap.size w w' := by
  have HE7 := Lib.hid (encode_any b7 none 0 w (ChksIn.nil _ _ _) (Nat.le_refl _) b7_fine.mid)
  rw [enc7] at HE7
  have hs7 := file7_size
  have hh7 := file7_head
  obtain ⟨F7, hF7⟩ : ∃ F, str (fileB b7) = F := ⟨_, rfl⟩
  rw [hF7] at HE7 hs7 hh7
  have HS7 := Lib.hid hs7
  have HH7 := Lib.hid hh7
  clear hF7 hs7 hh7
  go_enter Tryz.func7, Tryz.ntmps7
  go_wp2_with fail
  refine HE7.out.mono ?_
  rintro e w1 ⟨rfl, hb⟩
  have HB1 := Lib.hid hb
  clear hb HE7
  go_upto_region 3 with fail
  change Code.wp _ _ _ _ (((w1.alloc (.cells labAX.cells 66)).alloc (.cells (chC 1 (some ⟨w1.heap.size, 0, none⟩) 1 1 Zn.zero ⟨#[100, 97, 116, 97]⟩) 58)).alloc (.cells (blC b1x (some ⟨w1.heap.size + 1, 0, none⟩) 1) 25))
  have HW2 := Lib.hid (awake_world w1)
  have HB2 : Hid (Below w.heap.size w (((w1.alloc (.cells labAX.cells 66)).alloc (.cells (chC 1 (some ⟨w1.heap.size, 0, none⟩) 1 1 Zn.zero ⟨#[100, 97, 116, 97]⟩) 58)).alloc (.cells (blC b1x (some ⟨w1.heap.size + 1, 0, none⟩) 1) 25))) := Lib.hid (HB1.out.trans (((((Below.refl _ _).alloc (Nat.le_refl _) _).alloc (by simp) _).alloc (by simp; omega) _).mono HB1.out.size))
  generalize ((w1.alloc (.cells labAX.cells 66)).alloc (.cells (chC 1 (some ⟨w1.heap.size, 0, none⟩) 1 1 Zn.zero ⟨#[100, 97, 116, 97]⟩) 58)).alloc (.cells (blC b1x (some ⟨w1.heap.size + 1, 0, none⟩) 1) 25) = w2 at *
  obtain ⟨Bq, hBq⟩ : ∃ q, w1.heap.size + 1 + 1 = q := ⟨_, rfl⟩
  obtain ⟨C, hC⟩ : ∃ q, w1.heap.size + 1 = q := ⟨_, rfl⟩
  rw [hBq, hC] at HW2
  rw [hBq, hC]
  clear hBq hC
  have HCK := Lib.hid HW2.out.2
  have HBQ := Lib.hid HW2.out.1
  obtain ⟨V, hV⟩ : ∃ V, V = blC b1x (some ⟨C, 0, none⟩) 1 := ⟨_, rfl⟩
  rw [← hV] at HBQ
  have hvs : V.size = 4 := by rw [hV]; rfl
  have HE1 := Lib.hid (encode_any b1x (some ⟨C, 0, none⟩) 1 w2 HCK.out (Nat.le_refl _) b1_fine.mid)
  rw [enc1, ← hV] at HE1
  have HV := Lib.hid hV
  obtain ⟨F1, hF1⟩ : ∃ F, str (fileB b1x) = F := ⟨_, rfl⟩
  rw [hF1] at HE1
  have HF1 : Hid (bs F1 = fileB b1x) := Lib.hid (by rw [← hF1]; rfl)
  clear hV hF1 HW2
  go_wp2_with (refine wpList_load_row rfl 25 (.tmp 3) rfl Bq rfl 25 V (0, 0) _ HBQ.out.out Tryz.underlying25 rfl (by rw [hvs]; exact size_blk) ?_)
  refine HE1.out.mono ?_
  rintro e w3 ⟨rfl, hb⟩
  have HB3 := Lib.hid (HB2.out.trans (hb.mono HB2.out.size))
  have HBQ3 := Lib.hid (HBQ.out.below hb)
  have HCK3 := Lib.hid ((HCK.out.below hb).mono hb.size)
  have HDF := Lib.hid (dec_file b1x b1_chk b1_fine F1 HF1.out)
  have HSF : Hid (F1.size ≤ 100000) := Lib.hid (by
    have h1 := congrArg List.length HF1.out
    rw [bs_length] at h1
    have := b1_fine.file
    omega)
  clear hb HE1 HB2 HBQ HCK
  go_wp2_with fail
  refine (decode_any F1 w3 HSF.out).mono ?_
  unfold DPost
  rw [HDF.out.1, HDF.out.2]
  rintro e w4 ⟨hb, A, c, rfl, hck, hcc⟩
  have HB4 := Lib.hid (HB3.out.trans (hb.mono HB3.out.size))
  have HBQ4 := Lib.hid (HBQ3.out.below hb)
  have HCK4 := Lib.hid ((HCK3.out.below hb).mono hb.size)
  have HCD4 := Lib.hid hck
  have HCC := Lib.hid hcc
  obtain ⟨U, hU⟩ : ∃ U, U = blC b1x A c := ⟨_, rfl⟩
  rw [← hU]
  have hus : U.size = 4 := by rw [hU]; rfl
  have HU1 : Hid ((U.all fun v => v.oneCell') = true) := Lib.hid (by rw [hU]; exact blC_one _ _ _)
  have HU := Lib.hid hU
  have HX4 := Lib.hid (At.new w4 #[.int .i64 0, .int .i64 0, .int .i64 0, .slice none 0 0] 25)
  clear hb hck hcc hU HB3 HBQ3 HCK3
  go_wp2_with (refine wpList_store_at rfl 25 (.tmp 6) (.tmp 26) rfl w4.heap.size U rfl rfl 25 _ HX4.out (by rw [hus]; exact size_blk) hus.symm HU1.out ?_)
  intro w5 HW5
  have HRR : Hid (Below w4.heap.size w4 w5) := Lib.hid (by rw [HW5.out]; exact below_row ((Below.refl _ _).alloc (Nat.le_refl _) _) _ _ (Nat.le_refl _))
  have HX5 : Hid (At w5 w4.heap.size U 25) := Lib.hid (by rw [HW5.out]; exact HX4.out.row)
  have HB5 := Lib.hid (HB4.out.trans (HRR.out.mono HB4.out.size))
  have HBQ5 := Lib.hid (HBQ4.out.below HRR.out)
  have HCK5 := Lib.hid ((HCK4.out.below HRR.out).mono HRR.out.size)
  have HCD5 := Lib.hid ((HCD4.out.below HRR.out).mono HRR.out.size)
  clear HW5 HRR HX4 HB4 HBQ4 HCK4 HCD4
  have HSM := Lib.hid (same_eq b1x (some ⟨C, 0, none⟩) A 1 c w5 HCK5.out (Nat.le_refl _) HCD5.out HCC.out (fun x hx => by
    have := b1_fine.labs x hx
    omega) (by have := b1_fine.few; omega))
  rw [← HV.out, ← HU.out] at HSM
  have h20 : F7.size = 20 := HS7.out
  have h08 := HH7.out
  go_wp2_with (first | (refine wpList_load_atG rfl 25 (.tmp 3) rfl Bq rfl 25 V _ HBQ5.out Tryz.underlying25 rfl (by rw [hvs]; exact size_blk) ?_) | (refine wpList_load_atG rfl 25 (.tmp 6) rfl w4.heap.size rfl 25 U _ HX5.out Tryz.underlying25 rfl (by rw [hus]; exact size_blk) ?_))
  refine HSM.out.mono ?_
  rintro e w6 ⟨rfl, hb⟩
  have HB6 := Lib.hid (HB5.out.trans (hb.mono HB5.out.size))
  clear hb
  go_wp2_with fail
  go_ret
  exact ⟨rfl, HB6.out⟩
end Go.Proofs.YtoojpfcnekpboaaGreat

namespace Go.Proofs.YtoojpfcnekpboaaGreat
open Go.RowKit Go.Shelf

theorem itms_nil (B : Nat) (w : World) : ItmsIn B w none [] := ⟨[], rfl, RdIn.nil _ _ _ _, fun k h => absurd h (by simp)⟩
theorem opR_labsI (s : ByteArray) (hs : s.size ≤ 1000000) : ∀ x ∈ (opR s).items, x.labs.length ≤ 9223372036854775807 := by
  have h : opR s = rBlk ⟨CR.body (dirS s), false⟩ := by unfold opR; rfl
  have hd : (CR.body (dirS s)).size ≤ 1000000 := by
    rw [CR.body_size]
    unfold dirS
    rw [ByteArray.size_extract]
    omega
  have h3 := opR_labs s _ h hd
  clear h
  generalize opR s = R at *
  intro x hx
  exact h3 (chkOf x) (List.mem_map_of_mem hx)
theorem decR_labs (s : ByteArray) (hs : s.size ≤ 1000000) : (∀ x ∈ (decR s).chunks, x.labs.length ≤ 9223372036854775807) ∧ (decR s).chunks.length ≤ 4001 := by
  by_cases h : decE s = 0
  · have hl := opR_len s
    have hi := opR_labsI s hs
    have hg := decR_good s h
    generalize opR s = R at *
    generalize decR s = D at *
    subst hg
    refine ⟨fun x hx => ?_, by simp only [List.length_map]; exact hl⟩
    obtain ⟨y, hy, rfl⟩ := List.mem_map.1 hx
    exact hi y hy
  · have hg := decR_bad h
    generalize decR s = D at *
    subst hg
    exact ⟨fun x hx => by simp at hx, by simp⟩
set_option maxRecDepth 100000 in
set_option maxHeartbeats 4000000 in
theorem lawDecode_any (s : ByteArray) (hs : s.size ≤ 140737488351232) (w : World) :
    Calls Tryz.prog 3 #[.string s] w fun e w' => e = .returned (.bool true) ∧ Below w.heap.size w w' := by
  have hsi : (s.size : Int) ≤ 140737488351232 := by omega
  clear hs
  go_enter Tryz.func3, Tryz.ntmps3
  by_cases h3 : 3000 < (s.size : Int)
  · go_wp2_with fail
    refine (awake_any w).mono ?_
    rintro e w2 ⟨rfl, hb⟩
    have HB2 := Lib.hid hb
    clear hb
    go_wp2_with fail
    go_ret
    exact ⟨rfl, HB2.out⟩
  have HX : Hid (s.size ≤ 100000) := Lib.hid (by omega)
  have HLC := Lib.hid (decR_labs s (by omega))
  have HLI := Lib.hid (opR_labsI s (by omega))
  have HLE := Lib.hid (opR_len s)
  have HSM := Lib.hid (fun (A A' : Option Addr) (c c' : Nat) (W : World) (hl : ChksIn W.heap.size W A (decR s).chunks) (hc : (decR s).chunks.length ≤ c) (hl' : ChksIn W.heap.size W A' (decR s).chunks) (hc' : (decR s).chunks.length ≤ c') => same_eq (decR s) A A' c c' W hl hc hl' hc' HLC.out.1 HLC.out.2)
  have HD1 := Lib.hid (fun W => decode_any s W HX.out)
  have HD2 := Lib.hid (fun W => decodeR_any s W HX.out)
  unfold DPost at HD1 HD2
  obtain ⟨b, hb⟩ : ∃ b, decR s = b := ⟨_, rfl⟩
  obtain ⟨er, her⟩ : ∃ er, decE s = er := ⟨_, rfl⟩
  rw [hb] at HSM HD1 HD2
  rw [her] at HD1 HD2
  clear hb her HLC
  go_wp2_with fail
  refine (HD1.out w).mono ?_
  rintro e w1 ⟨hb, A1, c1, rfl, hck, hcc⟩
  have HB := Lib.hid hb
  have HK1 := Lib.hid hck
  have HC1 := Lib.hid hcc
  obtain ⟨U, hU⟩ : ∃ U, U = blC b A1 c1 := ⟨_, rfl⟩
  rw [← hU]
  have hus : U.size = 4 := by rw [hU]; rfl
  have HU1 : Hid ((U.all fun v => v.oneCell') = true) := Lib.hid (by rw [hU]; exact blC_one _ _ _)
  have HU := Lib.hid hU
  have HN1 := Lib.hid (At.new w1 zB 25)
  clear hb hck hcc hU
  go_wp2_with (refine wpList_store_at rfl 25 (.tmp 3) (.tmp 22) rfl w1.heap.size U rfl rfl 25 zB HN1.out (by rw [hus]; exact size_blk) (by rw [hus]; rfl) HU1.out ?_)
  intro w2 HW2
  have HRR : Hid (Below w1.heap.size w1 w2) := Lib.hid (by rw [HW2.out]; exact below_row ((Below.refl _ _).alloc (Nat.le_refl _) _) _ _ (Nat.le_refl _))
  have HA1 : Hid (At w2 w1.heap.size U 25) := Lib.hid (by rw [HW2.out]; exact HN1.out.row)
  replace HK1 := Lib.hid ((HK1.out.below HRR.out).mono HRR.out.size)
  replace HB := Lib.hid (HB.out.trans (HRR.out.mono HB.out.size))
  clear HW2 HRR HN1
  generalize w1.heap.size = B1 at *
  go_wp2_with fail
  refine (HD2.out w2).mono ?_
  rintro e w3 ⟨hb, A2, c2, rfl, hck, hcc⟩
  have HK2 := Lib.hid hck
  have HC2 := Lib.hid hcc
  replace HK1 := Lib.hid ((HK1.out.below hb).mono hb.size)
  replace HA1 := Lib.hid (HA1.out.below hb)
  replace HB := Lib.hid (HB.out.trans (hb.mono HB.out.size))
  obtain ⟨V, hV⟩ : ∃ V, V = blC b A2 c2 := ⟨_, rfl⟩
  rw [← hV]
  have hvs : V.size = 4 := by rw [hV]; rfl
  have HV1 : Hid ((V.all fun v => v.oneCell') = true) := Lib.hid (by rw [hV]; exact blC_one _ _ _)
  have HV := Lib.hid hV
  have HN2 := Lib.hid (At.new w3 zB 25)
  clear hb hck hcc hV
  go_wp2_with (refine wpList_store_at rfl 25 (.tmp 5) (.tmp 27) rfl w3.heap.size V rfl rfl 25 zB HN2.out (by rw [hvs]; exact size_blk) (by rw [hvs]; rfl) HV1.out ?_)
  intro w4 HW4
  have HRR : Hid (Below w3.heap.size w3 w4) := Lib.hid (by rw [HW4.out]; exact below_row ((Below.refl _ _).alloc (Nat.le_refl _) _) _ _ (Nat.le_refl _))
  have HA2 : Hid (At w4 w3.heap.size V 25) := Lib.hid (by rw [HW4.out]; exact HN2.out.row)
  replace HK1 := Lib.hid ((HK1.out.below (HRR.out)).mono HRR.out.size)
  replace HK2 := Lib.hid ((HK2.out.below HRR.out).mono HRR.out.size)
  replace HA1 := Lib.hid (HA1.out.below HRR.out)
  replace HB := Lib.hid (HB.out.trans (HRR.out.mono HB.out.size))
  clear HW4 HRR HN2 HD1 HD2
  generalize w3.heap.size = B2 at *
  have HSM2 := Lib.hid (fun (W : World) (h : Below w4.heap.size w4 W) => HSM.out A1 A2 c1 c2 W ((HK1.out.below h).mono h.size) HC1.out ((HK2.out.below h).mono h.size) HC2.out)
  rw [← HU.out, ← HV.out] at HSM2
  have HE1 := Lib.hid (fun W => dirOf_any s W HX.out)
  have HE2 := Lib.hid (fun W => dirR_any s W HX.out)
  unfold DrPost at HE1 HE2
  obtain ⟨its, hits⟩ : ∃ its, (opR s).items = its := ⟨_, rfl⟩
  obtain ⟨v1, hv1⟩ : ∃ v, (opR s).id = v := ⟨_, rfl⟩
  obtain ⟨v2, hv2⟩ : ∃ v, (opR s).width = v := ⟨_, rfl⟩
  obtain ⟨eo, heo⟩ : ∃ v, opE s = v := ⟨_, rfl⟩
  rw [hits] at HLI HLE HE1 HE2
  rw [hv1, hv2, heo] at HE1 HE2
  clear hits hv1 hv2 heo HSM HK1 HK2
  go_wp2_with fail
  refine (HE1.out w4).mono ?_
  rintro e w5 ⟨hb1, hp1⟩
  rcases hp1 with ⟨hop, A3, c3, rfl, hI, hIc⟩ | ⟨hop, rfl⟩
  · have HI := Lib.hid hI
    have HOP := Lib.hid hop
    have HB1 := Lib.hid hb1
    clear hI hIc hop hb1
    go_wp2_with fail
    refine (HE2.out w5).mono ?_
    rintro e w6 ⟨hb2, ⟨_, A4, c4, rfl, hI2, hIc2⟩ | ⟨hne, rfl⟩⟩
    · have HI2 := Lib.hid hI2
      replace HI := Lib.hid (HI.out.kt (KT.below hb2) (KT.below hb2))
      have HB2 := Lib.hid (HB1.out.trans (hb2.mono HB1.out.size))
      replace HA1 := Lib.hid (HA1.out.below HB2.out)
      replace HA2 := Lib.hid (HA2.out.below HB2.out)
      have HSW := Lib.hid (HSM2.out w6 HB2.out)
      replace HB := Lib.hid (HB.out.trans (HB2.out.mono HB.out.size))
      have HSI := Lib.hid (fun (W : World) (h : Below w6.heap.size w6 W) => sameItems_eq its A3 A4 c3 c4 W ((HI.out.rd.below h).mono h.size) ((HI2.out.rd.below h).mono h.size) HLI.out HLE.out)
      clear hI2 hIc2 hb2 HE1 HE2 HSM2
      go_wp2_with (first | (refine wpList_load_row rfl 25 (.tmp 3) rfl B1 rfl 25 U (0, 0) _ HA1.out.out Tryz.underlying25 rfl (by rw [hus]; exact size_blk) ?_) | (refine wpList_load_row rfl 25 (.tmp 5) rfl B2 rfl 25 V (0, 0) _ HA2.out.out Tryz.underlying25 rfl (by rw [hvs]; exact size_blk) ?_))
      refine HSW.out.mono ?_
      rintro e w7 ⟨rfl, hb⟩
      have HB7 := Lib.hid (HB.out.trans (hb.mono HB.out.size))
      have HSJ := Lib.hid (HSI.out w7 hb)
      clear hb HSI HSW
      go_wp2_with fail
      refine HSJ.out.mono ?_
      rintro e w8 ⟨rfl, hb⟩
      have HB8 := Lib.hid (HB7.out.trans (hb.mono HB7.out.size))
      clear hb HSJ
      go_wp2_with fail
      refine (awake_any w8).mono ?_
      rintro e w9 ⟨rfl, hb⟩
      have HB9 := Lib.hid (HB8.out.trans (hb.mono HB8.out.size))
      clear hb
      go_wp2_with fail
      go_ret
      exact ⟨rfl, HB9.out⟩
    · exact absurd HOP.out hne
  · have HOP := Lib.hid hop
    have HB1 := Lib.hid hb1
    clear hop hb1
    go_wp2_with fail
    refine (HE2.out w5).mono ?_
    rintro e w6 ⟨hb2, ⟨h0, A4, c4, rfl, hI2, hIc2⟩ | ⟨hne, rfl⟩⟩
    · exact absurd h0 HOP.out
    · have HB2 := Lib.hid (HB1.out.trans (hb2.mono HB1.out.size))
      replace HA1 := Lib.hid (HA1.out.below HB2.out)
      replace HA2 := Lib.hid (HA2.out.below HB2.out)
      have HSW := Lib.hid (HSM2.out w6 HB2.out)
      replace HB := Lib.hid (HB.out.trans (HB2.out.mono HB.out.size))
      clear hb2 HE1 HE2 HSM2 hne
      go_wp2_with (first | (refine wpList_load_row rfl 25 (.tmp 3) rfl B1 rfl 25 U (0, 0) _ HA1.out.out Tryz.underlying25 rfl (by rw [hus]; exact size_blk) ?_) | (refine wpList_load_row rfl 25 (.tmp 5) rfl B2 rfl 25 V (0, 0) _ HA2.out.out Tryz.underlying25 rfl (by rw [hvs]; exact size_blk) ?_))
      refine HSW.out.mono ?_
      rintro e w7 ⟨rfl, hb⟩
      have HB7 := Lib.hid (HB.out.trans (hb.mono HB.out.size))
      have HSJ := Lib.hid (sameItems_eq [] none none 0 0 w7 (itms_nil _ _) (itms_nil _ _) (fun x hx => by simp at hx) (by simp))
      clear hb HSW
      go_wp2_with fail
      refine HSJ.out.mono ?_
      rintro e w8 ⟨rfl, hb⟩
      have HB8 := Lib.hid (HB7.out.trans (hb.mono HB7.out.size))
      clear hb HSJ
      go_wp2_with fail
      refine (awake_any w8).mono ?_
      rintro e w9 ⟨rfl, hb⟩
      have HB9 := Lib.hid (HB8.out.trans (hb.mono HB8.out.size))
      clear hb
      go_wp2_with fail
      go_ret
      exact ⟨rfl, HB9.out⟩
theorem wkDecode (s : ByteArray) (w : World) (hs : s.size ≤ 140737488351232) : Calls Tryz.prog 3 #[.string s] w fun e w' => e = .returned (.bool true) ∧ Below w.heap.size w w' := lawDecode_any s hs w
end Go.Proofs.YtoojpfcnekpboaaGreat
