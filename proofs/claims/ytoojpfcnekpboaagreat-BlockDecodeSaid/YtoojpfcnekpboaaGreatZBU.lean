/- When the reference takes a directory, the program does, and the other way: plain Lean. The walk of the reference's Open, and of awake. Walks: the directory of a file (the reference's). -/
import Derived.Test.YtoojpfcnekpboaaGreatZBR
import Derived.Test.YtoojpfcnekpboaaGreatZBG
import Derived.Test.YtoojpfcnekpboaaGreatZAQ
import Derived.Test.YtoojpfcnekpboaaGreatZBT
namespace Go.Proofs.YtoojpfcnekpboaaGreat

theorem opE_zeroR (s : ByteArray) (h : opE s = 0) : 8 ≤ s.size ∧ CR.Whole (endS s) ∧ 4 ≤ szS s ∧ szS s ≤ s.size - 8 ∧ CR.Whole (dirS s) ∧ (opR s).st.bad = false ∧ (opR s).st.rest.size = 0 ∧ (opR s).total = ((s.size - 8 - szS s : Nat) : Int) ∧ bchk (opR s).blk = 0 := by
  unfold opE at h
  split at h
  · cases h
  rename_i h1
  split at h
  · rename_i h2
    split at h
    · cases h
    rename_i h3
    split at h
    · rename_i h4
      split at h
      · cases h
      rename_i h5
      refine ⟨by omega, h2, by omega, by omega, h4, ?_, ?_, ?_, ?_⟩
      · cases e : (opR s).st.bad with
        | false => rfl
        | true => exact absurd (.inl e) h5
      · by_cases e : (opR s).st.rest.size = 0
        · exact e
        · exact absurd (.inr (.inl e)) h5
      · by_cases e : (opR s).total = ((s.size - 8 - szS s : Nat) : Int)
        · exact e
        · exact absurd (.inr (.inr (.inl e))) h5
      · by_cases e : bchk (opR s).blk = 0
        · exact e
        · exact absurd (.inr (.inr (.inr e))) h5
    · cases h
  · cases h
theorem itsOk_all : ∀ (l : List Itm) (a : Int), ItsOk a l → ChainI a l ∧ ∀ x ∈ l, (4 ≤ x.size ∧ x.size ≤ 262148) ∧ chkL x.labs = 0 ∧ zchk x.zone = 0 ∧ ZW x.zone
  | [], _, _ => ⟨trivial, fun x hx => by simp at hx⟩
  | y :: r, a, h => by
    have h2 := itsOk_all r (a + y.size) h.2
    have h1 := h.1
    refine ⟨⟨h1.off, h2.1⟩, fun x hx => ?_⟩
    rcases List.mem_cons.1 hx with rfl | hx
    · exact ⟨h1.size, h1.labs, h1.zone, h1.word⟩
    · exact h2.2 x hx
theorem op_acc (s : ByteArray) (h : opE s = 0) : IAcc (CR.body (dirS s)) ((s.size - 8 - szS s : Nat) : Int) (opR s).id (opR s).width (opR s).fr (opR s).items := by
  obtain ⟨h1, h2, h3, h4, h5, h6, h7, h8, h9⟩ := opE_zeroR s h
  have er : rBlk ⟨CR.body (dirS s), false⟩ = opR s := by unfold opR; rfl
  have h6' : (rBlk ⟨CR.body (dirS s), false⟩).st.bad = false := by rw [er]; exact h6
  have k := rBlk_ok ⟨CR.body (dirS s), false⟩ h6'
  rw [er] at k
  generalize opR s = R at *
  obtain ⟨k1, k2, k3, k4, k5⟩ := k
  have kk := itsOk_all _ _ k4
  have e0 : bs R.st.rest = [] := List.length_eq_zero_iff.1 (by rw [bs_length]; exact h7)
  rw [e0, List.append_nil] at k5
  exact ⟨k5, kk.1, by rw [← k2]; exact h8, kk.2, h9⟩
theorem acc_op (s : ByteArray) (hs : s.size ≤ 1000000) (h1 : 8 ≤ s.size) (h2 : CR.Whole (endS s)) (h3 : 4 ≤ szS s) (h4 : szS s ≤ s.size - 8) (h5 : CR.Whole (dirS s)) {id width fr : Int} {l : List Itm}
    (h : IAcc (CR.body (dirS s)) ((s.size - 8 - szS s : Nat) : Int) id width fr l) : opE s = 0 ∧ (opR s).id = id ∧ (opR s).width = width ∧ (opR s).fr = fr ∧ (opR s).items = l := by
  have hb := bchk_zeroN h.chk
  obtain ⟨b1, b2, b3, b4, b5, b6, b7, _⟩ := hb
  simp only at b1 b2 b3 b4 b5 b6
  rw [List.length_map] at b7
  obtain ⟨s', q1, q2⟩ := rBlk_dir (CR.body (dirS s)) id width fr l ⟨by omega, b2⟩ ⟨b3, by omega⟩ ⟨b5, by omega⟩ b7 (h.itF (by omega)) h.chain h.dir
  have er : opR s = ⟨id, width, fr, l, sizes l, ⟨s', false⟩⟩ := by unfold opR; exact q1
  have e0 : s'.size = 0 := by rw [← bs_length, q2]; rfl
  refine ⟨?_, by rw [er], by rw [er], by rw [er], by rw [er]⟩
  unfold opE
  rw [if_neg (by omega), if_pos h2, if_neg (by omega), if_pos h5, if_neg]
  rw [er]
  rintro (c | c | c | c)
  · cases c
  · exact c e0
  · exact c h.tot
  · exact c h.chk
end Go.Proofs.YtoojpfcnekpboaaGreat

namespace Go.Proofs.YtoojpfcnekpboaaGreat.CR
open Go.RowKit Go.Proofs.YtoojpfcnekpboaaGreat.Crc

theorem body_tail (s : ByteArray) : bs s = bs (body s) ++ bs (tail4 s) := by
  unfold bs body tail4
  rw [ByteArray.data_extract, ByteArray.data_extract, Array.toList_extract, Array.toList_extract]
  rw [List.extract_eq_take_drop, List.extract_eq_take_drop, Nat.sub_zero, List.drop_zero]
  have h : (s.data.toList.drop (s.size - 4)).length ≤ s.size - (s.size - 4) := by
    rw [List.length_drop]; exact Nat.le_refl _
  rw [List.take_of_length_le h, List.take_append_drop]
theorem tail4_len (s : ByteArray) (h : 4 ≤ s.size) : (bs (tail4 s)).length = 4 := by
  rw [bs_length]; unfold tail4; rw [ByteArray.size_extract]; omega
theorem whole_iff (s : ByteArray) : Whole s ↔ str (bs (body s) ++ ending (sum (bs (body s)))) = s := by
  unfold Whole
  constructor
  · intro e
    have := body_tail s
    rw [e, bs_str] at this
    rw [← this]
    exact str_bs s
  · intro e
    have h1 := congrArg bs e
    rw [bs_str, body_tail s] at h1
    have h2 := List.append_cancel_left h1
    rw [h2]
    rfl

set_option maxHeartbeats 400000 in
theorem openR_short (s : ByteArray) (h4 : s.size < 4) (w : World) :
    Calls Tryz.prog 49 #[.string s] w fun e w' => e = .returned (.tuple #[.string ⟨#[]⟩, .int .i64 11]) ∧ Below w.heap.size w w' := by
  go_enter Tryz.func49, Tryz.ntmps49
  go_wp2_with fail
  go_ret2
  exact ⟨rfl, Below.refl _ _⟩

set_option maxHeartbeats 400000 in
theorem openR_good (s : ByteArray) (hs : s.size ≤ 100000) (h4 : 4 ≤ s.size) (hg : Whole s) (w : World) :
    Calls Tryz.prog 49 #[.string s] w fun e w' => e = .returned (.tuple #[.string (body s), .int .i64 0]) ∧ Below w.heap.size w w' := by
  have d1 := same ((whole_iff s).1 hg)
  have htl := body_size s
  have HC := fun W => Lib.hid (sealR_any (body s) (by omega) W)
  clear htl hg
  go_enter Tryz.func49, Tryz.ntmps49
  go_wp2_with fail
  have h0 : s.extract 0 (s.size - 4) = body s := rfl
  rw [h0]
  clear h0
  refine ((HC _).out).mono ?_
  rintro e w1 ⟨rfl, hb⟩
  go_wp2_with fail
  go_ret2
  exact ⟨rfl, hb⟩

set_option maxHeartbeats 400000 in
theorem openR_bad (s : ByteArray) (hs : s.size ≤ 100000) (h4 : 4 ≤ s.size) (hg : ¬ Whole s) (w : World) :
    Calls Tryz.prog 49 #[.string s] w fun e w' => e = .returned (.tuple #[.string ⟨#[]⟩, .int .i64 13]) ∧ Below w.heap.size w w' := by
  have d1 := differ (fun e => hg ((whole_iff s).2 e))
  have htl := body_size s
  have HC := fun W => Lib.hid (sealR_any (body s) (by omega) W)
  clear htl hg
  go_enter Tryz.func49, Tryz.ntmps49
  go_wp2_with fail
  have h0 : s.extract 0 (s.size - 4) = body s := rfl
  rw [h0]
  clear h0
  refine ((HC _).out).mono ?_
  rintro e w1 ⟨rfl, hb⟩
  go_wp2_with fail
  go_ret2
  exact ⟨rfl, hb⟩

end Go.Proofs.YtoojpfcnekpboaaGreat.CR

namespace Go.Proofs.YtoojpfcnekpboaaGreat
open Go.RowKit Go.Shelf

/-- What 'read' answers. -/
def QRPost (s : ByteArray) (w : World) (e : Ending) (w' : World) : Prop := Below w.heap.size w w' ∧
  ((opE s = 0 ∧ ∃ A c, e = .returned (.tuple #[.agg (blC ⟨(opR s).id, (opR s).width, (opR s).fr, []⟩ none 0), .slice A (opR s).items.length c, .int .i64 0]) ∧ ItmsT w' A (opR s).items ∧ (opR s).items.length ≤ c) ∨
   (opE s ≠ 0 ∧ e = .returned (.tuple #[.agg zB, .slice none 0 0, .int .i64 (opE s)])))
theorem opE_dir (s : ByteArray) (h1 : 8 ≤ s.size) (h2 : CR.Whole (endS s)) (h3 : 4 ≤ szS s) (h4 : szS s ≤ s.size - 8) (h5 : CR.Whole (dirS s)) (hn : opE s ≠ 0) : opE s = 12 := by
  unfold opE at hn ⊢
  rw [if_neg (by omega), if_pos h2, if_neg (by omega), if_pos h5] at hn ⊢
  split
  · rfl
  · rename_i h
    rw [if_neg h] at hn
    exact absurd rfl hn
set_option maxRecDepth 100000 in
set_option maxHeartbeats 4000000 in
theorem qread_any (s : ByteArray) (w : World) (hs : s.size ≤ 100000) :
    Calls Tryz.prog 35 #[.string s] w (QRPost s w) := by
  have A2 := Lib.hid (At.new w zB 25)
  have HB : Hid (Below w.heap.size w (w.alloc (.cells zB 25))) := Lib.hid ((Below.refl _ _).alloc (Nat.le_refl _) _)
  have HS := Lib.hid hs
  have HOE : Hid (8 ≤ s.size → CR.Whole (endS s) → 4 ≤ szS s → szS s ≤ s.size - 8 → CR.Whole (dirS s) → opE s ≠ 0 → opE s = 12) := Lib.hid (opE_dir s)
  have HO : Hid (opE s = if s.size < 8 then 11 else if CR.Whole (endS s) then (if szS s < 4 ∨ s.size - 8 < szS s then 11 else if CR.Whole (dirS s) then
      (if (opR s).st.bad = true ∨ (opR s).st.rest.size ≠ 0 ∨ (opR s).total ≠ ((s.size - 8 - szS s : Nat) : Int) ∨ bchk (opR s).blk ≠ 0 then 12 else 0) else 13) else 13) := Lib.hid rfl
  have hsl : (s.size : Int) ≤ 100000 := by omega
  clear hs
  go_enter Tryz.func35, Tryz.ntmps35
  go_upto_region 1 with fail
  change Code.wp _ _ _ _ (w.alloc (.cells zB 25))
  obtain ⟨B2, hB2⟩ : ∃ B, w.heap.size = B := ⟨_, rfl⟩
  rw [hB2] at A2
  have HO2 : Hid (w.heap.size ≤ B2) := Lib.hid (by omega)
  generalize w.alloc (.cells zB 25) = w0 at *
  have A5 := Lib.hid (At.new w0 zB 25)
  go_wp2_with (refine wpList_store_at rfl 25 (.tmp 5) (.tmp 14) rfl w0.heap.size zB rfl rfl 25 zB A5.out size_zB rfl zB_one ?_)
  intro w1 HW1
  have HRR : Hid (Below w0.heap.size w0 w1) := Lib.hid (by rw [HW1.out]; exact below_row ((Below.refl _ _).alloc (Nat.le_refl _) _) _ _ (Nat.le_refl _))
  have H5 : Hid (At w1 w0.heap.size zB 25) := Lib.hid (by rw [HW1.out]; exact A5.out.row)
  have H2 := Lib.hid (A2.out.below HRR.out)
  replace HB := Lib.hid (HB.out.trans (HRR.out.mono HB.out.size))
  clear HW1 HRR A5 A2
  obtain ⟨B5, hB5⟩ : ∃ B, w0.heap.size = B := ⟨_, rfl⟩
  rw [hB5] at H5
  rw [hB5]
  clear hB2 hB5
  by_cases h8 : s.size < 8
  · have HE : Hid (opE s = 11) := Lib.hid (by rw [HO.out, if_pos h8])
    have f1 : decide ((s.size : Int) < 8) = true := decide_eq_true (by omega)
    clear h8 HO
    go_wp2_with (first | (refine wpList_load_row rfl 25 (.tmp 5) rfl B5 rfl 25 zB (0, 0) _ H5.out.out Tryz.underlying25 rfl size_zB ?_) | (refine wpList_store_at rfl 25 (.tmp 2) (.tmp 18) rfl B2 zB rfl rfl 25 zB H2.out size_zB rfl zB_one ?_))
    intro w9 HW9
    have HA9 : Hid (At w9 B2 zB 25) := Lib.hid (by rw [HW9.out]; exact H2.out.row)
    have HB9 : Hid (Below w.heap.size w w9) := Lib.hid (by rw [HW9.out]; exact below_row HB.out _ _ HO2.out)
    go_wp2_with fail
    refine bodyPost_ret (results_row_tmp3 rfl _ _ B2 25 zB _ rfl HA9.out Tryz.underlying25 rfl size_zB) rfl ⟨HB9.out, .inr ⟨by rw [HE.out]; decide, by rw [HE.out]; rfl⟩⟩
  have H8 : Hid (8 ≤ s.size) := Lib.hid (by omega)
  have hes := endS_size h8
  have hbe := bend_size h8
  have HES := Lib.hid hes
  have HLT : Hid ((CR.body (endS s)).size = 4) := Lib.hid hbe
  have HSZ : Hid (szS s = le32 (bs (CR.body (endS s)))) := Lib.hid rfl
  obtain ⟨P, hP⟩ : ∃ P, s.size - 8 = P := ⟨_, rfl⟩
  have hPs : s.size = P + 8 := by omega
  have HEN : Hid (s.extract P s.size = endS s) := Lib.hid (by rw [← hP]; rfl)
  have HDR : Hid (∀ n, szS s = n → s.extract (P - n) P = dirS s) := Lib.hid (fun n h => by unfold dirS; rw [hP, h])
  rw [hP] at HO HOE
  have HPE := Lib.hid hP
  have f1 : decide ((s.size : Int) < 8) = false := decide_eq_false (by omega)
  have hsub : (s.size : Int) - 8 = (P : Int) := by omega
  have hpl : (P : Int) ≤ (s.size : Int) := by omega
  have HPS := Lib.hid hPs
  clear h8 hP hes hbe hPs
  go_upto_region 5 with fail
  clear hsub f1
  have hex := HEN.out
  by_cases hw1 : CR.Whole (endS s)
  · have HWE := Lib.hid hw1
    have HC1 := Lib.hid (CR.openR_good (endS s) (by rw [HES.out]; decide) (by rw [HES.out]; decide) hw1 w1)
    have HO1 := HO
    rw [if_neg (by have := HPS.out; omega), if_pos hw1] at HO1
    clear HO hw1
    go_wp2_with fail
    refine HC1.out.mono ?_
    rintro e w2 ⟨rfl, hb⟩
    replace H2 := Lib.hid (H2.out.below hb)
    replace H5 := Lib.hid (H5.out.below hb)
    replace HB := Lib.hid (HB.out.trans (hb.mono HB.out.size))
    clear hb HC1 hex
    obtain ⟨E, hE⟩ : ∃ E, CR.body (endS s) = E := ⟨_, rfl⟩
    rw [hE] at HLT HSZ
    rw [hE]
    have h4 : E.size = 4 := HLT.out
    obtain ⟨b0, hb0⟩ : ∃ b, E[0] = b := ⟨_, rfl⟩
    obtain ⟨b1, hb1⟩ : ∃ b, E[1] = b := ⟨_, rfl⟩
    obtain ⟨b2, hb2⟩ : ∃ b, E[2] = b := ⟨_, rfl⟩
    obtain ⟨b3, hb3⟩ : ∃ b, E[3] = b := ⟨_, rfl⟩
    have HLE : Hid (le32 (bs E) = b0.toNat + b1.toNat * 256 + b2.toNat * 65536 + b3.toNat * 16777216) := Lib.hid (by
      have hg : ∀ k (h : k < E.size), (bs E).getD k 0 = E[k] := fun k h => by rw [List.getD_eq_getElem?_getD, List.getElem?_eq_getElem (by rw [bs_length]; exact h)]; rfl
      unfold le32
      rw [hg 0 (by omega), hg 1 (by omega), hg 2 (by omega), hg 3 (by omega), hb0, hb1, hb2, hb3])
    have hbb0 := b0.toNat_lt
    have hbb1 := b1.toNat_lt
    have hbb2 := b2.toNat_lt
    have hbb3 := b3.toNat_lt
    obtain ⟨N, hN⟩ : ∃ N, b0.toNat + b1.toNat * 256 + b2.toNat * 65536 + b3.toNat * 16777216 = N := ⟨_, rfl⟩
    have HZN : Hid (szS s = N) := Lib.hid (by rw [HSZ.out, HLE.out, hN])
    have HV : Hid ((b0.toNat : Int) + (b1.toNat : Int) * 256 + (b2.toNat : Int) * 65536 + (b3.toNat : Int) * 16777216 = (N : Int)) := Lib.hid (by omega)
    have hNl : (N : Int) ≤ 4294967295 := by omega
    have hu1 : IntKind.i64.wrap ((b0.toNat : Int) + (b1.toNat : Int) * 256) = (b0.toNat : Int) + (b1.toNat : Int) * 256 := by rw [IntKind.wrap_i64]; omega
    have hu2 : IntKind.i64.wrap ((b0.toNat : Int) + (b1.toNat : Int) * 256 + (b2.toNat : Int) * 65536) = (b0.toNat : Int) + (b1.toNat : Int) * 256 + (b2.toNat : Int) * 65536 := by rw [IntKind.wrap_i64]; omega
    have hu3 : IntKind.i64.wrap ((b0.toNat : Int) + (b1.toNat : Int) * 256 + (b2.toNat : Int) * 65536 + (b3.toNat : Int) * 16777216) = (N : Int) := by rw [IntKind.wrap_i64]; omega
    clear hN HSZ HLE
    have i0 : 0 < E.size := by omega
    have i1 : 1 < E.size := by omega
    have i2 : 2 < E.size := by omega
    have i3 : 3 < E.size := by omega
    go_upto_region 8 with fail
    go_quiet (fail)
    try rw [HV.out]
    clear hb0 hb1 hb2 hb3 i0 i1 i2 i3 h4 HV hbb0 hbb1 hbb2 hbb3 hu1 hu2 hu3
    replace H2 := Lib.hid (H2.out.drewN nq)
    replace H5 := Lib.hid (H5.out.drewN nq)
    replace HB := Lib.hid (bN HB.out nq)
    generalize w2.drewN nq = w3 at *
    have hN0 : (0 : Int) ≤ (N : Int) := by omega
    by_cases hlo : N < 4
    · have HE : Hid (opE s = 11) := Lib.hid (by rw [HO1.out, HZN.out, if_pos (.inl hlo)])
      have f2 : (N : Int) < 4 := by omega
      clear hlo
      go_wp2_with (first | (refine wpList_load_row rfl 25 (.tmp 5) rfl B5 rfl 25 zB (0, 0) _ H5.out.out Tryz.underlying25 rfl size_zB ?_) | (refine wpList_store_at rfl 25 (.tmp 2) (.tmp 58) rfl B2 zB rfl rfl 25 zB H2.out size_zB rfl zB_one ?_))
      intro w9 HW9
      have HA9 : Hid (At w9 B2 zB 25) := Lib.hid (by rw [HW9.out]; exact H2.out.row)
      have HB9 : Hid (Below w.heap.size w w9) := Lib.hid (by rw [HW9.out]; exact below_row HB.out _ _ HO2.out)
      go_wp2_with fail
      refine bodyPost_ret (results_row_tmp3 rfl _ _ B2 25 zB _ rfl HA9.out Tryz.underlying25 rfl size_zB) rfl ⟨HB9.out, .inr ⟨by rw [HE.out]; decide, by rw [HE.out]; rfl⟩⟩
    by_cases hhi : P < N
    · have HE : Hid (opE s = 11) := Lib.hid (by rw [HO1.out, HZN.out, if_pos (.inr hhi)])
      have f2 : ¬ (N : Int) < 4 := by omega
      have f3 : (P : Int) < (N : Int) := by omega
      clear hhi hlo
      go_wp2_with (first | (refine wpList_load_row rfl 25 (.tmp 5) rfl B5 rfl 25 zB (0, 0) _ H5.out.out Tryz.underlying25 rfl size_zB ?_) | (refine wpList_store_at rfl 25 (.tmp 2) (.tmp 58) rfl B2 zB rfl rfl 25 zB H2.out size_zB rfl zB_one ?_))
      intro w9 HW9
      have HA9 : Hid (At w9 B2 zB 25) := Lib.hid (by rw [HW9.out]; exact H2.out.row)
      have HB9 : Hid (Below w.heap.size w w9) := Lib.hid (by rw [HW9.out]; exact below_row HB.out _ _ HO2.out)
      go_wp2_with fail
      refine bodyPost_ret (results_row_tmp3 rfl _ _ B2 25 zB _ rfl HA9.out Tryz.underlying25 rfl size_zB) rfl ⟨HB9.out, .inr ⟨by rw [HE.out]; decide, by rw [HE.out]; rfl⟩⟩
    have f2 : ¬ (N : Int) < 4 := by omega
    have f3 : ¬ (P : Int) < (N : Int) := by omega
    obtain ⟨Q, hQ⟩ : ∃ Q, P - N = Q := ⟨_, rfl⟩
    have hsub : (P : Int) - (N : Int) = (Q : Int) := by omega
    have hQP : (Q : Int) ≤ (P : Int) := by omega
    have HQN : Hid (P = Q + N) := Lib.hid (by omega)
    have hex2 : s.extract Q P = dirS s := by rw [← hQ]; exact HDR.out N HZN.out
    have HDS : Hid ((dirS s).size = N) := Lib.hid (by rw [← hex2, ByteArray.size_extract]; have := HPS.out; omega)
    have hN4 : 4 ≤ N := by omega
    have hN5 : N ≤ 100000 := by have := HPS.out; have := HS.out; omega
    have HN4 := Lib.hid (And.intro hN4 hN5)
    have HO3 := HO1
    rw [HZN.out, if_neg (by omega), hQ] at HO3
    have HQE : Hid (s.size - 8 - szS s = Q) := Lib.hid (by rw [HPE.out, HZN.out, hQ])
    clear HO1 hlo hhi hQ hN4 hN5
    go_upto_region 11 with fail
    clear f2 f3
    by_cases hw2 : CR.Whole (dirS s)
    · have HC2 := Lib.hid (CR.openR_good (dirS s) (by rw [HDS.out]; exact HN4.out.2) (by rw [HDS.out]; exact HN4.out.1) hw2 w3)
      have HWD := Lib.hid hw2
      clear hw2 HO3
      go_wp2_with fail
      refine HC2.out.mono ?_
      rintro e w4 ⟨rfl, hb⟩
      replace H2 := Lib.hid (H2.out.below hb)
      replace H5 := Lib.hid (H5.out.below hb)
      replace HB := Lib.hid (HB.out.trans (hb.mono HB.out.size))
      have HDB : Hid ((CR.body (dirS s)).size ≤ 100000) := Lib.hid (by rw [CR.body_size, HDS.out]; have := HN4.out.2; omega)
      have HIT := Lib.hid (fun W => qitems_any (CR.body (dirS s)) (Q : Int) W HDB.out (by omega) (by have := HPS.out; have := HQN.out; have := HS.out; omega))
      have HACC : Hid (∀ id width fr l, IAcc (CR.body (dirS s)) (Q : Int) id width fr l → opE s = 0 ∧ (opR s).id = id ∧ (opR s).width = width ∧ (opR s).fr = fr ∧ (opR s).items = l) := Lib.hid (fun id width fr l h => acc_op s (by have := HS.out; omega) H8.out HWE.out (by rw [HZN.out]; exact HN4.out.1) (by rw [HZN.out, HPE.out]; have := HQN.out; omega) HWD.out (by rw [HQE.out]; exact h))
      have HNO : Hid (NoAcc (CR.body (dirS s)) (Q : Int) → opE s = 12) := Lib.hid (fun h => HOE.out H8.out HWE.out (by rw [HZN.out]; exact HN4.out.1) (by rw [HZN.out]; have := HQN.out; omega) HWD.out (fun h0 => h ⟨_, _, _, _, by have := op_acc s h0; rw [HQE.out] at this; exact this⟩))
      obtain ⟨D, hD⟩ : ∃ D, CR.body (dirS s) = D := ⟨_, rfl⟩
      rw [hD] at HIT HACC HNO
      rw [hD]
      clear hb HC2 hex2 hD HDB
      go_wp2_with fail
      refine (HIT.out w4).mono ?_
      rintro e w5 ⟨hb, hpost⟩
      replace H2 := Lib.hid (H2.out.below hb)
      replace H5 := Lib.hid (H5.out.below hb)
      replace HB := Lib.hid (HB.out.trans (hb.mono HB.out.size))
      clear hb HIT
      have A11 := Lib.hid (At.new w5 zB 25)
      rcases hpost with ⟨id, width, fr, l, A, c, hacc, rfl, hit, hlc⟩ | ⟨hno, rfl⟩
      · obtain ⟨k1, k2, k3, k4, k5⟩ := HACC.out _ _ _ _ hacc
        have HE := Lib.hid k1
        have HID := Lib.hid (And.intro k2 (And.intro k3 (And.intro k4 k5)))
        have HI := Lib.hid hit
        have HLC := Lib.hid hlc
        obtain ⟨V, hV⟩ : ∃ V, V = blC ⟨id, width, fr, []⟩ none 0 := ⟨_, rfl⟩
        rw [← hV]
        have hvs : V.size = 4 := by rw [hV]; rfl
        have HVO : Hid ((V.all fun v => v.oneCell') = true) := Lib.hid (by rw [hV]; exact blC_one _ _ _)
        have HV := Lib.hid hV
        clear k1 k2 k3 k4 k5 hacc hit hlc hV HACC HNO
        go_wp2_with (refine wpList_store_at rfl 25 (.tmp 11) (.tmp 79) rfl w5.heap.size V rfl rfl 25 zB A11.out (by rw [hvs]; exact size_blk) (by rw [hvs]; rfl) HVO.out ?_)
        intro w6 HW6
        have HRR : Hid (Below w5.heap.size w5 w6) := Lib.hid (by rw [HW6.out]; exact below_row ((Below.refl _ _).alloc (Nat.le_refl _) _) _ _ (Nat.le_refl _))
        have H11 : Hid (At w6 w5.heap.size V 25) := Lib.hid (by rw [HW6.out]; exact A11.out.row)
        replace H2 := Lib.hid (H2.out.below HRR.out)
        replace HB := Lib.hid (HB.out.trans (HRR.out.mono HB.out.size))
        replace HI := Lib.hid (HI.out.kt (KT.below HRR.out) (KT.below HRR.out))
        clear HW6 HRR A11
        go_wp2_with (first | (refine wpList_load_row rfl 25 (.tmp 11) rfl w5.heap.size rfl 25 V (0, 0) _ H11.out.out Tryz.underlying25 rfl (by rw [hvs]; exact size_blk) ?_) | (refine wpList_store_at rfl 25 (.tmp 2) (.tmp 85) rfl B2 V rfl rfl 25 zB H2.out (by rw [hvs]; exact size_blk) (by rw [hvs]; rfl) HVO.out ?_))
        intro w9 HW9
        have HA9 : Hid (At w9 B2 V 25) := Lib.hid (by rw [HW9.out]; exact H2.out.row)
        have HB9 : Hid (Below w.heap.size w w9) := Lib.hid (by rw [HW9.out]; exact below_row HB.out _ _ HO2.out)
        have HI9 : Hid (ItmsT w9 A l) := Lib.hid (by rw [HW9.out]; exact HI.out.kt (KT.row H2.out (by decide) _) (KT.row H2.out (by decide) _))
        go_wp2_with fail
        refine bodyPost_ret (results_row_tmp3 rfl _ _ B2 25 V _ rfl HA9.out Tryz.underlying25 rfl (by rw [hvs]; exact size_blk)) rfl ⟨HB9.out, .inl ⟨HE.out, A, c, ?_, ?_, ?_⟩⟩
        · rw [HID.out.1, HID.out.2.1, HID.out.2.2.1, HID.out.2.2.2, HV.out]
          rfl
        · rw [HID.out.2.2.2]
          exact HI9.out
        · rw [HID.out.2.2.2]
          exact HLC.out
      · have HE : Hid (opE s = 12) := Lib.hid (HNO.out hno)
        clear hno HACC HNO
        go_wp2_with (refine wpList_store_at rfl 25 (.tmp 11) (.tmp 79) rfl w5.heap.size zB rfl rfl 25 zB A11.out size_zB rfl zB_one ?_)
        intro w6 HW6
        have HRR : Hid (Below w5.heap.size w5 w6) := Lib.hid (by rw [HW6.out]; exact below_row ((Below.refl _ _).alloc (Nat.le_refl _) _) _ _ (Nat.le_refl _))
        replace H2 := Lib.hid (H2.out.below HRR.out)
        replace H5 := Lib.hid (H5.out.below HRR.out)
        replace HB := Lib.hid (HB.out.trans (HRR.out.mono HB.out.size))
        clear HW6 HRR A11
        go_wp2_with (first | (refine wpList_load_row rfl 25 (.tmp 5) rfl B5 rfl 25 zB (0, 0) _ H5.out.out Tryz.underlying25 rfl size_zB ?_) | (refine wpList_store_at rfl 25 (.tmp 2) (.tmp 84) rfl B2 zB rfl rfl 25 zB H2.out size_zB rfl zB_one ?_))
        intro w9 HW9
        have HA9 : Hid (At w9 B2 zB 25) := Lib.hid (by rw [HW9.out]; exact H2.out.row)
        have HB9 : Hid (Below w.heap.size w w9) := Lib.hid (by rw [HW9.out]; exact below_row HB.out _ _ HO2.out)
        go_wp2_with fail
        refine bodyPost_ret (results_row_tmp3 rfl _ _ B2 25 zB _ rfl HA9.out Tryz.underlying25 rfl size_zB) rfl ⟨HB9.out, .inr ⟨by rw [HE.out]; decide, by rw [HE.out]; rfl⟩⟩
    · have HC2 := Lib.hid (CR.openR_bad (dirS s) (by rw [HDS.out]; exact HN4.out.2) (by rw [HDS.out]; exact HN4.out.1) hw2 w3)
      have HE : Hid (opE s = 13) := Lib.hid (by rw [HO3.out, if_neg hw2])
      clear hw2 HO3
      go_wp2_with fail
      refine HC2.out.mono ?_
      rintro e w4 ⟨rfl, hb⟩
      replace H2 := Lib.hid (H2.out.below hb)
      replace H5 := Lib.hid (H5.out.below hb)
      replace HB := Lib.hid (HB.out.trans (hb.mono HB.out.size))
      clear hb HC2 hex2
      go_wp2_with (first | (refine wpList_load_row rfl 25 (.tmp 5) rfl B5 rfl 25 zB (0, 0) _ H5.out.out Tryz.underlying25 rfl size_zB ?_) | (refine wpList_store_at rfl 25 (.tmp 2) (.tmp 71) rfl B2 zB rfl rfl 25 zB H2.out size_zB rfl zB_one ?_))
      intro w9 HW9
      have HA9 : Hid (At w9 B2 zB 25) := Lib.hid (by rw [HW9.out]; exact H2.out.row)
      have HB9 : Hid (Below w.heap.size w w9) := Lib.hid (by rw [HW9.out]; exact below_row HB.out _ _ HO2.out)
      go_wp2_with fail
      refine bodyPost_ret (results_row_tmp3 rfl _ _ B2 25 zB _ rfl HA9.out Tryz.underlying25 rfl size_zB) rfl ⟨HB9.out, .inr ⟨by rw [HE.out]; decide, by rw [HE.out]; rfl⟩⟩
  · have HC1 := Lib.hid (CR.openR_bad (endS s) (by rw [HES.out]; decide) (by rw [HES.out]; decide) hw1 w1)
    have HE : Hid (opE s = 13) := Lib.hid (by rw [HO.out, if_neg (by have := HPS.out; omega), if_neg hw1])
    clear HO hw1
    go_wp2_with fail
    refine HC1.out.mono ?_
    rintro e w2 ⟨rfl, hb⟩
    replace H2 := Lib.hid (H2.out.below hb)
    replace H5 := Lib.hid (H5.out.below hb)
    replace HB := Lib.hid (HB.out.trans (hb.mono HB.out.size))
    clear hb HC1 hex
    go_wp2_with (first | (refine wpList_load_row rfl 25 (.tmp 5) rfl B5 rfl 25 zB (0, 0) _ H5.out.out Tryz.underlying25 rfl size_zB ?_) | (refine wpList_store_at rfl 25 (.tmp 2) (.tmp 31) rfl B2 zB rfl rfl 25 zB H2.out size_zB rfl zB_one ?_))
    intro w9 HW9
    have HA9 : Hid (At w9 B2 zB 25) := Lib.hid (by rw [HW9.out]; exact H2.out.row)
    have HB9 : Hid (Below w.heap.size w w9) := Lib.hid (by rw [HW9.out]; exact below_row HB.out _ _ HO2.out)
    go_wp2_with fail
    refine bodyPost_ret (results_row_tmp3 rfl _ _ B2 25 zB _ rfl HA9.out Tryz.underlying25 rfl size_zB) rfl ⟨HB9.out, .inr ⟨by rw [HE.out]; decide, by rw [HE.out]; rfl⟩⟩
end Go.Proofs.YtoojpfcnekpboaaGreat
