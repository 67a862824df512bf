/- Walks: a block's file (the reference's). Walks: the directory (the program's). -/
import Derived.Test.YtoojpfcnekpboaaMBM
import Derived.Test.YtoojpfcnekpboaaMAT
import Derived.Deep.RegionHeld3
namespace Go.Proofs.Ytoojpfcnekpboaa
open Go.RowKit

theorem sealRB_any (s : ByteArray) (l : List UInt8) (hs : s = str l) (hl : l.length ≤ 100000) (w : World) :
    Calls Try.prog 26 #[.string s] w fun e w' => e = .returned (.string (str (sealB l))) ∧ Below w.heap.size w w' := by
  subst hs
  refine (CR.sealR_any (str l) (by rw [str_size]; exact hl) w).mono ?_
  rintro e w' ⟨rfl, hb⟩
  exact ⟨by rw [bs_str]; rfl, hb⟩
/-- The sealed data of the first chunks. -/
def datTo (xs : List Chk) (k : Nat) : List UInt8 := (xs.take k).flatMap (fun x => sealB (bs x.data))
theorem datTo_step {xs : List Chk} {k : Nat} (h : k < xs.length) : datTo xs (k + 1) = datTo xs k ++ sealB (bs (xs[k]).data) := by
  unfold datTo
  rw [List.take_succ_eq_append_getElem h, List.flatMap_append]
  simp
theorem datTo_len {xs : List Chk} (h : ∀ x ∈ xs, x.data.size ≤ 600) (k : Nat) : (datTo xs k).length ≤ 604 * xs.length := by
  have h1 := dat_len (xs.take k) (fun x hx => h x (List.mem_of_mem_take hx))
  have h2 : (xs.take k).length ≤ xs.length := by rw [List.length_take]; omega
  unfold datTo
  omega
theorem datTo_le (b : Blk) (k : Nat) : (datTo b.chunks k).length ≤ (datB b).length := by
  unfold datTo datB
  conv => rhs; rw [← List.take_append_drop k b.chunks, List.flatMap_append, List.length_append]
  omega
theorem offAt_datTo (xs : List Chk) : ∀ k, offAt xs k = (datTo xs k).length := by
  intro k
  induction k with
  | zero => simp [offAt, datTo]
  | succ k ih =>
    by_cases hk : k < xs.length
    · rw [offAt_step hk, datTo_step hk, List.length_append, sealB_len, bs_length, ih]
    · have e1 : offAt xs (k + 1) = offAt xs k := by unfold offAt; rw [List.take_of_length_le (by omega), List.take_of_length_le (by omega)]
      have e2 : datTo xs (k + 1) = datTo xs k := by unfold datTo; rw [List.take_of_length_le (by omega), List.take_of_length_le (by omega)]
      rw [e1, e2, ih]
theorem offAt_mid {b : Blk} (h : Mid b) (k : Nat) : offAt b.chunks k ≤ 71388 := by
  have h1 := h.parts
  have h2 := datTo_le b k
  rw [offAt_datTo]
  omega
theorem bchk_zero {b : Blk} (h : bchk b = 0) : (1 ≤ b.id ∧ b.id ≤ 1152921504606846976) ∧ (0 ≤ b.width ∧ b.width ≤ 1152921504606846976) ∧ (0 ≤ b.fr ∧ b.fr ≤ 1152921504606846976) ∧ ∀ x ∈ b.chunks, cchk x b.width = 0 := by
  unfold bchk at h
  split at h
  · omega
  split at h
  · omega
  split at h
  · omega
  split at h
  · omega
  refine ⟨by omega, by omega, by omega, ?_⟩
  have key : ∀ (xs : List Chk) (p : Option Chk), bchkFrom b.width p xs = 0 → ∀ x ∈ xs, cchk x b.width = 0 := by
    intro xs
    induction xs with
    | nil => intro p _ x hx; simp at hx
    | cons y r ih =>
      intro p hp x hx
      unfold bchkFrom at hp
      split at hp
      · rename_i hc
        split at hp
        · omega
        · rcases List.mem_cons.1 hx with rfl | hx
          · exact hc
          · exact ih _ hp x hx
      · rename_i hc
        exact absurd hp hc
  exact key _ _ h
theorem cchk_zero {x : Chk} {width : Int} (h : cchk x width = 0) : (1 ≤ x.sig ∧ x.sig ≤ 6) ∧ zchk x.zone = 0 ∧ chkL x.labs = 0 ∧ x.data.size ≤ 262144 := by
  unfold cchk at h
  split at h
  · omega
  split at h
  · omega
  split at h
  · rename_i h3; exact absurd h h3
  split at h
  · omega
  split at h
  · rename_i h3; exact absurd h h3
  split at h
  · omega
  rename_i h1 h2 h3 h4 h5 h6
  exact ⟨by omega, by omega, by omega, by omega⟩
theorem offAt_bd {b : Blk} (hf : Fine b) (k : Nat) (hk : k ≤ b.chunks.length) : offAt b.chunks k ≤ 4832 := by
  have h1 := offAt_le hf.data k
  have h2 := hf.few
  omega
theorem items_ok {b : Blk} (hf : Fine b) (h : bchk b = 0) : ∀ y ∈ itmFrom 0 b.chunks, ItmOK y := fun y hy => by
  obtain ⟨k, hk, rfl⟩ := List.getElem_of_mem hy
  have hk' : k < b.chunks.length := by rw [itmFrom_len] at hk; exact hk
  have hg := itmFrom_get 0 b.chunks k hk'
  rw [List.getElem?_eq_getElem hk] at hg
  injection hg with hg
  rw [hg]
  have hm := List.getElem_mem hk'
  obtain ⟨h1, h2, _, _⟩ := cchk_zero ((bchk_zero h).2.2.2 _ hm)
  have h3 := offAt_bd hf k (by omega)
  have h4 := hf.data _ hm
  refine ⟨?_, ?_, ?_, ⟨h2, hf.zone _ hm⟩, hf.labs _ hm, hf.lab _ hm⟩
  · show 0 ≤ (b.chunks[k]).sig ∧ (b.chunks[k]).sig ≤ 1152921504606846976
    omega
  · show 0 ≤ 0 + (offAt b.chunks k : Int) ∧ 0 + (offAt b.chunks k : Int) ≤ 1152921504606846976
    omega
  · show 0 ≤ ((b.chunks[k]).data.size : Int) + 4 ∧ ((b.chunks[k]).data.size : Int) + 4 ≤ 1152921504606846976
    omega

set_option maxRecDepth 100000 in
set_option maxHeartbeats 1000000 in
theorem encodeR_any (b : Blk) (A : Option Addr) (c : Nat) (w : World) (hl : ChksIn w.heap.size w A b.chunks) (hc : b.chunks.length ≤ c) (hf : Fine b) :
    Calls Try.prog 10 #[.agg (blC b A c)] w fun e w' => e = .returned (pairV (encB b)) ∧ Below w.heap.size w w' := by
  have hat := At.new w (blC b A c) 24
  have hb : Below w.heap.size w (w.alloc (.cells (blC b A c) 24)) := (Below.refl _ _).alloc (Nat.le_refl _) _
  have HB := Lib.hid hb
  have HAT := Lib.hid hat
  have HL := Lib.hid hl
  have HC := Lib.hid hc
  have HF := Lib.hid hf
  have HLT : Hid (w.heap.size < (w.alloc (.cells (blC b A c) 24)).heap.size) := Lib.hid hat.lt
  have hfew := hf.few
  clear hat hl hc hb hf
  go_enter Try.func10, Try.ntmps10
  go_upto_region 1 with fail
  generalize w.alloc (.cells (blC b A c) 24) = w0 at *
  go_wp2_with (refine wpList_load_mid rfl 24 (.tmp 1) rfl w.heap.size 0 rfl (blC b A c).toList _ (range_at HAT.out) Try.underlying24 rfl rfl ?_)
  refine (checkR_any b A c w0 ((HL.out.below HB.out).mono HB.out.size) HC.out (fun x hx => ⟨by have := HF.out.labs x hx; omega, fun y hy => by have := HF.out.lab x hx y hy; omega⟩)).mono ?_
  rintro e w1 ⟨rfl, hb⟩
  have HB1 := Lib.hid (HB.out.trans (hb.mono HB.out.size))
  have HD1 := Lib.hid hb
  clear hb
  by_cases hz : bchk b = 0
  · have HZ := Lib.hid hz
    have HR : Hid (pairV (encB b) = .tuple #[.string (str (fileB b)), .int .i64 0]) := Lib.hid (by unfold encB; rw [if_pos hz]; rfl)
    rw [hz]
    clear hz
    have H0 : Hid ((⟨#[]⟩ : ByteArray) = str (datTo b.chunks 0)) := Lib.hid rfl
    go_wp2_with fail
    go_loopw [5, 6] (fun s i wr => ∃ k : Nat, k ≤ b.chunks.length ∧ s = .string (str (datTo b.chunks k)) ∧ i = .int .i64 k ∧ Hid (Below w0.heap.size w0 wr)) (fun _ i _ => b.chunks.length - (intOf i).toNat)
    case atStart => exact ⟨0, Nat.zero_le _, by rw [← H0.out], rfl, HD1⟩
    case round =>
      obtain ⟨k, hk, rfl, rfl, HD⟩ := hrel
      have HBW := Lib.hid (HB.out.trans (HD.out.mono HB.out.size))
      have c3 : wr.cell? ⟨w.heap.size, 3, none⟩ = some (.slice A b.chunks.length c) := (HAT.out.below HD.out).cell 3
      have hlk := datTo_len HF.out.data k
      by_cases hlt : k < b.chunks.length
      · obtain ⟨g, o, A2, c2, rfl, hg, HRG, HLB, HCL⟩ := (HL.out.below HBW.out).get k hlt
        have HST := Lib.hid (datTo_step hlt)
        have hds := HF.out.data _ (List.getElem_mem hlt)
        obtain ⟨x, hx⟩ : ∃ x, b.chunks[k] = x := ⟨_, rfl⟩
        rw [hx] at HRG HST hds
        obtain ⟨_, _, e15⟩ := chunk_cells HRG.out
        clear hx HRG HLB HCL
        generalize datTo b.chunks k = t0 at *
        go_wp2_with fail
        refine (sealRB_any x.data (bs x.data) (by rw [str_bs]) (by rw [bs_length]; omega) wr).mono ?_
        rintro e w2 ⟨rfl, hb⟩
        have HD2 := Lib.hid (HD.out.trans (hb.mono HD.out.size))
        have hs4 := sealB_len (bs x.data)
        rw [bs_length] at hs4
        generalize sealB (bs x.data) = t1 at *
        have hz1 : (str t0).size = t0.length := str_size t0
        have hz2 : (str t1).size = t1.length := str_size t1
        have k1 : ¬ 9223372036854775807 < (str t0).size + (str t1).size := by omega
        have HNX : Hid (str t0 ++ str t1 = str (datTo b.chunks (k + 1))) := Lib.hid (by rw [HST.out, str_append])
        clear hb c3 e15
        go_wp2_with fail
        go_roundw
        case rel => exact ⟨k + 1, hlt, by rw [HNX.out], by go_num, HD2⟩
        case measure => simp [intOf]; omega
      · have hke : k = b.chunks.length := by omega
        subst hke
        have HDAT : Hid (datTo b.chunks b.chunks.length = datB b) := Lib.hid (by unfold datTo datB; rw [List.take_length])
        rw [HDAT.out]
        rw [HDAT.out] at hlk
        obtain ⟨hid, hwi, hfr, _⟩ := bchk_zero HZ.out
        have HDL := Lib.hid HF.out.dir
        have HITM : Hid (∀ W' : World, Below w.heap.size w W' → Calls Try.prog 28 #[.agg (blC b A c)] W' fun e w' => (∃ A' c', e = .returned (.slice A' b.chunks.length c') ∧ b.chunks.length ≤ c' ∧ ItmsIn w'.heap.size w' A' (itmFrom 0 b.chunks)) ∧ Below w.heap.size w w' ∧ Below W'.heap.size W' w') := Lib.hid fun W' hW => (items_any b A c W' ((HL.out.below hW).mono hW.size) HC.out HF.out).mono fun e w' ⟨h1, h2⟩ => ⟨h1, hW.trans (h2.mono hW.size), h2⟩
        have HDIR : Hid (∀ (W' : World) A' c', b.chunks.length ≤ c' → ItmsIn W'.heap.size W' A' (itmFrom 0 b.chunks) → Below w.heap.size w W' → Calls Try.prog 27 #[.int .i64 b.id, .int .i64 b.width, .int .i64 b.fr, .slice A' b.chunks.length c'] W' fun e w' => e = .returned (.string (str (bdir b))) ∧ Below w.heap.size w w' ∧ Below W'.heap.size W' w') := Lib.hid fun W' A' c' h1 h2 hW => by
          have := directoryR_any b.id b.width b.fr A' c' (itmFrom 0 b.chunks) W' h2 (by rw [itmFrom_len]; exact h1) (items_ok HF.out HZ.out) (by rw [itmFrom_len]; omega) ⟨by omega, hid.2⟩ hwi hfr
          rw [itmFrom_len] at this
          exact this.mono fun e w' ⟨h1, h2⟩ => ⟨h1, hW.trans (h2.mono hW.size), h2⟩
        have HSE : Hid (∀ W' : World, Below w.heap.size w W' → Calls Try.prog 26 #[.string (str (bdir b))] W' fun e w' => e = .returned (.string (str (sealB (bdir b)))) ∧ Below w.heap.size w w' ∧ Below W'.heap.size W' w') := Lib.hid fun W' hW => (sealRB_any _ (bdir b) rfl (by have := HDL.out; omega) W').mono fun e w' ⟨h1, h2⟩ => ⟨h1, hW.trans (h2.mono hW.size), h2⟩
        have HFN : Hid (str (datB b ++ sealB (bdir b)) ++ str (sealB (four4 ((sealB (bdir b)).length : Nat))) = str (fileB b)) := Lib.hid (by unfold fileB; rw [← str_append])
        have hd4 := sealB_len (bdir b)
        have hbd := HDL.out
        clear hid hwi hfr
        generalize str (bdir b) = D at *
        generalize hT5 : sealB (bdir b) = t5 at *
        generalize datB b = t6 at *
        have hz1 : (str t5).size = t5.length := str_size t5
        have hz2 : (str t6).size = t6.length := str_size t6
        have HK : Hid (∀ W' W2 : World, (W'.cell? ⟨w.heap.size, 0, none⟩ = some (.int .i64 b.id) ∧ W'.cell? ⟨w.heap.size, 1, none⟩ = some (.int .i64 b.width) ∧ W'.cell? ⟨w.heap.size, 2, none⟩ = some (.int .i64 b.fr) ∧ W'.cell? ⟨w.heap.size, 3, none⟩ = some (.slice A b.chunks.length c) ∧ w.heap.size < W'.heap.size ∧ Below w.heap.size w W') → Below W'.heap.size W' W2 → Below w.heap.size w W2 → (W2.cell? ⟨w.heap.size, 0, none⟩ = some (.int .i64 b.id) ∧ W2.cell? ⟨w.heap.size, 1, none⟩ = some (.int .i64 b.width) ∧ W2.cell? ⟨w.heap.size, 2, none⟩ = some (.int .i64 b.fr) ∧ W2.cell? ⟨w.heap.size, 3, none⟩ = some (.slice A b.chunks.length c) ∧ w.heap.size < W2.heap.size ∧ Below w.heap.size w W2)) := Lib.hid fun W' W2 ⟨h0, h1, h2, h3, h4, h5⟩ hb hb2 => ⟨(hb.cell (p := ⟨w.heap.size, 0, none⟩) h4).trans h0, (hb.cell (p := ⟨w.heap.size, 1, none⟩) h4).trans h1, (hb.cell (p := ⟨w.heap.size, 2, none⟩) h4).trans h2, (hb.cell (p := ⟨w.heap.size, 3, none⟩) h4).trans h3, Nat.lt_of_lt_of_le h4 hb.size, hb2⟩
        have HINI : Hid (wr.drew.cell? ⟨w.heap.size, 0, none⟩ = some (.int .i64 b.id) ∧ wr.drew.cell? ⟨w.heap.size, 1, none⟩ = some (.int .i64 b.width) ∧ wr.drew.cell? ⟨w.heap.size, 2, none⟩ = some (.int .i64 b.fr) ∧ wr.drew.cell? ⟨w.heap.size, 3, none⟩ = some (.slice A b.chunks.length c) ∧ w.heap.size < wr.drew.heap.size ∧ Below w.heap.size w wr.drew) := Lib.hid ⟨(HAT.out.below HD.out).cell 0, (HAT.out.below HD.out).cell 1, (HAT.out.below HD.out).cell 2, c3, Nat.lt_of_lt_of_le HLT.out HD.out.size, below_drew HBW.out⟩
        go_wp2_with fail
        go_region_held3 (fun w' => w'.cell? ⟨w.heap.size, 0, none⟩ = some (.int .i64 b.id) ∧ w'.cell? ⟨w.heap.size, 1, none⟩ = some (.int .i64 b.width) ∧ w'.cell? ⟨w.heap.size, 2, none⟩ = some (.int .i64 b.fr) ∧ w'.cell? ⟨w.heap.size, 3, none⟩ = some (.slice A b.chunks.length c) ∧ w.heap.size < w'.heap.size ∧ Below w.heap.size w w') ((first | assumption | exact HINI.out | exact HK.out _ _ (by assumption) hb hb2 | go_keep))
          (first | (go_at_call 28; refine (HITM.out _ ?_).mono ?_; (exact (‹_ ∧ _ ∧ _ ∧ _ ∧ _ ∧ Below w.heap.size w _›).2.2.2.2.2); rintro e w' ⟨⟨A', c', rfl, hcc, hit⟩, hb2, hb⟩) | (go_at_call 27; refine (HDIR.out _ _ _ hcc hit ?_).mono ?_; (exact (‹_ ∧ _ ∧ _ ∧ _ ∧ _ ∧ Below w.heap.size w _›).2.2.2.2.2); rintro e w' ⟨rfl, hb2, hb⟩) | (go_at_call 26; refine (HSE.out _ ?_).mono ?_; (exact (‹_ ∧ _ ∧ _ ∧ _ ∧ _ ∧ Below w.heap.size w _›).2.2.2.2.2); rintro e w' ⟨rfl, hb2, hb⟩))
        rename_i wf hHeld
        have HBF := Lib.hid hHeld.2.2.2.2.2
        clear hHeld
        have k1 : ¬ 9223372036854775807 < (str t6).size + (str t5).size := by omega
        have h5 : t5.length ≤ 66504 := by omega
        clear hd4 hbd
        go_wp2_with fail
        refine (fourR_any (t5.length : Nat) _ (by omega) (by omega)).mono ?_
        rintro e w3 ⟨rfl, hb⟩
        have HB3 := Lib.hid (HBF.out.trans (hb.mono HBF.out.size))
        clear hb
        go_wp2_with fail
        refine (sealRB_any _ (four4 (t5.length : Nat)) rfl (by show 4 ≤ 100000; omega) w3).mono ?_
        rintro e w4 ⟨rfl, hb⟩
        have HB4 := Lib.hid (HB3.out.trans (hb.mono HB3.out.size))
        have hs8 : (str (sealB (four4 (t5.length : Nat)))).size ≤ 8 := by rw [str_size, sealB_len]; exact Nat.le_refl _
        have hsz : (str (t6 ++ t5)).size = t6.length + t5.length := by rw [str_size, List.length_append]
        rw [str_append] at HFN
        generalize str (sealB (four4 (t5.length : Nat))) = t7 at *
        have h6 : (str t6 ++ str t5).size ≤ 80000 := by rw [ByteArray.size_append]; omega
        clear hb k1 hz1 hz2 h5 hlk
        clear hsz
        generalize str t6 ++ str t5 = S6 at *
        have k2 : ¬ 9223372036854775807 < S6.size + t7.size := by omega
        go_wp2_with fail
        go_ret2
        exact ⟨by rw [HR.out, ← HFN.out]; rfl, HB4.out⟩
  · have HR : Hid (pairV (encB b) = .tuple #[.string ⟨#[]⟩, .int .i64 (bchk b)]) := Lib.hid (by unfold encB; rw [if_neg hz]; rfl)
    have d : (bchk b != 0) = true := bne_iff_ne.2 hz
    clear hz
    go_wp2_with fail
    go_ret2
    exact ⟨by rw [HR.out]; rfl, HB1.out⟩
end Go.Proofs.Ytoojpfcnekpboaa

namespace Go.Proofs.Ytoojpfcnekpboaa
open Go.RowKit Go.Shelf

theorem ok8_below {b : Nat} {w w' : World} (h : Below w.heap.size w w') : OK8 b w w' := fun k _ hk _ _ => (h.block k (Array.getElem?_eq_some_iff.1 hk).1).trans hk
theorem ok8_trans {b : Nat} {w w' w'' : World} (h : OK8 b w w') (k : OK8 b w' w'') : OK8 b w w'' := Lib.OthersKept.trans h k
theorem BL.later {W w w' : World} {b : Nat} {l : List UInt8} (h : BL W b l w) (hb : Below w.heap.size w w') : BL W b l w' := h.keep hb
/-- The block of a loop's deferred calls stands, whatever a builder does. -/
theorem defer_ok8 {b D : Nat} {W W' w : World} {l : List UInt8} (hK : W.heap[D]? = some (.deferred (some []))) (h : OK8 b W W') (hb : BL w b l W) : W'.heap[D]? = some (.deferred (some [])) := by
  obtain ⟨_, _, _, _, _, h2, _⟩ := hb.ex
  exact h D _ hK (fun e => by
    injection e with e
    rw [e, h2.out] at hK
    injection hK with hK
    cases hK) (fun _ _ e => by cases e)
set_option maxRecDepth 100000 in
set_option maxHeartbeats 1000000 in
theorem number_any (W : World) (b : Nat) (l : List UInt8) (n : Int) (w : World) (h : BL W b l w) (hl : l.length ≤ 1000000000) (h0 : 0 ≤ n) (h1 : n ≤ 1152921504606846976) :
    Calls Try.prog 40 #[.int .i64 n, .pointer (some ⟨b, 0, none⟩)] w fun e w' => e = .returned (.tuple #[]) ∧ BL W b (l ++ vE n.toNat) w' ∧ OK8 b w w' ∧ w.heap.size ≤ w'.heap.size := by
  have HP : Hid (pairV (appR ⟨#[]⟩ n) = .tuple #[.string (str (vE n.toNat)), .int .i64 0]) := Lib.hid (by
    unfold pairV appR
    rw [if_neg (by unfold maxI; omega)]
    congr 3)
  have HBL := Lib.hid h
  have hv := vE_len n.toNat
  have HL := Lib.hid hl
  have HV := Lib.hid hv
  clear h hl h0 h1 hv
  go_enter Try.func40, Try.ntmps40
  go_wp2_with fail
  refine (append_any ⟨#[]⟩ n w (by decide)).mono ?_
  rintro e w1 ⟨rfl, hb⟩
  have HB1 := Lib.hid hb
  clear hb
  rw [HP.out]
  go_wp2_with fail
  refine (writeStringS_any W b l (str (vE n.toNat)) w1 (HBL.out.later HB1.out) (by rw [str_size]; have := HL.out; have := HV.out; omega)).mono ?_
  rintro e w2 ⟨rfl, hbl, hok, hsz⟩
  have HBL2 := Lib.hid hbl
  have HOK2 := Lib.hid hok
  have HS2 := Lib.hid hsz
  clear hbl hok hsz
  go_wp2_with fail
  go_end0
  exact ⟨rfl, HBL2.out, ok8_trans (ok8_below HB1.out) HOK2.out, Nat.le_trans HB1.out.size HS2.out⟩
def numF (b : Nat) : Value := .func (.func 40) #[] #[.pointer (some ⟨b, 0, none⟩)]
def textF (nb b : Nat) : Value := .func (.func 42) #[] #[.pointer (some ⟨nb, 0, none⟩), .pointer (some ⟨b, 0, none⟩)]
set_option maxRecDepth 100000 in
set_option maxHeartbeats 1000000 in
theorem text_any (W : World) (b nb : Nat) (l : List UInt8) (s : ByteArray) (t : TypeId) (w : World) (h : BL W b l w) (hn : At w nb #[numF b] t) (hl : l.length ≤ 1000000000) (hs : s.size ≤ 1000000000) :
    Calls Try.prog 42 #[.string s, .pointer (some ⟨nb, 0, none⟩), .pointer (some ⟨b, 0, none⟩)] w fun e w' => e = .returned (.tuple #[]) ∧ BL W b (l ++ vE s.size ++ bs s) w' ∧ OK8 b w w' ∧ w.heap.size ≤ w'.heap.size := by
  have HN := Lib.hid (number_any W b l (s.size : Nat) w h hl (by omega) (by omega))
  have c0 : w.cell? ⟨nb, 0, none⟩ = some (.func (.func 40) #[] #[.pointer (some ⟨b, 0, none⟩)]) := hn.cell 0
  have hv := vE_len s.size
  have HL : Hid (l.length + 10 + s.size ≤ 1000000000000) := Lib.hid (by omega)
  have HV := Lib.hid hv
  clear h hn hl hs hv
  go_enter Try.func42, Try.ntmps42
  go_wp2_with fail
  refine HN.out.mono ?_
  rintro e w1 ⟨rfl, hbl, hok, hsz1⟩
  have HBL1 := Lib.hid hbl
  have HOK1 := Lib.hid hok
  have HS1 := Lib.hid hsz1
  clear hbl hok hsz1 c0
  go_wp2_with fail
  refine (writeStringS_any W b _ s w1 HBL1.out (by rw [List.length_append]; have := HL.out; have := HV.out; simp; omega)).mono ?_
  rintro e w2 ⟨rfl, hbl, hok, hsz⟩
  have HBL2 := Lib.hid hbl
  have HOK2 := Lib.hid hok
  have HS2 := Lib.hid hsz
  clear hbl hok hsz
  go_wp2_with fail
  go_end0
  exact ⟨rfl, HBL2.out, ok8_trans HOK1.out HOK2.out, Nat.le_trans HS1.out HS2.out⟩
end Go.Proofs.Ytoojpfcnekpboaa
