/- Walks: a block's file (the program's). -/
import Derived.Test.YtoojpfcnekpboaaGreatZBY
namespace Go.Proofs.YtoojpfcnekpboaaGreat
open Go.RowKit Go.Shelf
attribute [local go_sem] Oper.semAt_some

theorem sealP_any (s : ByteArray) (l : List UInt8) (hs : s = str l) (hl : l.length ≤ 100000) (w : World) :
    Calls Tryz.prog 62 #[.string s] w fun e w' => e = .returned (.string (str (sealB l))) ∧ Below w.heap.size w w' := by
  subst hs
  refine (CR.seal_any (str l) (by rw [str_size]; exact hl) w).mono ?_
  rintro e w' ⟨rfl, hb⟩
  exact ⟨by rw [bs_str]; rfl, hb⟩
/-- Where the chunks that have come end. -/
def endAt (xs : List Chk) (pre : List (Fin xs.length)) : Nat := match pre.getLast? with
  | none => 0
  | some k => offAt xs (k.1 + 1)
theorem endAt_snoc (xs : List Chk) (pre : List (Fin xs.length)) (k : Fin xs.length) : endAt xs (pre ++ [k]) = offAt xs (k.1 + 1) := by
  unfold endAt
  rw [List.getLast?_concat]
theorem endAt_le {b : Blk} (h : Mid b) (pre : List (Fin b.chunks.length)) : endAt b.chunks pre ≤ 71388 := by
  unfold endAt
  split
  · omega
  · rename_i k _
    exact offAt_mid h (k.1 + 1)

set_option maxRecDepth 100000 in
set_option maxHeartbeats 2000000 in
theorem encode_any (b : Blk) (A : Option Addr) (c : Nat) (w : World) (hl : ChksIn w.heap.size w A b.chunks) (hc : b.chunks.length ≤ c) (hf : Mid b) :
    Calls Tryz.prog 33 #[.agg (blC b A c)] w fun e w' => e = .returned (pairV (encB b)) ∧ Below w.heap.size w w' := by
  have hat := At.new w (blC b A c) 25
  have hb : Below w.heap.size w (w.alloc (.cells (blC b A c) 25)) := (Below.refl _ _).alloc (Nat.le_refl _) _
  have HB := Lib.hid hb
  have HAT := Lib.hid hat
  have HL := Lib.hid hl
  have HC := Lib.hid hc
  have HF := Lib.hid hf
  have HLT : Hid (w.heap.size < (w.alloc (.cells (blC b A c) 25)).heap.size) := Lib.hid hat.lt
  have hfew := hf.few
  clear hat hl hc hb hf
  refine calls_marks Tryz.func33 rfl ?_
  simp only [Tryz.ntmps33, List.size_toArray, List.length_cons, List.length_nil, Nat.reduceAdd, Nat.reduceSub, Array.replicate_succ,
     Array.replicate_zero, List.push_toArray, List.append_toArray, List.nil_append, List.cons_append]
  go_upto_region 1 with fail
  generalize w.alloc (.cells (blC b A c) 25) = w0 at *
  go_wp2_with (refine wpList_load_mid rfl 25 (.tmp 1) rfl w.heap.size 0 rfl (blC b A c).toList _ (range_at HAT.out) Tryz.underlying25 rfl rfl ?_)
  refine (check_any b A c w0 ((HL.out.below HB.out).mono HB.out.size) HC.out (fun x hx => by have := HF.out.labs x hx; omega)).mono ?_
  rintro e w1 ⟨rfl, hb⟩
  have HB1 := Lib.hid (HB.out.trans (hb.mono HB.out.size))
  have HD1 := Lib.hid hb
  clear hb
  by_cases hz : bchk b = 0
  · have HZ := Lib.hid hz
    have HR : Hid (pairV (encB b) = .tuple #[.string (str (fileB b)), .int .i64 0]) := Lib.hid (by unfold encB; rw [if_pos hz]; rfl)
    rw [hz]
    clear hz
    have c3 : w1.cell? ⟨w.heap.size, 3, none⟩ = some (.slice A b.chunks.length c) := (HAT.out.below HD1.out).cell 3
    have HAT1 := Lib.hid (HAT.out.below HD1.out)
    have hl1 := HAT1.out.lt
    have HSZ := Lib.hid (At.new w1 #[.int .i64 0] 3)
    have HW2 : Hid (Below w1.heap.size w1 (w1.alloc (.cells #[.int .i64 0] 3))) := Lib.hid ((Below.refl _ _).alloc (Nat.le_refl _) _)
    have c3' : (w1.alloc (.cells #[.int .i64 0] 3)).cell? ⟨w.heap.size, 3, none⟩ = some (.slice A b.chunks.length c) := (HAT1.out.below HW2.out).cell 3
    clear c3
    go_upto_region 5 with fail
    generalize w1.alloc (.cells #[.int .i64 0] 3) = w2 at *
    go_wp2_with fail
    refine (offsets_any A b.chunks.length c w2).mono ?_
    rintro e w3 ⟨rfl, hw3⟩
    have HO : Hid (At w3 w2.heap.size #[.slice A b.chunks.length c] 23) := Lib.hid (by rw [hw3]; exact At.new _ _ _)
    have HW3 : Hid (Below w1.heap.size w1 w3) := Lib.hid (by rw [hw3]; exact HW2.out.alloc HW2.out.size _)
    have HS3 : Hid (At w3 w1.heap.size #[.int .i64 0] 3) := Lib.hid (by rw [hw3]; exact HSZ.out.alloc _)
    have HBW3 := Lib.hid (HB1.out.trans (HW3.out.mono HB1.out.size))
    obtain ⟨f, hck⟩ := HL.out.choose
    have HCK := Lib.hid hck
    have hbb : w1.heap.size < w3.heap.size := HS3.out.lt
    have hbw : w.heap.size ≤ w3.heap.size := HBW3.out.size
    have hsw : w.heap.size ≤ w1.heap.size := HB1.out.size
    clear hw3 c3' hck
    go_wp2_with fail
    refine range_chunks w.heap.size w1.heap.size w2.heap.size A c b.chunks f rfl rfl HO.out hbb hbw (HCK.out.below HBW3.out) HF.out.data hfew
      (fun k Bx T => (((T.setIfInBounds 20 (.int .i64 (offAt b.chunks k.1))).setIfInBounds 21 (.agg (chC (b.chunks[k]).sig (f k).1 (b.chunks[k]).labs.length (f k).2 (b.chunks[k]).zone (b.chunks[k]).data))).setIfInBounds 6 (.int .i64 (offAt b.chunks k.1))).setIfInBounds 7 (.pointer (some ⟨Bx, 0, none⟩)))
      (fun pre W => At W w1.heap.size #[.int .i64 (endAt b.chunks pre)] 3 ∧ KC w.heap.size w1.heap.size w3 W ∧ w3.heap.size ≤ W.heap.size)
      ?hI (fun pre W h => h.2.2) ⟨HS3.out, KC.refl _ _ _, Nat.le_refl _⟩ ?assign ?body ?done
    case hI =>
      refine OwnFrom.and (fun pre X Y row hs hg hr => ?_) (OwnFrom.and (ownFrom_kc hbw hbw) (fun pre X Y row hs hg hr => Nat.le_trans hs hg.size))
      exact (own_at (β := Unit) (fun _ => w1.heap.size) 3 (fun _ => #[.int .i64 (endAt b.chunks pre)])).from _ () X Y row hs hg hr
    case assign =>
      intro l x W K hK
      have HCHE : Hid (offEnc b.chunks f x = #[.int .i64 (offAt b.chunks x.1), .agg (chC (b.chunks[x]).sig (f x).1 (b.chunks[x]).labs.length (f x).2 (b.chunks[x]).zone (b.chunks[x]).data)]) := Lib.hid rfl
      rw [HCHE.out]
      generalize b.chunks[x] = y at *
      generalize (f x).1 = A' at *
      generalize (f x).2 = c' at *
      gi_wp2_with (refine wpListIn_store_at rfl 58 (.tmp 7) (.tmp 21) rfl W.heap.size (chC y.sig A' y.labs.length c' y.zone y.data) rfl rfl 58 chZ (At.new _ _ _) size_chunk rfl (chC_one _ _ _ _ _ _) ?_)
      intro W' hW'
      gi_wp2
      exact hW'
    case body =>
      rintro l pre x Bx W ⟨hs, hkc, hsz⟩ hBx hat hpre
      have hm : b.chunks[x] ∈ b.chunks := List.getElem_mem x.2
      have hds := HF.out.data _ hm
      have hoff := offAt_mid HF.out x.1
      have hst : offAt b.chunks (x.1 + 1) = offAt b.chunks x.1 + ((b.chunks[x]).data.size + 4) := offAt_step x.2
      have HFIN : Hid (∀ a', ownPostG w3.heap.size (KC w.heap.size w1.heap.size) (fun pre W => At W w1.heap.size #[.int .i64 (endAt b.chunks pre)] 3 ∧ KC w.heap.size w1.heap.size w3 W ∧ w3.heap.size ≤ W.heap.size) (fun _ _ _ => False) (pre ++ [x]) W .normal a' (W.setCell ⟨w1.heap.size, 0, none⟩ (.int .i64 (((offAt b.chunks x.1 : Nat) : Int) + ((b.chunks[x]).data.size : Nat) + 4)))) := Lib.hid fun a' => by
        have hk2 := KC.setCell w.heap.size w1.heap.size W 0 (.int .i64 (((offAt b.chunks x.1 : Nat) : Int) + ((b.chunks[x]).data.size : Nat) + 4)) hsw
        refine ⟨(KeepsOthers.setCell _ _ _).from _, hk2, ?_, hkc.trans hk2, by simp; omega⟩
        rw [endAt_snoc, hst]
        have h3 := hs.set 0 (.int .i64 (((offAt b.chunks x.1 : Nat) : Int) + ((b.chunks[x]).data.size : Nat) + 4))
        have e : (((offAt b.chunks x.1 + ((b.chunks[x]).data.size + 4) : Nat)) : Int) = ((offAt b.chunks x.1 : Nat) : Int) + ((b.chunks[x]).data.size : Nat) + 4 := by omega
        rw [e]
        exact h3
      have e15 : W.cell? ⟨Bx, 15, none⟩ = some (.string (b.chunks[x]).data) := hat.cell 15
      have hcs : W.cell? ⟨w1.heap.size, 0, none⟩ = some (.int .i64 (endAt b.chunks pre)) := hs.cell 0
      have hfs : W.frozen? ⟨w1.heap.size, 0, none⟩ = false := hs.free 0
      clear hs hkc hat hst hm
      simp only [List.setIfInBounds_toArray, List.set_cons_zero, List.set_cons_succ]
      generalize offAt b.chunks x.1 = off at *
      generalize b.chunks[x] = y at *
      generalize (f x).1 = A' at *
      generalize (f x).2 = c' at *
      gi_wp2_with fail
      exact HFIN.out _
    case done =>
      rintro D W hD ⟨hs, hkc, hsz⟩ hK
      have hend := endAt_le HF.out (List.finRange b.chunks.length)
      have HAT3 := Lib.hid (HAT1.out.below HW3.out)
      have HATW := Lib.hid (HAT3.out.kc hkc (by omega) (by decide))
      have HBWW : Hid (Below w.heap.size w W) := Lib.hid (HBW3.out.trans hkc.below)
      have HKD := Lib.hid hK
      have HSW := Lib.hid hs
      have HDL : Hid ((bdir b).length ≤ 71388) := Lib.hid (by have := HF.out.parts; omega)
      have hcs : W.cell? ⟨w1.heap.size, 0, none⟩ = some (.int .i64 (endAt b.chunks (List.finRange b.chunks.length))) := hs.cell 0
      generalize endAt b.chunks (List.finRange b.chunks.length) = total at *
      clear hs hkc hK
      go_wp2_with (refine wpList_load_mid rfl 25 (.tmp 1) rfl w.heap.size 0 rfl (blC b A c).toList _ (range_at HATW.out) Tryz.underlying25 rfl rfl ?_)
      refine (directory_any b A c W ((HL.out.below HBWW.out).mono HBWW.out.size) HF.out HZ.out).mono ?_
      rintro e w5 ⟨rfl, hb⟩
      have HB5 := Lib.hid (HBWW.out.trans (hb.mono HBWW.out.size))
      have HAT5 := Lib.hid (HATW.out.below hb)
      have HS5 := Lib.hid (HSW.out.below hb)
      have HK5 : Hid (w5.heap[D]? = some (.deferred (some []))) := Lib.hid ((hb.block D (Array.getElem?_eq_some_iff.1 HKD.out).1).trans HKD.out)
      clear hb hcs
      go_wp2_with fail
      refine (sealP_any _ (bdir b) rfl (by have := HDL.out; omega) w5).mono ?_
      rintro e w6 ⟨rfl, hb⟩
      have HB6 := Lib.hid (HB5.out.trans (hb.mono HB5.out.size))
      have HAT6 := Lib.hid (HAT5.out.below hb)
      have HK6 : Hid (w6.heap[D]? = some (.deferred (some []))) := Lib.hid ((hb.block D (Array.getElem?_eq_some_iff.1 HK5.out).1).trans HK5.out)
      have hcs : w6.cell? ⟨w1.heap.size, 0, none⟩ = some (.int .i64 total) := (HS5.out.below hb).cell 0
      have c3 : w6.cell? ⟨w.heap.size, 3, none⟩ = some (.slice A b.chunks.length c) := HAT6.out.cell 3
      have HFN : Hid (datTo b.chunks b.chunks.length ++ sealB (bdir b) ++ sealB (four4 ((sealB (bdir b)).length : Nat)) = fileB b) := Lib.hid (by unfold datTo fileB datB; rw [List.take_length])
      have hln := sealB_len (bdir b)
      have h5 : (sealB (bdir b)).length ≤ 71392 := by have := HDL.out; omega
      generalize sealB (bdir b) = t5 at *
      have HZ5 : Hid ((str t5).size = t5.length) := Lib.hid (str_size t5)
      have hz5 : (str t5).size ≤ 71392 := by rw [HZ5.out]; exact h5
      have HE5 := Lib.hid h5
      clear hb hln h5
      generalize hS5 : str t5 = S5 at *
      have HS5' := Lib.hid hS5
      clear hS5
      have ha1 : (0 : Int) ≤ (total : Int) + (S5.size : Int) := by omega
      have ha2 : (total : Int) + (S5.size : Int) ≤ 142780 := by omega
      obtain ⟨M, hM⟩ : ∃ M : Int, (total : Int) + (S5.size : Int) + 8 = M := ⟨_, rfl⟩
      have hM1 : M ≤ 142788 := by omega
      have hM0 : 0 ≤ M := by omega
      go_upto_region 14 with fail
      clear hcs hM hM1 hM0 ha1 ha2 hend
      have HBLN := Lib.hid (BL.new HB6.out)
      have HK7 : Hid ((w6.alloc (.cells #[.pointer none, .slice none 0 0] 106)).heap[D]? = some (.deferred (some []))) := Lib.hid ((Below.heap_alloc w6 _ D (Array.getElem?_eq_some_iff.1 HK6.out).1).trans HK6.out)
      have c3' : (w6.alloc (.cells #[.pointer none, .slice none 0 0] 106)).cell? ⟨w.heap.size, 3, none⟩ = some (.slice A b.chunks.length c) := (HAT6.out.alloc _).cell 3
      have H0 : Hid (BL w w6.heap.size (datTo b.chunks 0) (w6.alloc (.cells #[.pointer none, .slice none 0 0] 106))) := Lib.hid HBLN.out
      have HBD : Hid (w.heap.size ≤ D) := Lib.hid (Nat.le_trans hbw hD)
      clear c3 HBLN
      go_upto_region 15 with fail
      generalize w6.alloc (.cells #[.pointer none, .slice none 0 0] 106) = w7 at *
      go_wp2_with fail
      go_loopw [42] (fun i wr => ∃ k : Nat, k ≤ b.chunks.length ∧ i = .int .i64 k ∧ Hid (BL w w6.heap.size (datTo b.chunks k) wr) ∧ Hid (wr.heap[D]? = some (.deferred (some [])))) (fun i _ => b.chunks.length - (intOf i).toNat)
      case atStart => exact ⟨0, Nat.zero_le _, rfl, H0, HK7⟩
      case round =>
        obtain ⟨k, hk, rfl, HBL, HKR⟩ := hrel
        have hlk : (datTo b.chunks k).length ≤ 71388 := by have h1 := datTo_le b k; have h2 := HF.out.parts; omega
        by_cases hlt : k < b.chunks.length
        · obtain ⟨g, o, A2, c2, hAA, hg, HRG, HLB, HCL⟩ := (HL.out.below HBL.out.below).get k hlt
          have HST := Lib.hid (datTo_step hlt)
          have hds := HF.out.data _ (List.getElem_mem hlt)
          obtain ⟨x, hx⟩ : ∃ x, b.chunks[k] = x := ⟨_, rfl⟩
          rw [hx] at HRG HST hds
          subst hAA
          clear hx HLB HCL
          have HLK : Hid ((datTo b.chunks k).length ≤ 71388) := Lib.hid (by omega)
          clear hlk
          go_wp2_with (first | (refine wpList_load_mid rfl 58 (.tmp 44) rfl g (o + k * 16) rfl (chC x.sig A2 _ c2 x.zone x.data).toList _ HRG.out Tryz.underlying58 rfl size_chunk ?_) | (refine wpList_store_at rfl 58 (.tmp 11) (.tmp 45) rfl wr.heap.size (chC x.sig A2 _ c2 x.zone x.data) rfl rfl 58 _ (At.new _ _ _) size_chunk rfl (chC_one _ _ _ _ _ _) ?_))
          intro w8 HW8
          have HRR : Hid (Below wr.heap.size wr w8) := Lib.hid (by rw [HW8.out]; exact below_row ((Below.refl _ _).alloc (Nat.le_refl _) _) _ _ (Nat.le_refl _))
          have e15 : w8.cell? ⟨wr.heap.size, 15, none⟩ = some (.string x.data) := by rw [HW8.out]; exact (At.new wr _ 58).row.cell 15
          clear HW8
          go_wp2_with fail
          refine (sealP_any x.data (bs x.data) (by rw [str_bs]) (by rw [bs_length]; omega) w8).mono ?_
          rintro e w9 ⟨rfl, hb⟩
          have HB9 := Lib.hid (HRR.out.trans (hb.mono HRR.out.size))
          have HBL9 := Lib.hid (HBL.out.later HB9.out)
          have HK9 : Hid (w9.heap[D]? = some (.deferred (some []))) := Lib.hid ((HB9.out.block D (Array.getElem?_eq_some_iff.1 HKR.out).1).trans HKR.out)
          have hs4 := sealB_len (bs x.data)
          rw [bs_length] at hs4
          clear hb e15
          go_wp2_with fail
          refine (writeStringS_any w w6.heap.size _ (str (sealB (bs x.data))) w9 HBL9.out (by rw [str_size]; have := HLK.out; omega)).mono ?_
          rintro e w10 ⟨rfl, hbl, hok, _⟩
          have HBL10 : Hid (BL w w6.heap.size (datTo b.chunks (k + 1)) w10) := Lib.hid (by rw [HST.out]; exact hbl)
          have HK10 := Lib.hid (defer_ok8 HK9.out hok HBL9.out)
          clear hbl hok hs4
          go_wp2_with fail
          go_roundw
          case rel => exact ⟨k + 1, hlt, by go_num, HBL10, HK10⟩
          case measure => simp [intOf]; omega
        · have hke : k = b.chunks.length := by omega
          subst hke
          have HLK : Hid ((datTo b.chunks b.chunks.length).length ≤ 71388) := Lib.hid (by omega)
          clear hlk
          go_wp2_with fail
          refine (writeStringS_any w w6.heap.size _ S5 wr HBL.out (by have := HLK.out; omega)).mono ?_
          rintro e w8 ⟨rfl, hbl, hok, _⟩
          have HBL8 : Hid (BL w w6.heap.size (datTo b.chunks b.chunks.length ++ t5) w8) := Lib.hid (by rw [← HS5'.out] at hbl; exact hbl)
          have HK8 := Lib.hid (defer_ok8 HKR.out hok HBL.out)
          clear hbl hok
          go_wp2_with fail
          refine (four_any (S5.size : Nat) w8 (by omega) (by omega)).mono ?_
          rintro e w9 ⟨rfl, hb⟩
          have HBL9 := Lib.hid (HBL8.out.later hb)
          have HK9 : Hid (w9.heap[D]? = some (.deferred (some []))) := Lib.hid ((hb.block D (Array.getElem?_eq_some_iff.1 HK8.out).1).trans HK8.out)
          clear hb
          go_wp2_with fail
          refine (sealP_any _ (four4 (S5.size : Nat)) rfl (by show 4 ≤ 100000; omega) w9).mono ?_
          rintro e w10 ⟨rfl, hb⟩
          have HBL10 := Lib.hid (HBL9.out.later hb)
          have HK10 : Hid (w10.heap[D]? = some (.deferred (some []))) := Lib.hid ((hb.block D (Array.getElem?_eq_some_iff.1 HK9.out).1).trans HK9.out)
          clear hb
          go_wp2_with fail
          refine (writeStringS_any w w6.heap.size _ (str (sealB (four4 (S5.size : Nat)))) w10 HBL10.out (by rw [str_size, sealB_len, List.length_append]; have := HLK.out; have := HE5.out; show _ + _ + (4 + 4) ≤ _; omega)).mono ?_
          rintro e w11 ⟨rfl, hbl, hok, _⟩
          have HFL : Hid (BL w w6.heap.size (fileB b) w11) := Lib.hid (by rw [← HFN.out, ← HZ5.out]; exact hbl)
          have HK11 := Lib.hid (defer_ok8 HK10.out hok HBL10.out)
          clear hbl hok
          go_wp2_with fail
          refine (bstringK_any w _ _ w11 HFL.out).mono ?_
          rintro e w12 ⟨rfl, hb, hok⟩
          have HB12 := Lib.hid hb
          have HK12 := Lib.hid (defer_ok8 HK11.out hok HFL.out)
          clear hb hok
          go_wp2_with fail
          refine marks_ret1 HK12.out (results_tmp2 rfl _ _ _) ⟨by rw [HR.out]; rfl, ?_⟩
          exact HB12.out.grown (grownBy_putObj' w12 D (.deferred none)) HB12.out.size (fun k e => by cases e; exact HBD.out)
  · have HR : Hid (pairV (encB b) = .tuple #[.string ⟨#[]⟩, .int .i64 (bchk b)]) := Lib.hid (by unfold encB; rw [if_neg hz]; rfl)
    have d : (bchk b != 0) = true := bne_iff_ne.2 hz
    clear hz
    go_wp2_with fail
    refine marks_ret (results_tmp2 rfl _ _ _) ⟨?_, HB1.out⟩
    rw [HR.out]
    rfl
end Go.Proofs.YtoojpfcnekpboaaGreat
