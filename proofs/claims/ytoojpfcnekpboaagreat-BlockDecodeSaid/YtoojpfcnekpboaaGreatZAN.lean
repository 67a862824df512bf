/- Walks: a block is checked (the reference's). Walks: a number is appended (the reference's). -/
import Derived.Test.YtoojpfcnekpboaaGreatZAM
import Derived.Test.YtoojpfcnekpboaaGreatZAE
namespace Go.Proofs.YtoojpfcnekpboaaGreat
open Go.RowKit

set_option maxRecDepth 100000 in
set_option maxHeartbeats 8000000 in
theorem checkR_any (b : Blk) (A : Option Addr) (c : Nat) (w : World) (hl : ChksIn w.heap.size w A b.chunks) (hc : b.chunks.length ≤ c) (hn : ∀ x ∈ b.chunks, x.labs.length ≤ 9223372036854775807 ∧ ∀ y ∈ x.labs, y.name.size ≤ 140737488351232) :
    Calls Tryz.prog 101 #[.agg (blC b A c)] w fun e w' => e = .returned (.int .i64 (bchk b)) ∧ Below w.heap.size w w' := by
  have hat := At.new w (blC b A c) 25
  have hb : Below w.heap.size w (w.alloc (.cells (blC b A c) 25)) := (Below.refl _ _).alloc (Nat.le_refl _) _
  have HB := Lib.hid hb
  have HAT := Lib.hid hat
  have HL := Lib.hid hl
  have HC := Lib.hid hc
  have HN := Lib.hid hn
  clear hat hl hc hb hn
  go_enter Tryz.func101, Tryz.ntmps101
  go_upto_region 1 with fail
  generalize w.alloc (.cells (blC b A c) 25) = w0 at *
  have c0 : w0.cell? ⟨w.heap.size, 0, none⟩ = some (.int .i64 b.id) := HAT.out.cell 0
  by_cases h0 : b.id < 1
  · have HR : Hid (bchk b = 2) := Lib.hid (by unfold bchk; rw [if_pos (.inl h0)])
    go_wp2_with fail
    go_ret
    exact ⟨ret_int HR.out.symm, HB.out⟩
  by_cases h1 : 1152921504606846976 < b.id
  · have HR : Hid (bchk b = 2) := Lib.hid (by unfold bchk; rw [if_pos (.inr h1)])
    go_wp2_with fail
    go_ret
    exact ⟨ret_int HR.out.symm, HB.out⟩
  have c1 : w0.cell? ⟨w.heap.size, 1, none⟩ = some (.int .i64 b.width) := HAT.out.cell 1
  have HA : Hid (¬ (b.id < 1 ∨ 1152921504606846976 < b.id)) := Lib.hid (by omega)
  by_cases h2 : b.width < 0
  · have HR : Hid (bchk b = 2) := Lib.hid (by unfold bchk; rw [if_neg HA.out, if_pos (.inl h2)])
    go_wp2_with fail
    go_ret
    exact ⟨ret_int HR.out.symm, HB.out⟩
  by_cases h3 : 1099511627776 < b.width
  · have HR : Hid (bchk b = 2) := Lib.hid (by unfold bchk; rw [if_neg HA.out, if_pos (.inr h3)])
    go_wp2_with fail
    go_ret
    exact ⟨ret_int HR.out.symm, HB.out⟩
  have HW0 : Hid (0 ≤ b.width) := Lib.hid (by omega)
  have HBB : Hid (¬ (b.width < 0 ∨ 1099511627776 < b.width)) := Lib.hid (by omega)
  have c2 : w0.cell? ⟨w.heap.size, 2, none⟩ = some (.int .i64 b.fr) := HAT.out.cell 2
  by_cases h4 : b.fr < 0
  · have HR : Hid (bchk b = 2) := Lib.hid (by unfold bchk; rw [if_neg HA.out, if_neg HBB.out, if_pos (.inl h4)])
    go_wp2_with fail
    go_ret
    exact ⟨ret_int HR.out.symm, HB.out⟩
  by_cases h5 : 1099511627776 < b.fr
  · have HR : Hid (bchk b = 2) := Lib.hid (by unfold bchk; rw [if_neg HA.out, if_neg HBB.out, if_pos (.inr (.inl h5))])
    go_wp2_with fail
    go_ret
    exact ⟨ret_int HR.out.symm, HB.out⟩
  have c3 : w0.cell? ⟨w.heap.size, 3, none⟩ = some (.slice A b.chunks.length c) := HAT.out.cell 3
  by_cases hwz : b.width = 0 ∧ b.fr ≠ 0
  · have HR : Hid (bchk b = 2) := Lib.hid (by unfold bchk; rw [if_neg HA.out, if_neg HBB.out, if_pos (.inr (.inr hwz))])
    have d1 : (b.width == 0) = true := beq_iff_eq.2 hwz.1
    have d2 : 0 < b.fr := by have := hwz.2; omega
    clear hwz
    go_wp2_with fail
    go_ret
    exact ⟨ret_int HR.out.symm, HB.out⟩
  have HCC : Hid (¬ (b.fr < 0 ∨ 1099511627776 < b.fr ∨ (b.width = 0 ∧ b.fr ≠ 0))) := Lib.hid (by omega)
  have HR0 : Hid (bchk b = if 4000 < b.chunks.length then 4 else bchkFrom b.width none b.chunks) := Lib.hid (by unfold bchk; rw [if_neg HA.out, if_neg HBB.out, if_neg HCC.out])
  obtain ⟨p, hp⟩ : ∃ p, (b.width == 0) = p := ⟨_, rfl⟩
  obtain ⟨q, hq⟩ : ∃ q, decide (0 < b.fr) = q := ⟨_, rfl⟩
  have hpq : (p && q) = false := by
    rw [← hp, ← hq]
    rw [Bool.and_eq_false_iff]
    rcases Decidable.em (b.width = 0) with h | h
    · right
      rcases Decidable.em (b.fr = 0) with h6 | h6
      · simp [h6]
      · exact absurd ⟨h, h6⟩ hwz
    · left; simp [h]
  clear hwz HA HBB HCC
  by_cases h6 : 4000 < b.chunks.length
  · have HR : Hid (bchk b = 4) := Lib.hid (by rw [HR0.out, if_pos h6])
    have h7 : (4000 : Int) < (b.chunks.length : Int) := by omega
    cases p <;> cases q
    all_goals first
      | (cases hpq; done)
      | (go_wp2_with fail
         go_ret
         exact ⟨ret_int HR.out.symm, HB.out⟩)
  have HR1 : Hid (bchk b = bchkAt b.width b.chunks 0) := Lib.hid (by rw [HR0.out, if_neg h6]; rfl)
  clear HR0
  cases p <;> cases q
  case true.true => cases hpq
  all_goals
    go_wp2_with fail
    clear c0 c1 c2 c3 h0 h1 h2 h3 h4 h5 hp hq hpq
    go_loopw [3] (fun i wr => ∃ k : Nat, k ≤ b.chunks.length ∧ i = .int .i64 k ∧ Hid (bchk b = bchkAt b.width b.chunks k) ∧ Hid (Below w0.heap.size w0 wr)) (fun i _ => b.chunks.length - (intOf i).toNat)
    case atStart => exact ⟨0, Nat.zero_le _, rfl, HR1, Lib.hid (Below.refl _ _)⟩
    case round =>
      obtain ⟨k, hk, rfl, HK, HD⟩ := hrel
      have HB1 := Lib.hid (HB.out.trans (HD.out.mono HB.out.size))
      have c3 : wr.cell? ⟨w.heap.size, 3, none⟩ = some (.slice A b.chunks.length c) := (HAT.out.below HD.out).cell 3
      have c1 : wr.cell? ⟨w.heap.size, 1, none⟩ = some (.int .i64 b.width) := (HAT.out.below HD.out).cell 1
      by_cases hlt : k < b.chunks.length
      · obtain ⟨g, o, A', c', rfl, hg, HRG, HLB, HCL⟩ := (HL.out.below HB1.out).get k hlt
        have HNK := Lib.hid (HN.out _ (List.getElem_mem hlt))
        obtain ⟨x, hx⟩ : ∃ x, b.chunks[k] = x := ⟨_, rfl⟩
        rw [hx] at HRG HLB HCL HNK
        have HX := Lib.hid hx
        clear hx
        have hi1 : (0 : Int) ≤ (k : Int) := by omega
        have hi2 : (k : Int) < (b.chunks.length : Int) := by omega
        go_wp2_with fail
        refine wp_region_still_tail 7 (by kernel_rfl) (by kernel_rfl) ?_
        simp only [List.take_succ_cons, List.take_zero, List.drop_succ_cons, List.drop_zero]
        still_step
        still_step
        still_step
        still_step
        still_step
        still_step
        refine wpStill_load_midG rfl 58 (.tmp 59) rfl g (o + k * 16) rfl (chC x.sig A' x.labs.length c' x.zone x.data).toList _ HRG.out Tryz.underlying58 rfl size_chunk ?_
        refine wpStill_nil ?_
        change wpList _ _ _ _ _ wr.drew
        have HB2 : Hid (Below w.heap.size w wr.drew) := Lib.hid (bN HB1.out 1)
        have HD2 : Hid (Below w0.heap.size w0 wr.drew) := Lib.hid (bN HD.out 1)
        have HLX : Hid (LabsIn wr.drew.heap.size wr.drew A' x.labs) := Lib.hid (HLB.out.mono HB1.out.size)
        clear c1 c3 HB1 HD HLB HRG
        generalize wr.drew = w1 at *
        go_wp2_with fail
        refine (checkChunkR_any x A' c' b.width w1 HW0.out HLX.out HCL.out HNK.out.2).mono ?_
        rintro e w2 ⟨rfl, hb⟩
        have HB3 := Lib.hid (HB2.out.trans (hb.mono HB2.out.size))
        have HD3 := Lib.hid (HD2.out.trans (hb.mono HD2.out.size))
        have HLX2 : Hid (LabsIn w2.heap.size w2 A' x.labs) := Lib.hid ((HLX.out.below hb).mono hb.size)
        clear hb HB2 HD2 HLX
        by_cases hz : cchk x b.width = 0
        · have HZ := Lib.hid hz
          rw [hz]
          clear hz
          by_cases hk0 : k = 0
          · subst hk0
            have HKN : Hid (bchk b = bchkAt b.width b.chunks 1) := Lib.hid (by rw [HK.out]; exact bchkAt_first hlt (by rw [HX.out]; exact HZ.out))
            go_wp2_with fail
            go_quiet (fail)
            go_wp2_with fail
            go_roundw
            case rel => exact ⟨1, hlt, by go_num, HKN, Lib.hid (bN HD3.out _)⟩
            case measure => simp [intOf]; omega
          · obtain ⟨g', o', A2, c2, he, hg', HRG', HLB', HCL'⟩ := (HL.out.below HB3.out).get (k - 1) (by omega)
            obtain ⟨rfl, rfl⟩ : g = g' ∧ o = o' := by cases he; exact ⟨rfl, rfl⟩
            obtain ⟨y, hy⟩ : ∃ y, b.chunks[k - 1] = y := ⟨_, rfl⟩
            rw [hy] at HRG' HLB' HCL'
            have HY := Lib.hid hy
            clear hy he
            obtain ⟨g2, o2, A3, c4, he, hg2, HRG, HLB, HCL3⟩ := (HL.out.below HB3.out).get k hlt
            obtain ⟨rfl, rfl⟩ : g = g2 ∧ o = o2 := by cases he; exact ⟨rfl, rfl⟩
            rw [HX.out] at HRG HLB HCL3
            clear he HLX2
            have c3 : w2.cell? ⟨w.heap.size, 3, none⟩ = some (.slice (some ⟨g, o, none⟩) b.chunks.length c) := (HAT.out.below HD3.out).cell 3
            have hk1 : 0 < k := by omega
            have hw : IntKind.i64.wrap ((k : Int) - 1) = ((k - 1 : Nat) : Int) := by
              rw [show ((k : Int) - 1) = ((k - 1 : Nat) : Int) by omega]
              rw [IntKind.wrap_i64]
              omega
            have hj1 : (0 : Int) ≤ ((k - 1 : Nat) : Int) := by omega
            have hj2 : ((k - 1 : Nat) : Int) < (b.chunks.length : Int) := by omega
            go_wp2_with fail
            refine wp_region_still_tail 14 (by kernel_rfl) (by kernel_rfl) ?_
            simp only [List.take_succ_cons, List.take_zero, List.drop_succ_cons, List.drop_zero]
            still_step
            still_step
            still_step
            still_step
            still_step
            still_step
            still_step
            still_step
            refine wpStill_load_midG rfl 58 (.tmp 72) rfl g (o + (k - 1) * 16) rfl (chC y.sig A2 y.labs.length c2 y.zone y.data).toList _ HRG'.out Tryz.underlying58 rfl size_chunk ?_
            still_step
            still_step
            still_step
            still_step
            refine wpStill_load_midG rfl 58 (.tmp 77) rfl g (o + k * 16) rfl (chC x.sig A3 x.labs.length c4 x.zone x.data).toList _ HRG.out Tryz.underlying58 rfl size_chunk ?_
            refine wpStill_nil ?_
            change wpList _ _ _ _ _ w2.drew
            have HB4 : Hid (Below w.heap.size w w2.drew) := Lib.hid (bN HB3.out 1)
            have HD4 : Hid (Below w0.heap.size w0 w2.drew) := Lib.hid (bN HD3.out 1)
            have HLX : Hid (LabsIn w2.drew.heap.size w2.drew A3 x.labs) := Lib.hid (HLB.out.mono HB3.out.size)
            have HLY : Hid (LabsIn w2.drew.heap.size w2.drew A2 y.labs) := Lib.hid (HLB'.out.mono HB3.out.size)
            have HNY : Hid (y.labs.length ≤ 9223372036854775807) := Lib.hid (by rw [← HY.out]; exact (HN.out _ (List.getElem_mem _)).1)
            clear c3 HRG HRG' HLB' HLB HB3 HD3
            generalize w2.drew = w3 at *
            go_wp2_with fail
            refine (compareR_any y x A2 A3 c2 c4 w3 HLY.out HCL'.out HLX.out HCL3.out HNY.out).mono ?_
            rintro e w4 ⟨rfl, hb⟩
            have HB5 := Lib.hid (HB4.out.trans (hb.mono HB4.out.size))
            have HD5 := Lib.hid (HD4.out.trans (hb.mono HD4.out.size))
            clear hb HB4 HD4
            by_cases hz2 : 0 ≤ ccmp y x
            · have HR : Hid (bchk b = 9) := Lib.hid (by rw [HK.out]; exact bchkAt_order hlt hk0 (by rw [HX.out]; exact HZ.out) (by rw [HX.out, HY.out]; exact hz2))
              go_wp2_with fail
              go_ret
              exact ⟨ret_int HR.out.symm, HB5.out⟩
            · have HKN : Hid (bchk b = bchkAt b.width b.chunks (k + 1)) := Lib.hid (by rw [HK.out]; exact bchkAt_more hlt hk0 (by rw [HX.out]; exact HZ.out) (by rw [HX.out, HY.out]; exact hz2))
              go_wp2_with fail
              go_roundw
              case rel => exact ⟨k + 1, hlt, by go_num, HKN, HD5⟩
              case measure => simp [intOf]; omega
        · have HR : Hid (bchk b = cchk x b.width) := Lib.hid (by rw [HK.out, bchkAt_bad hlt (by rw [HX.out]; exact hz), HX.out])
          have d : (cchk x b.width != 0) = true := bne_iff_ne.2 hz
          clear hz
          go_wp2_with fail
          go_ret
          exact ⟨ret_int HR.out.symm, HB3.out⟩
      · have HR : Hid (bchk b = 0) := Lib.hid (by rw [HK.out]; exact bchkAt_end (Nat.le_of_not_lt hlt))
        have hle : ¬ (k : Int) < (b.chunks.length : Int) := by omega
        go_wp2_with fail
        go_ret
        exact ⟨ret_int HR.out.symm, HB1.out⟩
end Go.Proofs.YtoojpfcnekpboaaGreat

namespace Go.Proofs.YtoojpfcnekpboaaGreat
open Go.RowKit

set_option maxRecDepth 100000 in
set_option maxHeartbeats 2000000 in
theorem put01_any (W : World) (n : Nat) (hn : n < 9223372036854775808) :
    Calls Tryz.prog 180 #[.int .i64 n] W fun e w' => e = .returned (.string (str (vE n))) ∧ Below W.heap.size W w' := by
  have HN := Lib.hid hn
  have HR : Hid (BR W (some ⟨W.heap.size, 0, none⟩) 0 0 [] (W.alloc (.cells #[] 5))) := Lib.hid (BR.lit (Below.refl _ _) [] (by decide))
  clear hn
  go_enter Tryz.func180, Tryz.ntmps180
  go_wp2_with fail
  go_loopg [0, 3] 10 (fun g i v wr => ∃ (x : Nat) (A1 : Option Addr) (m1 c1 : Nat) (l1 : List UInt8), 0 < g ∧ x < 128 ^ g ∧ x < 9223372036854775808 ∧ v = .slice A1 m1 c1 ∧ i = .int .i64 x ∧ Hid (l1 ++ vEf g x = vE n) ∧ Hid (m1 + g ≤ 10) ∧ BR W A1 m1 c1 l1 wr)
  case atStart => exact ⟨n, _, 0, 0, [], by decide, by have := HN.out; omega, HN.out, rfl, rfl, Lib.hid rfl, Lib.hid (Nat.le_refl _), HR.out⟩
  case round =>
    obtain ⟨x, A1, m1, c1, l1, hg, hx, hx2, rfl, rfl, HE, HM, hbr⟩ := hrel
    have HBR := Lib.hid hbr
    have HX := Lib.hid hx
    have HX2 := Lib.hid hx2
    clear hbr hx hx2
    obtain ⟨f, rfl⟩ : ∃ f, gk = f + 1 := ⟨gk - 1, by omega⟩
    by_cases h : x < 128
    · have HV : Hid (vEf (f + 1) x = [UInt8.ofNat x]) := Lib.hid (vEf_small h)
      have hi : (x : Int) < 128 := by omega
      have e1 : Hid (#[Value.int .u8 (x : Int)] = (([UInt8.ofNat x] : List UInt8).map u8W).toArray) := Lib.hid (u8_one x (by omega))
      go_wp2_with (at_builtin; (refine wpList_bytesV rfl (.tmp 16) (.tmp 19) rfl HBR.out [UInt8.ofNat x] _ e1.out (by simp) rfl rfl (by have := HM.out; simp; omega) ?_))
      intro A' m' c' l' w' HE2 hq _
      have HQ : Hid (BR W A' m' c' l' w') := Lib.hid hq
      have kc := hq.str
      have HS : Hid (str l' = str (vE n)) := Lib.hid (by rw [HE2.out, ← HE.out, HV.out])
      rw [HS.out] at kc
      clear hq e1
      go_wp2_with fail
      go_ret
      exact ⟨rfl, HQ.out.below⟩
    · have HV : Hid (vEf (f + 1) x = UInt8.ofNat (x % 128 + 128) :: vEf f (x / 128)) := Lib.hid (vEf_more (by omega))
      have e4 : Hid (#[Value.int .u8 ((x : Int) % 128 + 128)] = (([UInt8.ofNat (x % 128 + 128)] : List UInt8).map u8W).toArray) := Lib.hid (u8_one (x % 128 + 128) (by omega))
      have h2 : (128 : Int) ≤ (x : Int) := by omega
      have hw : (x : Int) ≤ 9223372036854775807 := by have := HX2.out; omega
      go_wp2_with (at_builtin; (refine wpList_bytesV rfl (.tmp 7) (.tmp 12) rfl HBR.out [UInt8.ofNat (x % 128 + 128)] _ e4.out (by simp) rfl rfl (by have := HM.out; simp; omega) ?_))
      intro A' m' c' l' w' HE2 hq _
      have HQ : Hid (BR W A' m' c' l' w') := Lib.hid hq
      have HML : Hid (m' = m1 + 1) := Lib.hid (by have h1 := hq.len; rw [HE2.out, List.length_append, HBR.out.len] at h1; simpa using h1.symm)
      have HF : Hid (0 < f ∧ x / 128 < 128 ^ f) := Lib.hid (by
        have h1 := HX.out
        rw [Nat.pow_succ] at h1
        refine ⟨?_, Nat.div_lt_of_lt_mul (by omega)⟩
        rcases Nat.eq_zero_or_pos f with rfl | hk
        · simp at h1; omega
        · exact hk)
      clear hq e4
      go_wp2_with fail
      clear hw
      go_roundg f
      case measure => exact Nat.lt_succ_self _
      case rel => exact ⟨x / 128, A', m', c', l', HF.out.1, HF.out.2, by have := HX2.out; omega, rfl, by first | rfl | go_num, Lib.hid (by rw [HE2.out, ← HE.out, HV.out]; simp), Lib.hid (by have := HM.out; have := HML.out; omega), HQ.out⟩

set_option maxRecDepth 100000 in
set_option maxHeartbeats 1000000 in
theorem append01_any (s : ByteArray) (n : Int) (w : World) (hs : s.size ≤ 1000000000) :
    Calls Tryz.prog 162 #[.string s, .int .i64 n] w fun e w' => e = .returned (pairV (appR s n)) ∧ Below w.heap.size w w' := by
  by_cases h0 : n < 0
  · have HR : Hid (appR s n = (⟨#[]⟩, 2)) := Lib.hid (by unfold appR; rw [if_pos (.inl h0)])
    rw [HR.out]
    unfold pairV
    go_enter Tryz.func162, Tryz.ntmps162
    go_wp2_with fail
    go_ret2
    exact ⟨rfl, Below.refl _ _⟩
  by_cases h1 : 1152921504606846976 < n
  · have HR : Hid (appR s n = (⟨#[]⟩, 2)) := Lib.hid (by unfold appR maxI; rw [if_pos (.inr h1)])
    rw [HR.out]
    unfold pairV
    go_enter Tryz.func162, Tryz.ntmps162
    go_wp2_with fail
    go_ret2
    exact ⟨rfl, Below.refl _ _⟩
  · obtain ⟨m, rfl⟩ := Int.eq_ofNat_of_zero_le (show 0 ≤ n by omega)
    have HR : Hid (appR s (m : Int) = (s ++ str (vE m), 0)) := Lib.hid (by unfold appR maxI; rw [if_neg (by omega)]; rfl)
    have HA := Lib.hid (fun w => put01_any w m (by omega))
    have hz := str_vE_size m
    have HZ := Lib.hid hz
    rw [HR.out]
    unfold pairV
    generalize hV : str (vE m) = V at *
    have hk : ¬ 9223372036854775807 < s.size + V.size := by omega
    clear hz hV
    go_enter Tryz.func162, Tryz.ntmps162
    go_wp2_with fail
    refine (HA.out _).mono ?_
    rintro e w1 ⟨rfl, hb⟩
    have HB := Lib.hid hb
    clear hb
    go_wp2_with fail
    go_ret2
    exact ⟨rfl, HB.out⟩

set_option maxRecDepth 100000 in
set_option maxHeartbeats 1000000 in
theorem appendSigned01_any (s : ByteArray) (n : Int) (w : World) (hs : s.size ≤ 1000000000) :
    Calls Tryz.prog 164 #[.string s, .int .i64 n] w fun e w' => e = .returned (pairV (appS s n)) ∧ Below w.heap.size w w' := by
  by_cases h0 : n < -1152921504606846976
  · have HR : Hid (appS s n = (⟨#[]⟩, 2)) := Lib.hid (by unfold appS maxI; rw [if_pos (.inl h0)])
    rw [HR.out]
    unfold pairV
    go_enter Tryz.func164, Tryz.ntmps164
    go_wp2_with fail
    go_ret2
    exact ⟨rfl, Below.refl _ _⟩
  by_cases h1 : 1152921504606846976 < n
  · have HR : Hid (appS s n = (⟨#[]⟩, 2)) := Lib.hid (by unfold appS maxI; rw [if_pos (.inr h1)])
    rw [HR.out]
    unfold pairV
    go_enter Tryz.func164, Tryz.ntmps164
    go_wp2_with fail
    go_ret2
    exact ⟨rfl, Below.refl _ _⟩
  · have HR : Hid (appS s n = (s ++ str (vE (zig n)), 0)) := Lib.hid (by unfold appS maxI; rw [if_neg (by omega)])
    have hz := str_vE_size (zig n)
    have h0' : -1152921504606846976 ≤ n := by omega
    have h1' : n ≤ 1152921504606846976 := by omega
    rw [HR.out]
    unfold pairV
    by_cases hn : n < 0
    · have ez : (zig n : Int) = -2 * n - 1 := by rw [zig_neg hn]; omega
      have HA : Hid (∀ w, Calls Tryz.prog 180 #[.int .i64 (-2 * n - 1)] w fun e w' => e = .returned (.string (str (vE (zig n)))) ∧ Below w.heap.size w w') := Lib.hid fun w => by rw [← ez]; exact put01_any w (zig n) (by omega)
      generalize hV : str (vE (zig n)) = V at *
      have hk : ¬ 9223372036854775807 < s.size + V.size := by omega
      clear hz hV ez h0 h1
      go_enter Tryz.func164, Tryz.ntmps164
      go_wp2_with fail
      refine (HA.out _).mono ?_
      rintro e w1 ⟨rfl, hb⟩
      have HB := Lib.hid hb
      clear hb
      go_wp2_with fail
      go_ret2
      exact ⟨rfl, HB.out⟩
    · have ez : (zig n : Int) = 2 * n := zig_nonneg (by omega)
      have HA : Hid (∀ w, Calls Tryz.prog 180 #[.int .i64 (2 * n)] w fun e w' => e = .returned (.string (str (vE (zig n)))) ∧ Below w.heap.size w w') := Lib.hid fun w => by rw [← ez]; exact put01_any w (zig n) (by omega)
      generalize hV : str (vE (zig n)) = V at *
      have hk : ¬ 9223372036854775807 < s.size + V.size := by omega
      clear hz hV ez h0 h1
      go_enter Tryz.func164, Tryz.ntmps164
      go_wp2_with fail
      refine (HA.out _).mono ?_
      rintro e w1 ⟨rfl, hb⟩
      have HB := Lib.hid hb
      clear hb
      go_wp2_with fail
      go_ret2
      exact ⟨rfl, HB.out⟩
end Go.Proofs.YtoojpfcnekpboaaGreat
