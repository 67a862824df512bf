/- Walks: a label that is read (a closure of the program's parse). -/
import Derived.Test.YtoojpfcnekpboaaGreatZAZ
namespace Go.Proofs.YtoojpfcnekpboaaGreat
open Go.RowKit

def skF (Bs Ba : Nat) : Value := .func (.func 176) #[] #[.pointer (some ⟨Bs, 0, none⟩), .pointer (some ⟨Ba, 0, none⟩)]
theorem lab_one (x : Lab) : (x.cells.all fun v => v.oneCell') = true := by simp [Lab.cells, Value.oneCell']
theorem size_lab : (Tryz.prog.info? 66).map (·.size) = some 2 := by kernel_rfl
/-- The letters from k to j. -/
def TW (s : ByteArray) (k j : Nat) : Prop := ((bs s).drop k).takeWhile letB5 = bs (s.extract k j) ++ ((bs s).drop j).takeWhile letB5 ∧ ((bs s).drop k).dropWhile letB5 = ((bs s).drop j).dropWhile letB5
theorem TW.start (s : ByteArray) (k : Nat) : TW s k k := by
  refine ⟨?_, rfl⟩
  rw [bs_ext, Nat.sub_self]
  simp
theorem ext_snoc (s : ByteArray) (k j : Nat) (h1 : k ≤ j) (h2 : j < s.size) : bs (s.extract k (j + 1)) = bs (s.extract k j) ++ [s[j]] := by
  rw [bs_ext, bs_ext, show j + 1 - k = (j - k) + 1 by omega, List.take_succ_eq_append_getElem (by rw [List.length_drop, bs_length]; omega)]
  congr 2
  rw [List.getElem_drop]
  have : k + (j - k) = j := by omega
  simp only [this]
  rfl
theorem TW.step {s : ByteArray} {k j : Nat} (h : TW s k j) (h1 : k ≤ j) (h2 : j < s.size) (hc : letB5 s[j] = true) : TW s k (j + 1) := by
  obtain ⟨h3, h4⟩ := h
  refine ⟨?_, ?_⟩
  · rw [h3, ext_snoc s k j h1 h2, drop_byte h2, List.takeWhile_cons_of_pos hc]
    simp
  · rw [h4, drop_byte h2, List.dropWhile_cons_of_pos hc]
theorem TW.stop {s : ByteArray} {k j : Nat} (h : TW s k j) (h2 : ∀ h : j < s.size, letB5 s[j] = false) : ((bs s).drop k).takeWhile letB5 = bs (s.extract k j) ∧ ((bs s).drop k).dropWhile letB5 = (bs s).drop j := by
  obtain ⟨h3, h4⟩ := h
  by_cases hj : j < s.size
  · have hc := h2 hj
    rw [h3, h4, drop_byte hj, List.takeWhile_cons_of_neg (by rw [hc]; decide), List.dropWhile_cons_of_neg (by rw [hc]; decide), List.append_nil]
    exact ⟨rfl, rfl⟩
  · rw [h3, h4, drop_end (by omega)]
    simp
theorem Keep.row_new {p : Nat} {a w : World} {c : Array Value} (h : Keep p a w) : Keep p a (w.setRow a.heap.size c) := ⟨h.os, h.tape, h.output, by rw [size_setRow]; exact h.size, fun k hk hne => by rw [setRow_other w _ k c (by omega)]; exact h.block k hk hne⟩
/-- What 'label' answers. -/
def LPost (s : ByteArray) (k Ba : Nat) (w : World) (e : Ending) (w' : World) : Prop :=
  ∃ (x : Lab) (b : Bool) (k' : Nat), e = .returned (.tuple #[.agg x.cells, .bool b]) ∧ At w' Ba #[.int .i64 k'] 3 ∧ k ≤ k' ∧ k' ≤ s.size ∧ (b = true → k < k') ∧ (lab1 ((bs s).drop k) = if b = true then some (x, (bs s).drop k') else none) ∧ Keep Ba w w'
def eqqS : ByteArray := ⟨#[61, 34]⟩
theorem lab1_empty (l : List UInt8) (h : l.takeWhile letB5 = []) : lab1 l = none := by
  unfold lab1
  rw [if_pos h]
theorem lab1_nosign (s : ByteArray) (k j : Nat) (h1 : ((bs s).drop k).dropWhile letB5 = (bs s).drop j) (hj : skB s eqqS j = false) : lab1 ((bs s).drop k) = none := by
  unfold lab1
  split
  · rfl
  · rw [h1]
    split
    · rename_i a b r hd
      rw [if_neg]
      rintro ⟨rfl, rfl⟩
      refine of_decide_eq_false hj ?_
      rw [hd]
      rfl
    · rfl
theorem lab1_sign (s : ByteArray) (k j : Nat) (hn : ((bs s).drop k).takeWhile letB5 = bs (s.extract k j)) (hne : bs (s.extract k j) ≠ []) (h1 : ((bs s).drop k).dropWhile letB5 = (bs s).drop j) (hd : (bs s).drop j = bs eqqS ++ (bs s).drop (j + 2)) :
    lab1 ((bs s).drop k) = (unqL ((bs s).drop (j + 2))).map fun p => (⟨s.extract k j, str p.1⟩, (bs s).drop (j + 2 + p.2)) := by
  unfold lab1
  rw [hn, if_neg hne, h1, hd]
  show (if (61 : UInt8) = 61 ∧ (34 : UInt8) = 34 then _ else _) = _
  rw [if_pos ⟨rfl, rfl⟩]
  congr 1
  funext p
  show (({ name := str (bs (s.extract k j)), value := str p.1 } : Lab), List.drop p.2 (List.drop (j + 2) (bs s))) = _
  rw [List.drop_drop, str_bs]
theorem unq_len (l : List UInt8) (p : List UInt8 × Nat) (h : unqL l = some p) : 0 < p.2 ∧ p.2 ≤ l.length := by
  obtain ⟨t, h1, h2⟩ := unqL_some _ l (Nat.le_refl _) p.1 p.2 h
  rw [h1, h2]
  simp

set_option maxRecDepth 100000 in
set_option maxHeartbeats 4000000 in
theorem label_any (s : ByteArray) (k Bs Ba Bk : Nat) (w : World) (hs : s.size ≤ 1000000) (hk : k ≤ s.size) (h1 : At w Bs #[.string s] 9) (h2 : At w Ba #[.int .i64 k] 3) (t : TypeId) (h3 : At w Bk #[skF Bs Ba] t) (hn1 : Bs ≠ Ba) (hn2 : Bk ≠ Ba) :
    Calls Tryz.prog 177 #[.pointer (some ⟨Ba, 0, none⟩), .pointer (some ⟨Bs, 0, none⟩), .pointer (some ⟨Bk, 0, none⟩)] w (LPost s k Ba w) := by
  have hna : Ba ≠ w.heap.size := by have := h2.lt; omega
  have HX := Lib.hid (At.new w #[.string ⟨#[]⟩, .string ⟨#[]⟩] 66)
  have HKP : Hid (Keep Ba w (w.alloc (.cells #[.string ⟨#[]⟩, .string ⟨#[]⟩] 66))) := Lib.hid ((Keep.refl _ _).alloc _)
  have HS := Lib.hid (h1.alloc (.cells #[.string ⟨#[]⟩, .string ⟨#[]⟩] 66))
  have HA := Lib.hid (h2.alloc (.cells #[.string ⟨#[]⟩, .string ⟨#[]⟩] 66))
  have HK := Lib.hid (h3.alloc (.cells #[.string ⟨#[]⟩, .string ⟨#[]⟩] 66))
  have HSZ := Lib.hid hs
  have HN := Lib.hid (And.intro hn1 (And.intro hn2 hna))
  clear h1 h2 h3 hn1 hn2 hna hs
  go_enter Tryz.func177, Tryz.ntmps177
  go_upto_region 1 with fail
  generalize hX : w.heap.size = X at *
  generalize w.alloc (.cells #[.string ⟨#[]⟩, .string ⟨#[]⟩] 66) = w0 at *
  have c2 : w0.cell? ⟨Ba, 0, none⟩ = some (.int .i64 k) := HA.out.cell 0
  have HXW := Lib.hid hX
  clear hX
  go_wp2_with fail
  clear c2
  go_loopw [] (fun wr => ∃ j : Nat, k ≤ j ∧ j ≤ s.size ∧ Hid (TW s k j) ∧ Hid (At wr Ba #[.int .i64 j] 3) ∧ Hid (Keep Ba w0 wr)) (fun wr => s.size - (intOf ((wr.cell? ⟨Ba, 0, none⟩).getD undef)).toNat)
  case atStart => exact ⟨k, Nat.le_refl _, hk, Lib.hid (TW.start s k), HA, Lib.hid (Keep.refl _ _)⟩
  case round =>
    obtain ⟨j, hkj, hjs, HT, HA1, HKW⟩ := hrel
    have HW0 := Lib.hid (HKP.out.trans HKW.out)
    have HS1 := Lib.hid (HS.out.keep HKW.out HN.out.1)
    have HK1 := Lib.hid (HK.out.keep HKW.out HN.out.2.1)
    have HX1 := Lib.hid (HX.out.keep HKW.out HN.out.2.2.symm)
    have c1 : wr.cell? ⟨Bs, 0, none⟩ = some (.string s) := HS1.out.cell 0
    have c2 : wr.cell? ⟨Ba, 0, none⟩ = some (.int .i64 j) := HA1.out.cell 0
    have f2 : wr.frozen? ⟨Ba, 0, none⟩ = false := HA1.out.free 0
    have hjm : (j : Int) ≤ 1000000 := by have := HSZ.out; omega
    by_cases hgo : ∃ h : j < s.size, letB5 s[j] = true
    · obtain ⟨hjl, hc⟩ := hgo
      have hj2 : (j : Int) < (s.size : Int) := by omega
      have HT2 := Lib.hid (HT.out.step hkj hjl hc)
      obtain ⟨c, hcx⟩ : ∃ c, s[j] = c := ⟨_, rfl⟩
      rw [hcx] at hc
      have HC := Lib.hid hc
      clear hc
      have HA2 : Hid (At (wr.setCell ⟨Ba, 0, none⟩ (.int .i64 ((j : Int) + 1))) Ba #[.int .i64 ((j + 1 : Nat) : Int)] 3) := Lib.hid (HA1.out.set 0 _)
      have HKW2 : Hid (Keep Ba w0 (wr.setCell ⟨Ba, 0, none⟩ (.int .i64 ((j : Int) + 1)))) := Lib.hid (HKW.out.set 0 _)
      go_wp2_with fail
      refine (isNameByte_any c wr).mono ?_
      rintro e w' ⟨rfl, rfl⟩
      rw [HC.out]
      go_upto_region 3 with fail
      go_wp2_with fail
      have hcell : (w'.setCell ⟨Ba, 0, none⟩ (.int .i64 ((j : Int) + 1))).cell? ⟨Ba, 0, none⟩ = some (.int .i64 ((j + 1 : Nat) : Int)) := HA2.out.cell 0
      go_roundw
      case rel => exact ⟨j + 1, by omega, hjl, HT2, HA2, HKW2⟩
      case measure =>
        rw [hcell, c2]
        simp [intOf]
        omega
    · have HST := Lib.hid (HT.out.stop (fun h => by
        cases hq : letB5 s[j] with
        | false => rfl
        | true => exact absurd ⟨h, hq⟩ hgo))
      obtain ⟨N, hN⟩ : ∃ N, s.extract k j = N := ⟨_, rfl⟩
      have hNs : (N.size : Int) ≤ 1000000 := by rw [← hN, ByteArray.size_extract]; have := HSZ.out; omega
      have HNX := Lib.hid hN
      rw [hN] at HST
      have HNL : Hid (((bs s).drop k).takeWhile letB5 = bs N ∧ ((bs s).drop k).dropWhile letB5 = (bs s).drop j) := HST
      clear HST
      by_cases hjl : j < s.size
      all_goals
        first
        | (have hj2 : (j : Int) < (s.size : Int) := by omega
           obtain ⟨c, hcx⟩ : ∃ c, s[j] = c := ⟨_, rfl⟩
           have HC : Hid (letB5 c = false) := Lib.hid (by
             cases hq : letB5 c with
             | false => rfl
             | true => exact absurd ⟨hjl, by rw [hcx]; exact hq⟩ hgo)
           clear hgo
           go_wp2_with fail
           refine (isNameByte_any c wr).mono ?_
           rintro e w' ⟨rfl, rfl⟩
           rw [HC.out])
        | (have hj2 : ¬ (j : Int) < (s.size : Int) := by omega
           clear hgo
           obtain ⟨w', rfl⟩ : ∃ w', w' = wr := ⟨_, rfl⟩)
        go_upto_region 5 with fail
        by_cases hz : N.size = 0
        · have e1 := str_eq hz
          have HNO : Hid (lab1 ((bs s).drop k) = none) := Lib.hid (lab1_empty _ (by rw [HNL.out.1]; exact List.eq_nil_of_length_eq_zero (by rw [bs_length]; exact hz)))
          clear hN hz
          go_wp2_with (refine wpList_store_at rfl 66 (.tmp 3) (.tmp 34) rfl X (Lab.mk ⟨#[]⟩ ⟨#[]⟩).cells rfl rfl 66 _ HX1.out size_lab rfl (lab_one _) ?_)
          intro w9 HW9
          have HX9 : Hid (At w9 X (Lab.mk ⟨#[]⟩ ⟨#[]⟩).cells 66) := Lib.hid (by rw [HW9.out]; exact HX1.out.row)
          have HA9 : Hid (At w9 Ba #[.int .i64 j] 3) := Lib.hid (by rw [HW9.out]; exact ⟨by rw [setRow_other _ _ _ _ HN.out.2.2]; exact HA1.out.out⟩)
          have HK9 : Hid (Keep Ba w w9) := Lib.hid (by rw [HW9.out, ← HXW.out]; exact HW0.out.row_new)
          go_wp2_with fail
          refine bodyPost_ret (results_row_tmp rfl _ _ X 66 _ _ rfl HX9.out Tryz.underlying66 rfl size_lab) rfl ⟨⟨⟨#[]⟩, ⟨#[]⟩⟩, false, j, rfl, HA9.out, hkj, hjs, fun h => (by cases h), HNO.out, HK9.out⟩
        · have e1 := str_ne hz
          have c3 : w'.cell? ⟨Bk, 0, none⟩ = some (.func (.func 176) #[] #[.pointer (some ⟨Bs, 0, none⟩), .pointer (some ⟨Ba, 0, none⟩)]) := HK1.out.cell 0
          by_cases hsk : skB s eqqS j = true
          · obtain ⟨hfit, _, hdj⟩ := skB_fit hsk hjs
            have hfit2 : j + 2 ≤ s.size := hfit
            have HLB := Lib.hid (lab1_sign s k j (by rw [HNL.out.1, HNX.out]) (by
              rw [HNX.out]
              intro h
              have := congrArg List.length h
              rw [bs_length] at this
              exact hz this) HNL.out.2 hdj)
            rw [HNX.out] at HLB
            have HSK := Lib.hid (skip_yes s eqqS j Bs Ba w' HSZ.out hjs HS1.out HA1.out hsk)
            have HA2 : Hid (At (w'.setCell ⟨Ba, 0, none⟩ (.int .i64 ((j + eqqS.size : Nat) : Int))) Ba #[.int .i64 ((j + 2 : Nat) : Int)] 3) := Lib.hid (HA1.out.set 0 _)
            have HW2 := Lib.hid (HW0.out.set 0 (.int .i64 ((j + eqqS.size : Nat) : Int)))
            have HS2 := Lib.hid (HS1.out.other (a := ⟨Ba, 0, none⟩) (.int .i64 ((j + eqqS.size : Nat) : Int)) HN.out.1)
            have HX2 := Lib.hid (HX1.out.other (a := ⟨Ba, 0, none⟩) (.int .i64 ((j + eqqS.size : Nat) : Int)) HN.out.2.2.symm)
            clear hN hz hsk hfit hdj
            go_wp2_with fail
            refine HSK.out.mono ?_
            rintro e w2 ⟨rfl, hw2⟩
            rw [← hw2] at HA2 HW2 HS2 HX2
            clear hw2 c1 c2 c3 f2 HSK HA1 HKW HW0 HS1 HK1 HX1
            have c1 : w2.cell? ⟨Bs, 0, none⟩ = some (.string s) := HS2.out.cell 0
            have c2 : w2.cell? ⟨Ba, 0, none⟩ = some (.int .i64 ((j + 2 : Nat) : Int)) := HA2.out.cell 0
            have hj3 : ((j + 2 : Nat) : Int) ≤ (s.size : Int) := by omega
            have hj4 : (0 : Int) ≤ ((j + 2 : Nat) : Int) := by omega
            obtain ⟨q, hq⟩ : ∃ q, j + 2 = q := ⟨_, rfl⟩
            rw [hq] at c2 hj3 hj4 HA2 HLB
            have HQ : Hid (k < q ∧ q ≤ s.size) := Lib.hid (by omega)
            clear hq hfit2
            go_upto_region 7 with fail
            go_wp2_with fail
            refine (unquoted_any (s.extract q s.size) w2 (by rw [ByteArray.size_extract]; have := HSZ.out; omega)).mono ?_
            rintro e w3 ⟨rfl, hb⟩
            have HA3 := Lib.hid (HA2.out.below hb)
            have HX3 := Lib.hid (HX2.out.below hb)
            have HW3 := Lib.hid (HW2.out.trans (Keep.below hb))
            have HUQ : Hid (bs (s.extract q s.size) = (bs s).drop q) := Lib.hid (cutS_bs s q)
            clear hb c1 c2 HA2 HX2 HW2
            have c2 : w3.cell? ⟨Ba, 0, none⟩ = some (.int .i64 (q : Int)) := HA3.out.cell 0
            have f2 : w3.frozen? ⟨Ba, 0, none⟩ = false := HA3.out.free 0
            have hqm : (q : Int) ≤ 1000000 := by have := HSZ.out; omega
            rcases hu : unqL ((bs s).drop q) with _ | ⟨v, m⟩
            · have HU : Hid (unqV (s.extract q s.size) = .tuple #[.string ⟨#[]⟩, .int .i64 0, .bool false]) := Lib.hid (by unfold unqV; rw [HUQ.out, hu])
              have HNO : Hid (lab1 ((bs s).drop k) = none) := Lib.hid (by rw [HLB.out, hu]; rfl)
              have HA4 := Lib.hid (HA3.out.set 0 (.int .i64 q))
              have HX4 := Lib.hid (HX3.out.other (a := ⟨Ba, 0, none⟩) (.int .i64 q) HN.out.2.2.symm)
              have HW4 := Lib.hid (HW3.out.set 0 (.int .i64 q))
              clear hu HLB HUQ
              rw [HU.out]
              go_upto_region 9 with fail
              generalize w3.setCell ⟨Ba, 0, none⟩ (.int .i64 q) = w4 at *
              go_wp2_with (refine wpList_store_at rfl 66 (.tmp 3) (.tmp 48) rfl X (Lab.mk N ⟨#[]⟩).cells rfl rfl 66 _ HX4.out size_lab rfl (lab_one _) ?_)
              intro w9 HW9
              have HX9 : Hid (At w9 X (Lab.mk N ⟨#[]⟩).cells 66) := Lib.hid (by rw [HW9.out]; exact HX4.out.row)
              have HA9 : Hid (At w9 Ba #[.int .i64 q] 3) := Lib.hid (by rw [HW9.out]; exact ⟨by rw [setRow_other _ _ _ _ HN.out.2.2]; exact HA4.out.out⟩)
              have HK9 : Hid (Keep Ba w w9) := Lib.hid (by rw [HW9.out, ← HXW.out]; exact HW4.out.row_new)
              have HQ1 := HQ.out
              go_wp2_with fail
              refine bodyPost_ret (results_row_tmp rfl _ _ X 66 _ _ rfl HX9.out Tryz.underlying66 rfl size_lab) rfl ⟨⟨N, ⟨#[]⟩⟩, false, q, rfl, HA9.out, by omega, by omega, fun h => (by cases h), HNO.out, HK9.out⟩
            · have HU : Hid (unqV (s.extract q s.size) = .tuple #[.string (str v), .int .i64 (m : Nat), .bool true]) := Lib.hid (by unfold unqV; rw [HUQ.out, hu])
              have hml := unq_len _ _ hu
              rw [List.length_drop, bs_length] at hml
              have HNO : Hid (lab1 ((bs s).drop k) = some (⟨N, str v⟩, (bs s).drop (q + m))) := Lib.hid (by rw [HLB.out, hu]; rfl)
              have HQ2 : Hid (k < q + m ∧ q + m ≤ s.size) := Lib.hid (by have := HQ.out; omega)
              have hmm : (m : Int) ≤ 1000000 := by have := HSZ.out; omega
              have HA4 : Hid (At (w3.setCell ⟨Ba, 0, none⟩ (.int .i64 ((q : Int) + (m : Int)))) Ba #[.int .i64 ((q + m : Nat) : Int)] 3) := Lib.hid (HA3.out.set 0 _)
              have HX4 := Lib.hid (HX3.out.other (a := ⟨Ba, 0, none⟩) (.int .i64 ((q : Int) + (m : Int))) HN.out.2.2.symm)
              have HW4 := Lib.hid (HW3.out.set 0 (.int .i64 ((q : Int) + (m : Int))))
              clear hu HLB HUQ hml
              rw [HU.out]
              go_upto_region 9 with fail
              generalize w3.setCell ⟨Ba, 0, none⟩ (.int .i64 ((q : Int) + (m : Int))) = w4 at *
              go_wp2_with (refine wpList_store_at rfl 66 (.tmp 3) (.tmp 48) rfl X (Lab.mk N (str v)).cells rfl rfl 66 _ HX4.out size_lab rfl (lab_one _) ?_)
              intro w9 HW9
              have HX9 : Hid (At w9 X (Lab.mk N (str v)).cells 66) := Lib.hid (by rw [HW9.out]; exact HX4.out.row)
              have HA9 : Hid (At w9 Ba #[.int .i64 ((q + m : Nat) : Int)] 3) := Lib.hid (by rw [HW9.out]; exact ⟨by rw [setRow_other _ _ _ _ HN.out.2.2]; exact HA4.out.out⟩)
              have HK9 : Hid (Keep Ba w w9) := Lib.hid (by rw [HW9.out, ← HXW.out]; exact HW4.out.row_new)
              have HQ1 := HQ2.out
              go_wp2_with fail
              refine bodyPost_ret (results_row_tmp rfl _ _ X 66 _ _ rfl HX9.out Tryz.underlying66 rfl size_lab) rfl ⟨⟨N, str v⟩, true, q + m, rfl, HA9.out, by omega, by omega, fun _ => HQ1.1, HNO.out, HK9.out⟩
          · have hsk2 : skB s eqqS j = false := by simpa using hsk
            have HNO : Hid (lab1 ((bs s).drop k) = none) := Lib.hid (lab1_nosign s k j HNL.out.2 hsk2)
            have HSK := Lib.hid (skip_no s eqqS j Bs Ba w' HSZ.out hjs HS1.out HA1.out hsk2)
            clear hN hz hsk hsk2
            go_wp2_with fail
            refine HSK.out.mono ?_
            rintro e w2 ⟨rfl, rfl⟩
            go_wp2_with (refine wpList_store_at rfl 66 (.tmp 3) (.tmp 34) rfl X (Lab.mk ⟨#[]⟩ ⟨#[]⟩).cells rfl rfl 66 _ HX1.out size_lab rfl (lab_one _) ?_)
            intro w9 HW9
            have HX9 : Hid (At w9 X (Lab.mk ⟨#[]⟩ ⟨#[]⟩).cells 66) := Lib.hid (by rw [HW9.out]; exact HX1.out.row)
            have HA9 : Hid (At w9 Ba #[.int .i64 j] 3) := Lib.hid (by rw [HW9.out]; exact ⟨by rw [setRow_other _ _ _ _ HN.out.2.2]; exact HA1.out.out⟩)
            have HK9 : Hid (Keep Ba w w9) := Lib.hid (by rw [HW9.out, ← HXW.out]; exact HW0.out.row_new)
            go_wp2_with fail
            refine bodyPost_ret (results_row_tmp rfl _ _ X 66 _ _ rfl HX9.out Tryz.underlying66 rfl size_lab) rfl ⟨⟨⟨#[]⟩, ⟨#[]⟩⟩, false, j, rfl, HA9.out, hkj, hjs, fun h => (by cases h), HNO.out, HK9.out⟩
end Go.Proofs.YtoojpfcnekpboaaGreat
