/- Walks: a text of labels that is read (the program's parse and Parse). Walks: Parse of labels (the program's). -/
import Derived.Test.YtoojpfcnekpboaaGreatZBA
import Derived.Test.YtoojpfcnekpboaaGreatZBB
namespace Go.Proofs.YtoojpfcnekpboaaGreat
open Go.RowKit

/-- What 'parse' answers. -/
def PLPost (s : ByteArray) (w : World) (e : Ending) (w' : World) : Prop := Below w.heap.size w w' ∧
  ((∃ ls A c, parL (bs s) = some ls ∧ e = .returned (.tuple #[.slice A ls.length c, .bool true]) ∧ ls.length ≤ c ∧ LabT w' A ls ∧ ∀ k, A.map (·.block) = some k → w.heap.size ≤ k) ∨ (parL (bs s) = none ∧ ∃ A n c, e = .returned (.tuple #[.slice A n c, .bool false])))
theorem Keep.grownBy {p : Nat} {w w' : World} (h : Keep p w w') : w.grownBy w' (some p) := ⟨h.os, h.tape, h.output, h.size, fun k hk hne => h.block k hk (fun e => hne (by rw [e]))⟩
theorem SR.keep {W w w' : World} {E s : Nat} {A : Option Addr} {n c : Nat} {xs : List (Array Value)} {p : Nat} (h : SR W E s A n c xs w) (hk : Keep p w w') (hp : W.heap.size ≤ p) (hne : A.map (·.block) ≠ some p) : SR W E s A n c xs w' := by
  refine ⟨h.len, h.size, ?_, h.below.trans ⟨hk.os, hk.tape, hk.output, hk.size, fun k hk1 => hk.block k (Nat.lt_of_lt_of_le hk1 h.below.size) (by omega)⟩⟩
  refine h.row.kept (row := some p) hk.grownBy ?_
  rw [own_slice]
  rcases hq : A.map (·.block) with _ | k
  · exact .inl hq
  · exact .inr (fun e => hne e)
/-- Where the reader of the list stands. -/
def PL (s : ByteArray) (acc : List Lab) (k : Nat) : Prop := ∃ g, s.size - k < g ∧ parL (bs s) = (labsF g ((bs s).drop k)).map fun r => acc ++ r
def oneS (c : UInt8) : ByteArray := ⟨#[c]⟩
theorem skB_one {s : ByteArray} {k : Nat} {c : UInt8} (h : skB s (oneS c) k = true) (hk : k ≤ s.size) : k + 1 ≤ s.size ∧ (bs s).drop k = c :: (bs s).drop (k + 1) := by
  obtain ⟨h1, _, h3⟩ := skB_fit h hk
  exact ⟨h1, h3⟩
theorem skB_one_no {s : ByteArray} {k : Nat} {c : UInt8} (h : skB s (oneS c) k = false) (q : List UInt8) : (bs s).drop k ≠ c :: q := fun e => by
  refine of_decide_eq_false h ?_
  rw [e]
  rfl
theorem labsF_succ (f : Nat) (l : List UInt8) : labsF (f + 1) l = (lab1 l).bind fun p => match p.2 with
    | [] => none
    | c :: q => if c = 44 then (labsF f q).map (p.1 :: ·) else if c = 125 ∧ q = [] then some [p.1] else none := rfl
theorem PL.start {s : ByteArray} (h : s.toList ≠ [123, 125]) (hk : skB s (oneS 123) 0 = true) : PL s [] 1 := by
  obtain ⟨h1, h2⟩ := skB_one hk (Nat.zero_le _)
  rw [List.drop_zero] at h2
  refine ⟨s.size - 1 + 1, by omega, ?_⟩
  unfold parL
  rw [toList_bs] at h
  rw [if_neg h]
  split
  · rename_i h3
    rw [h2] at h3
    cases h3
  · rename_i c r h3
    rw [h2] at h3
    injection h3 with h3 h4
    rw [if_pos h3.symm, h4]
    have : r.length = s.size - 1 := by rw [← h4, List.length_drop, bs_length]
    rw [this]
    cases labsF (s.size - 1 + 1) r <;> simp
theorem parL_nostart {s : ByteArray} (h : s.toList ≠ [123, 125]) (hk : skB s (oneS 123) 0 = false) : parL (bs s) = none := by
  have h2 := skB_one_no hk
  rw [List.drop_zero] at h2
  unfold parL
  rw [toList_bs] at h
  rw [if_neg h]
  split
  · rfl
  · rename_i c r h3
    rw [if_neg]
    intro e
    exact h2 r (by rw [h3, e])
theorem PL.step {s : ByteArray} {acc : List Lab} {k k' : Nat} {x : Lab} (h : PL s acc k) (hl : lab1 ((bs s).drop k) = some (x, (bs s).drop k')) (hk : k < k') (hc : skB s (oneS 44) k' = true) (hk' : k' ≤ s.size) : PL s (acc ++ [x]) (k' + 1) := by
  obtain ⟨g, h1, h2⟩ := h
  obtain ⟨h3, h4⟩ := skB_one hc hk'
  obtain ⟨g, rfl⟩ : ∃ g', g = g' + 1 := ⟨g - 1, by omega⟩
  refine ⟨g, by omega, ?_⟩
  rw [h2, labsF_succ, hl]
  simp only [Option.bind_some, h4, if_true]
  cases labsF g ((bs s).drop (k' + 1)) <;> simp
theorem PL.stuck {s : ByteArray} {acc : List Lab} {k : Nat} (h : PL s acc k) (hl : lab1 ((bs s).drop k) = none) : parL (bs s) = none := by
  obtain ⟨g, h1, h2⟩ := h
  obtain ⟨g, rfl⟩ : ∃ g', g = g' + 1 := ⟨g - 1, by omega⟩
  rw [h2, labsF_succ, hl]
  rfl
theorem PL.neither {s : ByteArray} {acc : List Lab} {k k' : Nat} {x : Lab} (h : PL s acc k) (hl : lab1 ((bs s).drop k) = some (x, (bs s).drop k')) (hc : skB s (oneS 44) k' = false) (hd : skB s (oneS 125) k' = false) : parL (bs s) = none := by
  obtain ⟨g, h1, h2⟩ := h
  obtain ⟨g, rfl⟩ : ∃ g', g = g' + 1 := ⟨g - 1, by omega⟩
  rw [h2, labsF_succ, hl]
  simp only [Option.bind_some]
  cases hq : (bs s).drop k' with
  | nil => rfl
  | cons c q =>
    have n1 := skB_one_no hc q
    have n2 := skB_one_no hd q
    rw [hq] at n1 n2
    simp only
    rw [if_neg (fun e => n1 (by rw [e])), if_neg (fun e => n2 (by rw [e.1]))]
    rfl
theorem PL.end_ {s : ByteArray} {acc : List Lab} {k k' : Nat} {x : Lab} (h : PL s acc k) (hl : lab1 ((bs s).drop k) = some (x, (bs s).drop k')) (hd : skB s (oneS 125) k' = true) (hk' : k' ≤ s.size) : parL (bs s) = if k' + 1 = s.size then some (acc ++ [x]) else none := by
  obtain ⟨g, h1, h2⟩ := h
  obtain ⟨h3, h4⟩ := skB_one hd hk'
  obtain ⟨g, rfl⟩ : ∃ g', g = g' + 1 := ⟨g - 1, by omega⟩
  rw [h2, labsF_succ, hl]
  simp only [Option.bind_some, h4]
  rw [if_neg (by decide)]
  by_cases he : k' + 1 = s.size
  · rw [if_pos he, if_pos ⟨trivial, drop_end (by omega)⟩]
    rfl
  · rw [if_neg he, if_neg]
    · rfl
    · rintro ⟨_, h5⟩
      have := congrArg List.length h5
      rw [List.length_drop, bs_length] at this
      simp at this
      omega
theorem info_labS : (Tryz.prog.info? 66).map (fun i => (i.zero, i.size, i.bytes)) = some (some (.agg (Lab.mk ⟨#[]⟩ ⟨#[]⟩).cells), 2, 32) := by kernel_rfl

set_option maxRecDepth 100000 in
set_option maxHeartbeats 4000000 in
theorem parse_any (s : ByteArray) (w : World) (hs : s.size ≤ 1000000) :
    Calls Tryz.prog 157 #[.string s] w (PLPost s w) := by
  have HS := Lib.hid hs
  have A1 := At.new w #[.string s] 9
  have A2 := At.new (w.alloc (.cells #[.string s] 9)) #[.int .i64 0] 3
  have A3 := At.new ((w.alloc (.cells #[.string s] 9)).alloc (.cells #[.int .i64 0] 3)) #[skF w.heap.size (w.heap.size + 1)] 34
  have HAs := Lib.hid ((A1.alloc (.cells #[.int .i64 0] 3)).alloc (.cells #[skF w.heap.size (w.heap.size + 1)] 34))
  have HAa := Lib.hid (A2.alloc (.cells #[skF w.heap.size (w.heap.size + 1)] 34))
  have HAk := Lib.hid A3
  have z1 : (w.alloc (.cells #[.string s] 9)).heap.size = w.heap.size + 1 := by simp
  have z2 : ((w.alloc (.cells #[.string s] 9)).alloc (.cells #[.int .i64 0] 3)).heap.size = w.heap.size + 1 + 1 := by simp
  rw [z1] at HAa
  rw [z2] at HAk
  have HB : Hid (Below w.heap.size w (((w.alloc (.cells #[.string s] 9)).alloc (.cells #[.int .i64 0] 3)).alloc (.cells #[skF w.heap.size (w.heap.size + 1)] 34))) := Lib.hid ((((Below.refl _ _).alloc (Nat.le_refl _) _).alloc (by simp) _).alloc (by simp; omega) _)
  clear A1 A2 A3 z1 z2 hs
  go_enter Tryz.func157, Tryz.ntmps157
  go_upto_region 4 with fail
  change Code.wp _ _ _ _ (((w.alloc (.cells #[.string s] 9)).alloc (.cells #[.int .i64 0] 3)).alloc (.cells #[skF w.heap.size (w.heap.size + 1)] 34))
  generalize ((w.alloc (.cells #[.string s] 9)).alloc (.cells #[.int .i64 0] 3)).alloc (.cells #[skF w.heap.size (w.heap.size + 1)] 34) = w3 at *
  obtain ⟨Bs, hBs⟩ : ∃ r, w.heap.size = r := ⟨_, rfl⟩
  obtain ⟨Ba, hBa⟩ : ∃ r, w.heap.size + 1 = r := ⟨_, rfl⟩
  obtain ⟨Bk, hBk⟩ : ∃ r, w.heap.size + 1 + 1 = r := ⟨_, rfl⟩
  rw [hBk, hBa, hBs]
  rw [hBs] at HAs
  rw [hBa] at HAa
  rw [hBk, hBa, hBs] at HAk
  have HN : Hid (w.heap.size ≤ Bs ∧ Bs < Ba ∧ Ba < Bk) := Lib.hid (by omega)
  clear hBs hBa hBk
  have c1 : w3.cell? ⟨Bs, 0, none⟩ = some (.string s) := HAs.out.cell 0
  have c3 : w3.cell? ⟨Bk, 0, none⟩ = some (.func (.func 176) #[] #[.pointer (some ⟨Bs, 0, none⟩), .pointer (some ⟨Ba, 0, none⟩)]) := HAk.out.cell 0
  by_cases he : s.toList = [123, 125]
  · have d1 : (s.toList == [123, 125]) = true := beq_iff_eq.2 he
    have HP : Hid (parL (bs s) = some []) := Lib.hid (by rw [← toList_bs, he]; rfl)
    clear he
    go_wp2_with fail
    go_ret2
    exact ⟨HB.out, .inl ⟨[], none, 0, HP.out, rfl, Nat.le_refl _, LabT.nil _, fun k h => by cases h⟩⟩
  · have d1 : (s.toList == [123, 125]) = false := beq_eq_false_iff_ne.2 he
    by_cases hsk : skB s (oneS 123) 0 = true
    · have HPL := Lib.hid (PL.start he hsk)
      have HSK := Lib.hid (skip_yes s (oneS 123) 0 Bs Ba w3 HS.out (Nat.zero_le _) HAs.out HAa.out hsk)
      have hfit := (skB_one hsk (Nat.zero_le _)).1
      clear he hsk
      go_wp2_with fail
      refine HSK.out.mono ?_
      rintro e w4 ⟨rfl, hw4⟩
      have hna : Bs ≠ Ba := by have := HN.out; omega
      have hnk : Bk ≠ Ba := by have := HN.out; omega
      have HNE := Lib.hid (And.intro hna hnk)
      have HAa4 : Hid (At w4 Ba #[.int .i64 (1 : Nat)] 3) := Lib.hid (by rw [hw4]; exact HAa.out.set 0 _)
      have HAs4 : Hid (At w4 Bs #[.string s] 9) := Lib.hid (by rw [hw4]; exact HAs.out.other _ hna)
      have HAk4 : Hid (At w4 Bk #[skF Bs Ba] 34) := Lib.hid (by rw [hw4]; exact HAk.out.other _ hnk)
      have HB4 : Hid (Below w.heap.size w w4) := Lib.hid (by rw [hw4]; exact HB.out.setCell (p := ⟨Ba, 0, none⟩) (by have := HN.out; show w.heap.size ≤ Ba; omega) _)
      clear hw4 HSK c1 c3 hna hnk
      obtain ⟨i0, hi, hz0, hz1, hz2⟩ := info_parts info_labS
      go_wp2_with fail
      go_loopw [7] (fun v wr => ∃ (k : Nat) (A : Option Addr) (n c : Nat) (acc : List Lab), k ≤ s.size ∧ v = .slice A n c ∧ Hid (SR w 66 2 A n c (acc.map Lab.cells) wr) ∧ Hid (A.map (·.block) ≠ some Ba ∧ A.map (·.block) ≠ some Bs ∧ A.map (·.block) ≠ some Bk) ∧ Hid (At wr Ba #[.int .i64 k] 3) ∧ Hid (At wr Bs #[.string s] 9) ∧ Hid (At wr Bk #[skF Bs Ba] 34) ∧ Hid (PL s acc k) ∧ Hid (n ≤ k)) (fun _ wr => s.size - (intOf ((wr.cell? ⟨Ba, 0, none⟩).getD undef)).toNat)
      case atStart => exact ⟨1, none, 0, 0, [], hfit, rfl, Lib.hid (SR.nil _ _ HB4.out), Lib.hid (by simp), HAa4, HAs4, HAk4, HPL, Lib.hid (by omega)⟩
      case round =>
        obtain ⟨k, A, n, c, acc, hk, rfl, HSR, HNA, HA1, HS1, HK1, HP1, HNK⟩ := hrel
        have HLB := Lib.hid (label_any s k Bs Ba Bk wr HS.out hk HS1.out HA1.out _ HK1.out HNE.out.1 HNE.out.2)
        go_wp2_with fail
        refine HLB.out.mono ?_
        rintro e w5 ⟨x, b, k', rfl, ha5, hkk, hk's, hbk, hlab, hkp⟩
        have HA5 := Lib.hid ha5
        have HS5 := Lib.hid (HS1.out.keep hkp HNE.out.1)
        have HK5 := Lib.hid (HK1.out.keep hkp HNE.out.2)
        have HSR5 := Lib.hid (HSR.out.keep hkp (by have := HN.out; omega) HNA.out.1)
        have HLAB := Lib.hid hlab
        have hX := At.new w5 (Lab.mk ⟨#[]⟩ ⟨#[]⟩).cells 66
        have HX := Lib.hid hX
        have HXA := Lib.hid (And.intro ha5.lt (And.intro HS5.out.lt HK5.out.lt))
        have HM : Hid (intOf ((wr.cell? ⟨Ba, 0, none⟩).getD undef) = k) := Lib.hid (by rw [HA1.out.cell 0]; rfl)
        clear ha5 hlab hkp hX HLB
        go_wp2_with (refine wpList_store_at rfl 66 (.tmp 8) (.tmp 20) rfl w5.heap.size x.cells rfl rfl 66 _ HX.out size_lab rfl (lab_one _) ?_)
        intro w6 HW6
        have HRR : Hid (Below w5.heap.size w5 w6) := Lib.hid (by rw [HW6.out]; exact below_row ((Below.refl _ _).alloc (Nat.le_refl _) _) _ _ (Nat.le_refl _))
        have HX6 : Hid (At w6 w5.heap.size x.cells 66) := Lib.hid (by rw [HW6.out]; exact HX.out.row)
        have HA6 := Lib.hid (HA5.out.below HRR.out)
        have HS6 := Lib.hid (HS5.out.below HRR.out)
        have HK6 := Lib.hid (HK5.out.below HRR.out)
        have HSR6 := Lib.hid (HSR5.out.later HRR.out)
        clear HW6 HX HA5 HS5 HK5 HSR5 HRR HSR HA1 HS1 HK1
        cases b
        · have HP9 := Lib.hid (HP1.out.stuck HLAB.out)
          go_wp2_with fail
          go_ret2
          exact ⟨HSR6.out.below, .inr ⟨HP9.out, none, 0, 0, rfl⟩⟩
        · have hkk2 := hbk rfl
          have HLB : Hid (lab1 ((bs s).drop k) = some (x, (bs s).drop k')) := Lib.hid HLAB.out
          clear HLAB hbk
          have hcs : x.cells.size = 2 := rfl
          go_wp2_with (first | (refine wpList_load_row rfl 66 (.tmp 8) rfl w5.heap.size rfl 66 x.cells (0, 0) _ HX6.out.out Tryz.underlying66 rfl size_lab ?_) | (at_builtin; (refine wpList_elem rfl (.tmp 24) (.tmp 26) 46 66 i0 _ 2 32 Tryz.underlying46 hi hz0 hz1 hz2 rfl (by decide) rfl HSR6.out x.cells rfl (lab_one _) rfl rfl (by have := HNK.out; have := HS.out; omega) (by decide) ?_)))
          intro A2 n2 c2 l2 w7 HE2 hS2 hG2
          have HA7 := Lib.hid (hG2.at_ HA6.out HNA.out.1)
          have HS7 := Lib.hid (hG2.at_ HS6.out HNA.out.2.1)
          have HK7 := Lib.hid (hG2.at_ HK6.out HNA.out.2.2)
          have HN2 : Hid (A2.map (·.block) ≠ some Ba ∧ A2.map (·.block) ≠ some Bs ∧ A2.map (·.block) ≠ some Bk) := Lib.hid (by
            have h1 := HA6.out.lt
            have h2 := HS6.out.lt
            have h3 := HK6.out.lt
            rcases hG2.own with e | ⟨g, e, hge⟩
            · rw [e]; exact HNA.out
            · rw [e]
              exact ⟨fun e2 => by injection e2 with e2; omega, fun e2 => by injection e2 with e2; omega, fun e2 => by injection e2 with e2; omega⟩)
          have HSR7 : Hid (SR w 66 2 A2 n2 c2 ((acc ++ [x]).map Lab.cells) w7) := Lib.hid (by rw [List.map_append]; rw [HE2.out] at hS2; exact hS2)
          have HL7 : Hid ((acc ++ [x]).length = n2) := Lib.hid (by rw [← HSR7.out.len, List.length_map])
          have HNK2 : Hid (n2 ≤ k + 1) := Lib.hid (by
            have h1 := HSR6.out.len
            have h2 := HL7.out
            have h3 := HNK.out
            rw [List.length_map] at h1
            rw [List.length_append] at h2
            simp at h2
            omega)
          have c3 : w7.cell? ⟨Bk, 0, none⟩ = some (.func (.func 176) #[] #[.pointer (some ⟨Bs, 0, none⟩), .pointer (some ⟨Ba, 0, none⟩)]) := HK7.out.cell 0
          clear hS2 hG2 HA6 HS6 HK6 HX6 hcs HSR6
          by_cases h44 : skB s (oneS 44) k' = true
          · have HPN := Lib.hid (HP1.out.step HLB.out hkk2 h44 hk's)
            have HSK := Lib.hid (skip_yes s (oneS 44) k' Bs Ba w7 HS.out hk's HS7.out HA7.out h44)
            have hf := (skB_one h44 hk's).1
            clear h44
            go_wp2_with fail
            refine HSK.out.mono ?_
            rintro e w8 ⟨rfl, hw8⟩
            have HA8 : Hid (At w8 Ba #[.int .i64 ((k' + 1 : Nat) : Int)] 3) := Lib.hid (by rw [hw8]; exact HA7.out.set 0 _)
            have HS8 : Hid (At w8 Bs #[.string s] 9) := Lib.hid (by rw [hw8]; exact HS7.out.other _ HNE.out.1)
            have HK8 : Hid (At w8 Bk #[skF Bs Ba] 34) := Lib.hid (by rw [hw8]; exact HK7.out.other _ HNE.out.2)
            have HSR8 : Hid (SR w 66 2 A2 n2 c2 ((acc ++ [x]).map Lab.cells) w8) := Lib.hid (by rw [hw8]; exact HSR7.out.keep (keep_cell _) (by have := HN.out; omega) HN2.out.1)
            have HM8 : Hid (intOf ((w8.cell? ⟨Ba, 0, none⟩).getD undef) = ((k' + 1 : Nat) : Int)) := Lib.hid (by rw [HA8.out.cell 0]; rfl)
            clear hw8 HSK c3
            go_wp2_with fail
            go_roundw
            case rel => exact ⟨k' + 1, A2, n2, c2, acc ++ [x], hf, rfl, HSR8, HN2, HA8, HS8, HK8, HPN, Lib.hid (by have := HNK2.out; omega)⟩
            case measure =>
              rw [HM.out, HM8.out]
              omega
          · have h44 : skB s (oneS 44) k' = false := by simpa using h44
            have HSK := Lib.hid (skip_no s (oneS 44) k' Bs Ba w7 HS.out hk's HS7.out HA7.out h44)
            have H44 := Lib.hid h44
            clear h44
            go_wp2_with fail
            refine HSK.out.mono ?_
            rintro e w8 ⟨rfl, rfl⟩
            by_cases h125 : skB s (oneS 125) k' = true
            · have HSK2 := Lib.hid (skip_yes s (oneS 125) k' Bs Ba w7 HS.out hk's HS7.out HA7.out h125)
              have HEND := Lib.hid (HP1.out.end_ HLB.out h125 hk's)
              have hf := (skB_one h125 hk's).1
              clear h125 HSK
              go_wp2_with fail
              refine HSK2.out.mono ?_
              rintro e w9 ⟨rfl, hw9⟩
              have HA8 : Hid (At w9 Ba #[.int .i64 ((k' + 1 : Nat) : Int)] 3) := Lib.hid (by rw [hw9]; exact HA7.out.set 0 _)
              have HS8 : Hid (At w9 Bs #[.string s] 9) := Lib.hid (by rw [hw9]; exact HS7.out.other _ HNE.out.1)
              have HSR8 : Hid (SR w 66 2 A2 n2 c2 ((acc ++ [x]).map Lab.cells) w9) := Lib.hid (by rw [hw9]; exact HSR7.out.keep (keep_cell _) (by have := HN.out; omega) HN2.out.1)
              clear hw9 HSK2 c3
              have c1 : w9.cell? ⟨Bs, 0, none⟩ = some (.string s) := HS8.out.cell 0
              have c2' : w9.cell? ⟨Ba, 0, none⟩ = some (.int .i64 ((k' + 1 : Nat) : Int)) := HA8.out.cell 0
              obtain ⟨q, hq⟩ : ∃ q, k' + 1 = q := ⟨_, rfl⟩
              rw [hq] at c2' HEND
              clear hq
              by_cases hqs : q = s.size
              · have d9 : ((q : Int) == (s.size : Int)) = true := by rw [hqs]; simp
                have HR : Hid (parL (bs s) = some (acc ++ [x])) := Lib.hid (by rw [HEND.out, if_pos hqs])
                have HN7 := HL7.out
                clear hqs HEND
                go_wp2_with fail
                go_quiet (fail)
                go_wp2_with fail
                go_ret2
                exact ⟨bN HSR8.out.below _, .inl ⟨acc ++ [x], A2, c2, HR.out, by rw [HL7.out]; rfl, by rw [HL7.out]; exact HSR8.out.cap, ⟨(HSR8.out.drewN _).rd, (HSR8.out.drewN _).ty⟩, HSR8.out.le⟩⟩
              · have d9 : ((q : Int) == (s.size : Int)) = false := by rw [beq_eq_false_iff_ne]; omega
                have HR : Hid (parL (bs s) = none) := Lib.hid (by rw [HEND.out, if_neg hqs])
                clear hqs HEND
                go_wp2_with fail
                go_quiet (fail)
                go_wp2_with fail
                go_ret2
                exact ⟨bN HSR8.out.below _, .inr ⟨HR.out, A2, n2, c2, rfl⟩⟩
            · have h125 : skB s (oneS 125) k' = false := by simpa using h125
              have HSK2 := Lib.hid (skip_no s (oneS 125) k' Bs Ba w7 HS.out hk's HS7.out HA7.out h125)
              have HR := Lib.hid (HP1.out.neither HLB.out H44.out h125)
              clear h125 HSK
              go_wp2_with fail
              refine HSK2.out.mono ?_
              rintro e w9 ⟨rfl, rfl⟩
              go_wp2_with fail
              go_ret2
              exact ⟨HSR7.out.below, .inr ⟨HR.out, none, 0, 0, rfl⟩⟩
    · have hsk2 : skB s (oneS 123) 0 = false := by simpa using hsk
      have HP := Lib.hid (parL_nostart he hsk2)
      have HSK := Lib.hid (skip_no s (oneS 123) 0 Bs Ba w3 HS.out (Nat.zero_le _) HAs.out HAa.out hsk2)
      clear he hsk hsk2
      go_wp2_with fail
      refine HSK.out.mono ?_
      rintro e w4 ⟨rfl, rfl⟩
      go_wp2_with fail
      go_ret2
      exact ⟨HB.out, .inr ⟨HP.out, none, 0, 0, rfl⟩⟩
end Go.Proofs.YtoojpfcnekpboaaGreat

namespace Go.Proofs.YtoojpfcnekpboaaGreat
open Go.RowKit

def PEPost (s : ByteArray) (w : World) (e : Ending) (w' : World) : Prop := (∃ A c, e = .returned (.tuple #[.slice A (parE s).1.length c, .int .i64 (parE s).2]) ∧ (parE s).1.length ≤ c ∧ LabT w' A (parE s).1 ∧ ∀ k, A.map (·.block) = some k → w.heap.size ≤ k) ∧ Below w.heap.size w w'
set_option maxRecDepth 100000 in
set_option maxHeartbeats 1000000 in
theorem parseL_any (s : ByteArray) (w : World) (hs : s.size ≤ 1000000) :
    Calls Tryz.prog 127 #[.string s] w (PEPost s w) := by
  have HP := Lib.hid (parse_any s w hs)
  clear hs
  go_enter Tryz.func127, Tryz.ntmps127
  go_wp2_with fail
  refine HP.out.mono ?_
  rintro e w1 ⟨hb, ⟨ls, A, c, hp, rfl, hc, hl, ha⟩ | ⟨hp, A, n, c, rfl⟩⟩
  · have HB := Lib.hid hb
    have HA := Lib.hid ha
    have HL := Lib.hid hl
    have HC := Lib.hid hc
    have HPL := Lib.hid hp
    clear hb hl hc hp ha
    go_wp2_with fail
    refine (checkL_any A c ls w1 HL.out.rd HC.out).mono ?_
    rintro e w2 ⟨rfl, hb2⟩
    have HB2 := Lib.hid (HB.out.trans (hb2.mono HB.out.size))
    have HL2 := Lib.hid (HL.out.below hb2)
    clear hb2
    by_cases h0 : chkL ls = 0
    · have HE : Hid (parE s = (ls, 0)) := Lib.hid (by unfold parE; rw [HPL.out]; simp only [if_pos h0])
      rw [h0]
      go_wp2_with fail
      go_ret2
      refine ⟨?_, HB2.out⟩
      rw [HE.out]
      exact ⟨A, c, rfl, HC.out, HL2.out, HA.out⟩
    · have HE : Hid (parE s = ([], chkL ls)) := Lib.hid (by unfold parE; rw [HPL.out]; simp only [if_neg h0])
      have d1 : (chkL ls != 0) = true := bne_iff_ne.2 h0
      clear h0
      go_wp2_with fail
      go_ret2
      refine ⟨?_, HB2.out⟩
      rw [HE.out]
      exact ⟨none, 0, rfl, Nat.le_refl _, LabT.nil _, fun k h => by cases h⟩
  · have HB := Lib.hid hb
    have HE : Hid (parE s = ([], 3)) := Lib.hid (by unfold parE; rw [hp])
    clear hb hp
    go_wp2_with fail
    go_ret2
    refine ⟨?_, HB.out⟩
    rw [HE.out]
    exact ⟨none, 0, rfl, Nat.le_refl _, LabT.nil _, fun k h => by cases h⟩
end Go.Proofs.YtoojpfcnekpboaaGreat
