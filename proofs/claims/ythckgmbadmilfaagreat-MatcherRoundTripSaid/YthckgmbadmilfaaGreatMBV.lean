/- Walks: the parser of matchers (the program's): the list's walk, Parse. Walks: matcher.Parse, matcher.Negate. Plain: what awake of the chapter Matcher asks of the model. Walks: awake of the chapter Matcher. Walks: what is larger than the statements examine (labels). -/
import Derived.Test.YthckgmbadmilfaaGreatMBU
import Derived.Test.YthckgmbadmilfaaGreatMBR
import Derived.Test.YthckgmbadmilfaaGreatMAV
import Derived.Test.YthckgmbadmilfaaGreatMBH
import Derived.Test.YthckgmbadmilfaaGreatMAI
namespace Go.Proofs.YthckgmbadmilfaaGreat
open Go.RowKit

def MsP (s : ByteArray) (p : Nat) (w : World) (e : Ending) (w' : World) : Prop :=
  ∃ (A : Option Addr) (n c : Nat) (b : Bool) (l : List Mt), e = .returned (.tuple #[.slice A n c, .bool b]) ∧ Keep p w w' ∧ ((b = false ∧ parM (bs s) = none) ∨ (b = true ∧ parM (bs s) = some l ∧ n = l.length ∧ MtsIn w'.heap.size w' A l))
theorem str_is {s : ByteArray} {l : List UInt8} (h : bs s = l) : (s.toList == l) = true := by rw [toList_bs, h]; simp
theorem str_isnt {s : ByteArray} {l : List UInt8} (h : bs s ≠ l) : (s.toList == l) = false := by rw [toList_bs]; exact beq_eq_false_iff_ne.2 h
set_option maxRecDepth 100000 in
set_option maxHeartbeats 8000000 in
theorem mlist_any (p : Nat) (s : ByteArray) (w : World) (h : QS w p s 0) (hs : s.size ≤ 100000) :
    Calls Tryz.prog 36 #[.pointer (some ⟨p, 0, none⟩)] w (MsP s p w) := by
  have HH := Lib.hid h
  have HPL := Lib.hid h.lt
  have HSZ := Lib.hid hs
  obtain ⟨i0, hi, hz0, hz1, hz2⟩ := info_parts info_mt
  have HI := Lib.hid hi
  have HZ0 := Lib.hid hz0
  have HZ1 := Lib.hid hz1
  have HZ2 := Lib.hid hz2
  have c0 : w.cell? ⟨p, 0, none⟩ = some (.string s) := h.at_.cell 0
  clear h hi hz0 hz1 hz2
  by_cases hbr : bs s = [123, 125]
  · have d1 := str_is hbr
    have HR : Hid (parM (bs s) = some []) := Lib.hid (by rw [hbr]; rfl)
    clear hbr
    go_enter Tryz.func36, Tryz.ntmps36
    go_wp2_with fail
    go_ret2
    exact ⟨none, 0, 0, true, [], rfl, Keep.refl _ _, .inr ⟨rfl, HR.out, rfl, MtsIn.nil _ _ _⟩⟩
  · have d1 := str_isnt hbr
    have HBR := Lib.hid hbr
    clear hbr
    have HS1 := Lib.hid (mskip_any p s ⟨#[123]⟩ 0 w HH.out (by omega) (by decide))
    rcases hr : begB s ⟨#[123]⟩ 0 with _ | _
    · rw [hr] at HS1
      have HR := Lib.hid (par_none hr)
      clear hr
      go_enter Tryz.func36, Tryz.ntmps36
      go_wp2_with fail
      refine HS1.out.mono ?_
      rintro e w1 ⟨rfl, hk, hq⟩
      go_wp2_with fail
      go_ret2
      exact ⟨none, 0, 0, false, [], rfl, hk, .inl ⟨rfl, HR.out⟩⟩
    · rw [hr] at HS1
      have HLZ := Lib.hid (LZ.start hr HBR.out)
      clear hr
      go_enter Tryz.func36, Tryz.ntmps36
      go_wp2_with fail
      refine HS1.out.mono ?_
      rintro e w1 ⟨rfl, hk, hq⟩
      have HQ1 : Hid (QS w1 p s 1) := Lib.hid hq
      have HK1 := Lib.hid hk
      clear hk hq HS1
      go_wp2_with fail
      go_loopw [4] (fun v wr => ∃ (k : Nat) (A : Option Addr) (n c : Nat) (acc : List Mt), v = .slice A n c ∧ Hid (SP w p A n c acc wr) ∧ Hid (QS wr p s k) ∧ Hid (LZ s acc k) ∧ Hid (acc.length ≤ k)) (fun _ wr => s.size - (intOf ((wr.cell? ⟨p, 1, none⟩).getD undef)).toNat)
      case atStart => exact ⟨1, none, 0, 0, [], rfl, Lib.hid (SP.nil HK1.out), HQ1, HLZ, Lib.hid (Nat.zero_le _)⟩
      case round =>
        obtain ⟨k, A, n, c, acc, rfl, HSP, HQ, HL, HLE⟩ := hrel
        have HC1 : Hid (wr.cell? ⟨p, 1, none⟩ = some (.int .i64 (k : Int))) := Lib.hid (HQ.out.at_.cell 1)
        have HONE := Lib.hid (mone_any p s k wr HQ.out (by have := HSZ.out; omega))
        go_wp2_with fail
        refine HONE.out.mono ?_
        rintro e w2 ⟨x, b, j, rfl, hkj, hq2, hk2, hop⟩
        have HQ2 := Lib.hid hq2
        have HS2 := Lib.hid (HSP.out.turn HPL.out hk2)
        have HKJ := Lib.hid hkj
        clear hq2 hk2 HONE hkj HSP HQ
        have HX := Lib.hid (At.new w2 #[.int .i64 x.kind, .string x.name, .string x.value] 39)
        have HQ3 : Hid (QS (w2.alloc (.cells #[.int .i64 x.kind, .string x.name, .string x.value] 39)) p s j) := Lib.hid ⟨HQ2.out.le, HQ2.out.at_.alloc _⟩
        have HS3 := Lib.hid (HS2.out.turn HPL.out ((Keep.refl p w2).alloc (.cells #[.int .i64 x.kind, .string x.name, .string x.value] 39)))
        rcases hop with ⟨rfl, hop⟩ | ⟨rfl, hop⟩
        · have HR := Lib.hid (HL.out.bad hop)
          clear hop
          go_upto_region 7 with fail
          generalize w2.alloc (.cells #[.int .i64 x.kind, .string x.name, .string x.value] 39) = w3 at *
          go_wp2_with fail
          go_ret2
          exact ⟨none, 0, 0, false, [], rfl, HS3.out.keep, .inl ⟨rfl, HR.out⟩⟩
        · have HOP := Lib.hid hop
          clear hop
          go_upto_region 7 with fail
          generalize w2.alloc (.cells #[.int .i64 x.kind, .string x.name, .string x.value] 39) = w3 at *
          generalize w2.heap.size = Bx at *
          have q0 := HX.out.cell 0
          have q1 := HX.out.cell 1
          have q2 := HX.out.cell 2
          have HNB : Hid (n + 1 ≤ 1000000) := Lib.hid (by
            have h1 := HS3.out.row.len
            rw [List.length_map] at h1
            have := HLE.out
            have := HKJ.out
            have := HQ3.out.le
            have := HSZ.out
            omega)
          go_wp2_with (at_builtin; (refine wpList_elem rfl (.tmp 22) (.tmp 24) 22 39 i0 _ 3 40 Tryz.underlying22 HI.out HZ0.out HZ1.out HZ2.out rfl (by decide) rfl HS3.out.row x.cells rfl (mt_one x) rfl rfl HNB.out (by decide) ?_))
          intro A4 n4 c4 l4 w4 HE4 hS4 hG4
          have HS4 : Hid (SP w p A4 n4 c4 (acc ++ [x]) w4) := Lib.hid (HS3.out.grown (by rw [List.map_append]; rw [HE4.out] at hS4; exact hS4) hG4)
          have HQ4 : Hid (QS w4 p s j) := Lib.hid ⟨HQ3.out.le, hG4.at_ HQ3.out.at_ (HS3.out.ne HPL.out)⟩
          clear hS4 hG4 q0 q1 q2
          have HSK := Lib.hid (mskip_any p s ⟨#[44]⟩ j w4 HQ4.out (by have := HSZ.out; omega) (by decide))
          rcases hr2 : begB s ⟨#[44]⟩ j with _ | _
          · rw [hr2] at HSK
            have HLA := Lib.hid (HL.out.last HOP.out hr2)
            clear hr2
            go_wp2_with fail
            refine HSK.out.mono ?_
            rintro e w5 ⟨rfl, hk5, hq5⟩
            have HQ5 : Hid (QS w5 p s j) := Lib.hid hq5
            have HS5 := Lib.hid (HS4.out.turn HPL.out hk5)
            clear hk5 hq5 HSK HS4 HQ4
            have HSK := Lib.hid (mskip_any p s ⟨#[125]⟩ j w5 HQ5.out (by have := HSZ.out; omega) (by decide))
            rcases hr3 : begB s ⟨#[125]⟩ j with _ | _
            · rw [hr3] at HSK
              have HR : Hid (parM (bs s) = none) := Lib.hid (by rw [HLA.out, hr3, if_neg (by simp)])
              clear hr3
              go_wp2_with fail
              refine HSK.out.mono ?_
              rintro e w6 ⟨rfl, hk6, hq6⟩
              have HS6 := Lib.hid (HS5.out.turn HPL.out hk6)
              clear hk6 hq6 HSK HS5 HQ5
              go_wp2_with fail
              go_ret2
              exact ⟨none, 0, 0, false, [], rfl, HS6.out.keep, .inl ⟨rfl, HR.out⟩⟩
            · rw [hr3] at HSK
              by_cases hend : j + 1 = s.size
              · have HR : Hid (parM (bs s) = some (acc ++ [x])) := Lib.hid (by rw [HLA.out, hr3, if_pos ⟨rfl, hend⟩])
                have d9 : (((j + 1 : Nat) : Int) == (s.size : Int)) = true := by rw [beq_iff_eq]; omega
                clear hr3 hend
                go_wp2_with fail
                refine HSK.out.mono ?_
                rintro e w6 ⟨rfl, hk6, hq6⟩
                have HQ6 : Hid (QS w6 p s (j + 1)) := Lib.hid hq6
                have HS6 := Lib.hid (HS5.out.turn HPL.out hk6)
                clear hk6 hq6 HSK HS5 HQ5
                have c6 : w6.cell? ⟨p, 0, none⟩ = some (.string s) := HQ6.out.at_.cell 0
                have c7 : w6.cell? ⟨p, 1, none⟩ = some (.int .i64 ((j + 1 : Nat) : Int)) := HQ6.out.at_.cell 1
                generalize j + 1 = j5 at *
                go_wp2_with fail
                go_quiet (fail)
                go_wp2_with fail
                go_ret2
                refine ⟨A4, n4, c4, true, acc ++ [x], rfl, HS6.out.keep.drewN _, .inr ⟨rfl, HR.out, ?_, ?_⟩⟩
                · have h1 := HS6.out.row.len
                  rw [List.length_map] at h1
                  exact h1.symm
                · exact (MtsIn.drewN (show MtsIn _ _ _ _ from HS6.out.row.rd) nq)
              · have HR : Hid (parM (bs s) = none) := Lib.hid (by rw [HLA.out, hr3, if_neg (fun h => hend h.2)])
                have d9 : (((j + 1 : Nat) : Int) == (s.size : Int)) = false := by rw [beq_eq_false_iff_ne]; omega
                clear hr3 hend
                go_wp2_with fail
                refine HSK.out.mono ?_
                rintro e w6 ⟨rfl, hk6, hq6⟩
                have HQ6 : Hid (QS w6 p s (j + 1)) := Lib.hid hq6
                have HS6 := Lib.hid (HS5.out.turn HPL.out hk6)
                clear hk6 hq6 HSK HS5 HQ5
                have c6 : w6.cell? ⟨p, 0, none⟩ = some (.string s) := HQ6.out.at_.cell 0
                have c7 : w6.cell? ⟨p, 1, none⟩ = some (.int .i64 ((j + 1 : Nat) : Int)) := HQ6.out.at_.cell 1
                generalize j + 1 = j5 at *
                go_wp2_with fail
                go_quiet (fail)
                go_wp2_with fail
                go_ret2
                exact ⟨A4, n4, c4, false, [], rfl, HS6.out.keep.drewN _, .inl ⟨rfl, HR.out⟩⟩
          · rw [hr2] at HSK
            have HNX := Lib.hid (HL.out.next HKJ.out HOP.out hr2)
            clear hr2
            go_wp2_with fail
            refine HSK.out.mono ?_
            rintro e w5 ⟨rfl, hk5, hq5⟩
            have HQ5 : Hid (QS w5 p s (j + 1)) := Lib.hid hq5
            have HS5 := Lib.hid (HS4.out.turn HPL.out hk5)
            clear hk5 hq5 HSK HS4 HQ4
            go_wp2_with fail
            have hcell : w5.cell? ⟨p, 1, none⟩ = some (.int .i64 ((j + 1 : Nat) : Int)) := HQ5.out.at_.cell 1
            refine ⟨⟨j + 1, A4, n4, c4, acc ++ [x], rfl, HS5, HQ5, Lib.hid HNX.out.1, Lib.hid (by have := HLE.out; have := HKJ.out; simp; omega)⟩, ?_⟩
            rw [hcell, HC1.out]
            have := HKJ.out
            have := HNX.out.2
            simp [intOf]
            omega
end Go.Proofs.YthckgmbadmilfaaGreat

namespace Go.Proofs.YthckgmbadmilfaaGreat
open Go.RowKit

set_option maxRecDepth 100000 in
set_option maxHeartbeats 2000000 in
theorem parseM_any (s : ByteArray) (w : World) (hs : s.size ≤ 100000) :
    Calls Tryz.prog 14 #[.string s] w fun e w' => (∃ A n c, e = .returned (.tuple #[.slice A n c, .int .i64 (parseM (bs s)).2]) ∧ n = (parseM (bs s)).1.length ∧ MtsIn w'.heap.size w' A (parseM (bs s)).1) ∧ Below w.heap.size w w' := by
  have HB0 : Hid (Below w.heap.size w (w.alloc (.cells #[.string s, .int .i64 0] 54))) := Lib.hid ((Below.refl _ _).alloc (Nat.le_refl _) _)
  have HQ : Hid (QS (w.alloc (.cells #[.string s, .int .i64 0] 54)) w.heap.size s 0) := Lib.hid ⟨Nat.zero_le _, At.new w #[.string s, .int .i64 0] 54⟩
  have HML := Lib.hid (mlist_any w.heap.size s _ HQ.out hs)
  have HP : Hid (parseM (bs s) = match parM (bs s) with | none => ([], 3) | some l => if chkMs l = 0 then (l, 0) else ([], chkMs l)) := Lib.hid rfl
  go_enter Tryz.func14, Tryz.ntmps14
  go_upto_region 2 with fail
  obtain ⟨X, hX⟩ : ∃ X, w.heap.size = X := ⟨_, rfl⟩
  have HX : Hid (w.heap.size = X) := Lib.hid hX
  rw [hX] at HQ HML
  rw [hX]
  clear hX
  generalize w.alloc (.cells #[.string s, .int .i64 0] 54) = w0 at *
  go_wp2_with fail
  refine HML.out.mono ?_
  rintro e w1 ⟨A, n, c, b, l, rfl, hk, hp⟩
  have HB1 : Hid (Below w.heap.size w w1) := Lib.hid (HB0.out.trans (hk.toBelow (Nat.le_of_eq HX.out) HB0.out.size))
  rcases hp with ⟨rfl, hp⟩ | ⟨rfl, hp, rfl, hm⟩
  · have HR : Hid (parseM (bs s) = ([], 3)) := Lib.hid (by rw [HP.out, hp])
    go_wp2_with fail
    go_ret2
    refine ⟨?_, HB1.out⟩
    rw [HR.out]
    exact ⟨none, 0, 0, rfl, rfl, MtsIn.nil _ _ _⟩
  · have HR : Hid (parseM (bs s) = if chkMs l = 0 then (l, 0) else ([], chkMs l)) := Lib.hid (by rw [HP.out, hp])
    have HM := Lib.hid hm
    have HCH := Lib.hid (mcheck_any A c l w1 hm)
    clear hp hm hk HP HML
    obtain ⟨r, hr⟩ : ∃ r, chkMs l = r := ⟨_, rfl⟩
    rw [hr] at HCH HR
    clear hr
    go_wp2_with fail
    refine HCH.out.mono ?_
    rintro e w2 ⟨rfl, hb⟩
    have HB2 := Lib.hid (HB1.out.trans (hb.mono HB1.out.size))
    by_cases h0 : r = 0
    · have HR2 : Hid (parseM (bs s) = (l, 0)) := Lib.hid (by rw [HR.out, if_pos h0])
      clear HR
      subst h0
      go_wp2_with fail
      go_ret2
      refine ⟨?_, HB2.out⟩
      rw [HR2.out]
      exact ⟨A, _, c, rfl, rfl, HM.out.up hb hb.size⟩
    · have hc2 : (r != (0 : Int)) = true := by simp [h0]
      have HR2 : Hid (parseM (bs s) = ([], r)) := Lib.hid (by rw [HR.out, if_neg h0])
      clear HR
      go_wp2_with fail
      go_ret2
      refine ⟨?_, HB2.out⟩
      rw [HR2.out]
      exact ⟨none, 0, 0, rfl, rfl, MtsIn.nil _ _ _⟩
end Go.Proofs.YthckgmbadmilfaaGreat

namespace Go.Proofs.YthckgmbadmilfaaGreat

def aw0 : ByteArray := ⟨#[123, 98, 33, 61, 34, 113, 34, 44, 98, 61, 126, 34, 121, 46, 42, 34, 44, 97, 61, 126, 34, 120, 34, 44, 97, 33, 61, 34, 119, 34, 125]⟩
def awA : ByteArray := ⟨#[97]⟩
def awB : ByteArray := ⟨#[98]⟩
def awX : ByteArray := ⟨#[120]⟩
def awL0 : List Mt := [⟨2, awB, ⟨#[113]⟩⟩, ⟨4 - 1, awB, ⟨#[121, 46, 42]⟩⟩, ⟨3, awA, awX⟩, ⟨2, awA, ⟨#[119]⟩⟩]
def awL1 : List Mt := [⟨1, awA, awX⟩, ⟨3, awB, ⟨#[121, 46, 42]⟩⟩]
def awL2 : List Mt := [⟨1, awA, awX⟩, ⟨2, awA, awX⟩]
def awG : List Lab := [⟨awA, awX⟩, ⟨awB, ⟨#[121, 122]⟩⟩]
def awH : List Lab := [⟨awA, awX⟩, ⟨awB, ⟨#[122]⟩⟩]
set_option maxRecDepth 100000
theorem aw_1 : parseM (bs aw0) = (awL0, 0) := by kernel_rfl
theorem aw_2 : simM awL0 = (awL1, true) := by kernel_rfl
theorem aw_3 : simM awL2 = ([], false) := by kernel_rfl
theorem aw_4 : matM awL1 awG = true := by kernel_rfl
theorem aw_5 : matM awL1 awH = false := by kernel_rfl
theorem aw_6 : fmtMs awL1 = [123, 97, 61, 34, 120, 34, 44, 98, 61, 126, 34, 121, 46, 42, 34, 125] := by kernel_rfl
end Go.Proofs.YthckgmbadmilfaaGreat

namespace Go.Proofs.YthckgmbadmilfaaGreat
open Go.RowKit

theorem parse_aw (w : World) : Calls Tryz.prog 14 #[.string aw0] w fun e w' => (∃ A c, e = .returned (.tuple #[.slice A 4 c, .int .i64 0]) ∧ MtsIn w'.heap.size w' A awL0) ∧ Below w.heap.size w w' := by
  refine (parseM_any aw0 w (by decide)).mono ?_
  rw [aw_1]
  rintro e w' ⟨⟨A, n, c, rfl, rfl, hm⟩, hb⟩
  exact ⟨⟨A, c, rfl, hm⟩, hb⟩
theorem simp_aw (A : Option Addr) (c : Nat) (w : World) (h : MtsIn w.heap.size w A awL0) : Calls Tryz.prog 21 #[.slice A 4 c] w fun e w' => (∃ A c, e = .returned (.tuple #[.slice A 2 c, .bool true]) ∧ MtsIn w'.heap.size w' A awL1) ∧ Below w.heap.size w w' := by
  refine (simplify_any A c awL0 w h).mono ?_
  rw [aw_2]
  rintro e w' ⟨⟨A, n, c, rfl, rfl, hm⟩, hb⟩
  exact ⟨⟨A, c, rfl, hm⟩, hb⟩
theorem simp_aw2 (A : Option Addr) (c : Nat) (w : World) (h : MtsIn w.heap.size w A awL2) : Calls Tryz.prog 21 #[.slice A 2 c] w fun e w' => (∃ A n c, e = .returned (.tuple #[.slice A n c, .bool false])) ∧ Below w.heap.size w w' := by
  refine (simplify_any A c awL2 w h).mono ?_
  rw [aw_3]
  rintro e w' ⟨⟨A, n, c, rfl, rfl, hm⟩, hb⟩
  exact ⟨⟨A, _, c, rfl⟩, hb⟩
theorem mts_lit2 (w : World) (x y : Mt) : MtsIn (w.heap.size + 1) (w.alloc (.cells #[.int .i64 x.kind, .string x.name, .string x.value, .int .i64 y.kind, .string y.name, .string y.value] 39)) (some ⟨w.heap.size, 0, none⟩) [x, y] := fun k hk => by
  refine ⟨w.heap.size, 0, rfl, by omega, fun j hj => ?_⟩
  have h := (At.new w #[.int .i64 x.kind, .string x.name, .string x.value, .int .i64 y.kind, .string y.name, .string y.value] 39).cell (0 + k * 3 + j)
  rw [h]
  have hk2 : k = 0 ∨ k = 1 := by simp at hk; omega
  have hj2 : j = 0 ∨ j = 1 ∨ j = 2 := by omega
  rcases hk2 with rfl | rfl <;> rcases hj2 with rfl | rfl | rfl <;> rfl
theorem labs_lit2 (w : World) (x y : Lab) : LabsIn (w.heap.size + 1) (w.alloc (.cells #[.string x.name, .string x.value, .string y.name, .string y.value] 51)) (some ⟨w.heap.size, 0, none⟩) [x, y] := fun k hk => by
  refine ⟨w.heap.size, 0, rfl, by omega, fun j hj => ?_⟩
  have h := (At.new w #[.string x.name, .string x.value, .string y.name, .string y.value] 51).cell (0 + k * 2 + j)
  rw [h]
  have hk2 : k = 0 ∨ k = 1 := by simp at hk; omega
  have hj2 : j = 0 ∨ j = 1 := by omega
  rcases hk2 with rfl | rfl <;> rcases hj2 with rfl | rfl <;> rfl
theorem mat_aw (A : Option Addr) (c : Nat) (w : World) (h : MtsIn w.heap.size w A awL1) (b : Nat) (ls : List Lab) (r : Bool) (hl : LabsIn w.heap.size w (some ⟨b, 0, none⟩) ls) (hln : ls.length = 2) (hv : ∀ x ∈ ls, x.value.size ≤ 40000) (hr : matM awL1 ls = r) :
    Calls Tryz.prog 22 #[.slice A 2 c, .slice (some ⟨b, 0, none⟩) 2 2] w fun e w' => e = .returned (.bool r) ∧ Below w.heap.size w w' := by
  have h1 := mmatches_any A (some ⟨b, 0, none⟩) c 2 awL1 ls w h hl (by omega) hv
  rw [hr, hln] at h1
  exact h1
theorem fmt_aw (A : Option Addr) (c : Nat) (w : World) (h : MtsIn w.heap.size w A awL1) :
    Calls Tryz.prog 16 #[.slice A 2 c] w fun e w' => e = .returned (.string ⟨#[123, 97, 61, 34, 120, 34, 44, 98, 61, 126, 34, 121, 46, 42, 34, 125]⟩) ∧ Below w.heap.size w w' := by
  have h1 := formatM_any A c awL1 w h
  rw [aw_6] at h1
  exact h1
set_option maxRecDepth 100000 in
set_option maxHeartbeats 4000000 in
theorem awakeM_any (w : World) : Calls Tryz.prog 13 #[] w fun e w' => e = .returned (.bool true) ∧ Below w.heap.size w w' := by
  go_enter Tryz.func13, Tryz.ntmps13
  go_wp2_with fail
  refine (parse_aw w).mono ?_
  rintro e w1 ⟨⟨A1, c1, rfl, hm1⟩, hb1⟩
  have HB1 := Lib.hid hb1
  have HS1 := Lib.hid (simp_aw A1 c1 w1 hm1)
  clear hb1 hm1
  go_wp2_with fail
  refine HS1.out.mono ?_
  rintro e w2 ⟨⟨A2, c2, rfl, hm2⟩, hb2⟩
  have HB2 := Lib.hid (HB1.out.trans (hb2.mono HB1.out.size))
  have HM2 := Lib.hid hm2
  clear hb2 hm2 HS1 HB1
  have hal : Below w2.heap.size w2 (w2.alloc (.cells #[.int .i64 1, .string ⟨#[97]⟩, .string ⟨#[120]⟩, .int .i64 2, .string ⟨#[97]⟩, .string ⟨#[120]⟩] 39)) := (Below.refl _ _).alloc (Nat.le_refl _) _
  have HB3 := Lib.hid (HB2.out.trans (hal.mono HB2.out.size))
  have HM3 := Lib.hid (HM2.out.up hal hal.size)
  have HS3 := Lib.hid (simp_aw2 (some ⟨w2.heap.size, 0, none⟩) 2 (w2.alloc (.cells #[.int .i64 1, .string ⟨#[97]⟩, .string ⟨#[120]⟩, .int .i64 2, .string ⟨#[97]⟩, .string ⟨#[120]⟩] 39)) (by
    have h := mts_lit2 w2 ⟨1, awA, awX⟩ ⟨2, awA, awX⟩
    rw [show w2.heap.size + 1 = (w2.alloc (.cells #[.int .i64 1, .string ⟨#[97]⟩, .string ⟨#[120]⟩, .int .i64 2, .string ⟨#[97]⟩, .string ⟨#[120]⟩] 39)).heap.size by simp] at h
    exact h))
  clear hal
  go_wp2_with fail
  refine HS3.out.mono ?_
  rintro e w4 ⟨⟨A4, n4, c4, rfl⟩, hb4⟩
  have HB4 := Lib.hid (HB3.out.trans (hb4.mono HB3.out.size))
  have HM4 := Lib.hid (HM3.out.up hb4 hb4.size)
  clear hb4 HS3 HB3 HM3
  have hal : Below w4.heap.size w4 (w4.alloc (.cells #[.string ⟨#[97]⟩, .string ⟨#[120]⟩, .string ⟨#[98]⟩, .string ⟨#[121, 122]⟩] 51)) := (Below.refl _ _).alloc (Nat.le_refl _) _
  have HB4a := Lib.hid (HB4.out.trans (hal.mono HB4.out.size))
  have HM4a := Lib.hid (HM4.out.up hal hal.size)
  have HS4 := Lib.hid (mat_aw A2 c2 _ HM4a.out w4.heap.size awG true (by
    have h := labs_lit2 w4 ⟨awA, awX⟩ ⟨awB, ⟨#[121, 122]⟩⟩
    rw [show w4.heap.size + 1 = (w4.alloc (.cells #[.string ⟨#[97]⟩, .string ⟨#[120]⟩, .string ⟨#[98]⟩, .string ⟨#[121, 122]⟩] 51)).heap.size by simp] at h
    exact h) rfl (by decide) aw_4)
  clear hal
  go_wp2_with fail
  refine HS4.out.mono ?_
  rintro e w5 ⟨rfl, hb5⟩
  have HB5 := Lib.hid (HB4a.out.trans (hb5.mono HB4a.out.size))
  have HM5 := Lib.hid (HM4a.out.up hb5 hb5.size)
  clear hb5 HS4 HB4a HM4a HB4 HM4
  have hal : Below w5.heap.size w5 (w5.alloc (.cells #[.string ⟨#[97]⟩, .string ⟨#[120]⟩, .string ⟨#[98]⟩, .string ⟨#[122]⟩] 51)) := (Below.refl _ _).alloc (Nat.le_refl _) _
  have HB5a := Lib.hid (HB5.out.trans (hal.mono HB5.out.size))
  have HM5a := Lib.hid (HM5.out.up hal hal.size)
  have HS5 := Lib.hid (mat_aw A2 c2 _ HM5a.out w5.heap.size awH false (by
    have h := labs_lit2 w5 ⟨awA, awX⟩ ⟨awB, ⟨#[122]⟩⟩
    rw [show w5.heap.size + 1 = (w5.alloc (.cells #[.string ⟨#[97]⟩, .string ⟨#[120]⟩, .string ⟨#[98]⟩, .string ⟨#[122]⟩] 51)).heap.size by simp] at h
    exact h) rfl (by decide) aw_5)
  clear hal
  go_wp2_with fail
  refine HS5.out.mono ?_
  rintro e w6 ⟨rfl, hb6⟩
  have HB6 := Lib.hid (HB5a.out.trans (hb6.mono HB5a.out.size))
  have HM6 := Lib.hid (HM5a.out.up hb6 hb6.size)
  clear hb6 HS5 HB5a HM5a HB5 HM5
  have HF := Lib.hid (fmt_aw A2 c2 w6 HM6.out)
  go_wp2_with fail
  refine HF.out.mono ?_
  rintro e w7 ⟨rfl, hb7⟩
  have HB7 := Lib.hid (HB6.out.trans (hb7.mono HB6.out.size))
  clear hb7 HF
  go_wp2_with fail
  go_ret
  exact ⟨rfl, HB7.out⟩
end Go.Proofs.YthckgmbadmilfaaGreat

namespace Go.Proofs.YthckgmbadmilfaaGreat
open Go.RowKit

theorem greatL_step {ls : List Lab} {k : Nat} (h : k < ls.length) : (ls.drop k).any (fun x => decide (61 < x.name.size) || decide (201 < x.value.size)) = ((decide (61 < (ls[k]).name.size) || decide (201 < (ls[k]).value.size)) || (ls.drop (k + 1)).any (fun x => decide (61 < x.name.size) || decide (201 < x.value.size))) := by
  rw [drop_cons h]
  rfl
theorem greatL_end {ls : List Lab} {k : Nat} (h : ls.length ≤ k) : (ls.drop k).any (fun x => decide (61 < x.name.size) || decide (201 < x.value.size)) = false := by
  rw [List.drop_eq_nil_of_le h]
  rfl
theorem greatL_no {ls : List Lab} (h : greatL ls = false) : ls.length ≤ 17 ∧ ∀ x ∈ ls, x.name.size ≤ 61 ∧ x.value.size ≤ 201 := by
  unfold greatL at h
  rw [Bool.or_eq_false_iff] at h
  obtain ⟨h1, h2⟩ := h
  refine ⟨by simpa using h2, fun x hx => ?_⟩
  have := List.any_eq_false.1 h1 x hx
  simp at this
  omega
set_option maxRecDepth 100000 in
set_option maxHeartbeats 2000000 in
theorem great05_any (A : Option Addr) (c : Nat) (ls : List Lab) (B : Nat) (w : World) (hr : LabsIn B w A ls) (hc : ls.length ≤ c) (hl : ls.length ≤ 9223372036854775807) :
    Calls Tryz.prog 19 #[.slice A ls.length c] w fun e w' => e = .returned (.bool (greatL ls)) ∧ w' = w := by
  have HC := Lib.hid hc
  have HRD := Lib.hid hr
  clear hc hr
  go_enter Tryz.func19, Tryz.ntmps19
  go_wp2_with fail
  go_loop [3] (fun i => ∃ k : Nat, k ≤ ls.length ∧ i = .int .i64 k ∧ Hid (greatL ls = ((ls.drop k).any (fun x => decide (61 < x.name.size) || decide (201 < x.value.size)) || decide (17 < ls.length)))) (fun i => ls.length - (intOf i).toNat)
  case atStart => exact ⟨0, Nat.zero_le _, rfl, Lib.hid rfl⟩
  case round =>
    obtain ⟨k, hk, rfl, HK⟩ := hrel
    by_cases hlt : k < ls.length
    · have HST := Lib.hid (greatL_step hlt)
      obtain ⟨b, o, rfl, _, c0, c1⟩ := HRD.out.at_ k hlt
      by_cases h1 : 61 < (ls[k]).name.size
      · have HR : Hid (greatL ls = true) := Lib.hid (by rw [HK.out, HST.out, decide_eq_true h1]; rfl)
        go_wp2_with fail
        go_ret
        exact ⟨ret_bool HR.out.symm, rfl⟩
      · by_cases h2 : 201 < (ls[k]).value.size
        · have HR : Hid (greatL ls = true) := Lib.hid (by rw [HK.out, HST.out, decide_eq_true h2, Bool.or_true]; rfl)
          go_wp2_with fail
          go_ret
          exact ⟨ret_bool HR.out.symm, rfl⟩
        · have HR : Hid (greatL ls = ((ls.drop (k + 1)).any (fun x => decide (61 < x.name.size) || decide (201 < x.value.size)) || decide (17 < ls.length))) := Lib.hid (by rw [HK.out, HST.out, decide_eq_false h1, decide_eq_false h2]; rfl)
          go_wp2_with fail
          go_round
          case rel => exact ⟨k + 1, by omega, by go_num, HR⟩
          case measure => simp [intOf]; omega
    · have HR : Hid (greatL ls = decide (17 < ls.length)) := Lib.hid (by rw [HK.out, greatL_end (Nat.le_of_not_lt hlt)]; rfl)
      by_cases h17 : 17 < ls.length
      · go_wp2_with fail
        go_ret
        exact ⟨ret_bool (by first | exact HR.out.symm | (rw [HR.out]; done) | (rw [HR.out, Bool.eq_iff_iff]; simp; done) | (rw [HR.out, Bool.eq_iff_iff]; simp; omega)), rfl⟩
      · go_wp2_with fail
        go_ret
        exact ⟨ret_bool (by first | exact HR.out.symm | (rw [HR.out]; done) | (rw [HR.out, Bool.eq_iff_iff]; simp; done) | (rw [HR.out, Bool.eq_iff_iff]; simp; omega)), rfl⟩
end Go.Proofs.YthckgmbadmilfaaGreat
