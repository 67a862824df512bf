/- Walks: the first bytes of an encoding (an iterator of the program). Walks: the check of a zone (the reference's). Walks: a chunk is checked, chunks are compared, a block is checked (the reference's). -/
import Derived.Test.YtoojpfcnekpboaaGreatZAK
import Derived.Test.YtoojpfcnekpboaaGreatZAL
import Derived.Test.YtoojpfcnekpboaaGreatZAF
import Derived.Test.YtoojpfcnekpboaaGreatZAJ
namespace Go.Proofs.YtoojpfcnekpboaaGreat
open Go.RowKit Go.Shelf
attribute [local go_sem] Oper.semAt_some

def fbEnc (s : ByteArray) (k : Fin (mS s)) : Array Value := #[.int .i64 k.1, .int .u8 (byteS s k).toNat]
theorem finTake_succ' {n k : Nat} (h : k < n) : (List.finRange n).take (k + 1) = (List.finRange n).take k ++ [⟨k, h⟩] := by
  rw [List.take_succ_eq_append_getElem (by simpa using h)]
  simp
theorem finTake_len' {n k : Nat} (h : k ≤ n) : ((List.finRange n).take k).length = k := by simp; omega

set_option maxRecDepth 100000 in
set_option maxHeartbeats 2000000 in
theorem firstBytes_in (n : Nat) (hn : 1 ≤ n) (l Bs n₀ b : Nat) (s : ByteArray) (J Jx : List (Fin (mS s)) → World → Prop) (W : World)
    (hY : ∀ pre x W1, J pre W1 → pre.length < mS s → YieldAt Fence.wide (n - 1) Tryz.prog l (fbEnc s x) W1 fun e W' =>
      (e = .returned (.bool true) ∧ J (pre ++ [x]) W' ∧ KC n₀ b W1 W') ∨ (e = .returned (.bool false) ∧ Jx (pre ++ [x]) W'))
    (h0 : J [] W) (hBs : At W Bs #[.string s] 9) (hne : Bs ≠ b) (hs : s.size ≤ 9223372036854775807) :
    CallsIn Fence.wide n Tryz.prog 189 #[.func (.yield l) #[] #[], .pointer (some ⟨Bs, 0, none⟩)] W fun e W' => (∃ v, e = .returned v) ∧
      ((∃ ys, ys = List.finRange (mS s) ∧ J ys W') ∨ (∃ pre, (∃ k, k ≤ mS s ∧ pre = (List.finRange (mS s)).take k) ∧ Jx pre W')) := by
  have HBS := Lib.hid hBs
  have HY := Lib.hid hY
  obtain ⟨hm1, hm2⟩ := mS_le s
  clear hBs hY
  refine callsIn_of_wp Tryz.func189 rfl trivial ?_ rfl
  simp only [Tryz.ntmps189, List.size_toArray, List.length_cons, List.length_nil, Nat.reduceAdd, Nat.reduceSub, Array.replicate_succ, Array.replicate_zero, List.push_toArray, List.append_toArray, List.nil_append, List.cons_append]
  have c0 : W.cell? ⟨Bs, 0, none⟩ = some (.string s) := HBS.out.cell 0
  gi_wp2
  gi_loopw [3] (fun i wr => ∃ k : Nat, k ≤ mS s ∧ (k = mS s → k = s.size ∨ k = 9) ∧ i = .int .i64 k ∧ J ((List.finRange (mS s)).take k) wr ∧ Hid (KC n₀ b W wr))
    (fun i _ => 10 - (intOf i).toNat)
  case atStart =>
    refine ⟨0, Nat.zero_le _, fun h => .inl ?_, rfl, h0, Lib.hid (KC.refl _ _ _)⟩
    rcases Nat.eq_zero_or_pos s.size with h1 | h1
    · exact h1.symm
    · have := mB_pos (l := (bs s).take 9) (by rw [List.length_take, bs_length]; omega)
      have h2 : mS s = mB ((bs s).take 9) := rfl
      omega
  case round =>
    obtain ⟨k, hk, hke, rfl, hJs, HK⟩ := hrel
    have c0 : wr.cell? ⟨Bs, 0, none⟩ = some (.string s) := (HBS.out.kc HK.out hne (by decide)).cell 0
    by_cases hlt : k < mS s
    · have hks : k < s.size := by omega
      have hk9 : k < 9 := by omega
      have HMORE := Lib.hid (mS_more hlt hks)
      obtain ⟨fn, tmps, assign, body, hy, hR⟩ := HY.out ((List.finRange (mS s)).take k) ⟨k, hlt⟩ wr hJs (by rw [finTake_len' hk]; exact hlt)
      have hEnc : fbEnc s ⟨k, hlt⟩ = #[.int .i64 k, .int .u8 (s[k]).toNat] := rfl
      rw [hEnc] at hy
      obtain ⟨c, hc⟩ : ∃ c, s[k] = c := ⟨_, rfl⟩
      rw [hc] at hy HMORE
      clear hEnc
      gi_wp2
      refine hR.mono ?_
      rintro e W3 (⟨rfl, hJ3, hk3⟩ | ⟨rfl, hJx3⟩)
      · have HK3 := Lib.hid (HK.out.trans hk3)
        have c3 : W3.cell? ⟨Bs, 0, none⟩ = some (.string s) := (HBS.out.kc HK3.out hne (by decide)).cell 0
        have HTK : Hid ((List.finRange (mS s)).take k ++ [⟨k, hlt⟩] = (List.finRange (mS s)).take (k + 1)) := Lib.hid (finTake_succ' hlt).symm
        clear hy hR hk3 c0
        by_cases h128 : c < 128
        · have hn : c.toNat < 128 := h128
          have hd : (c.toNat : Int) < 128 := by omega
          have hke2 : k + 1 = mS s := by
            rcases Nat.lt_or_ge (k + 1) (mS s) with h1 | h1
            · exact absurd h128 (HMORE.out.1 h1).1
            · omega
          gi_wp2
          refine bodyPost_ret (results_none rfl _ _ _) rfl ?_
          refine ⟨⟨_, rfl⟩, .inl ⟨_, rfl, ?_⟩⟩
          have h4 := hJ3
          rw [HTK.out, hke2, List.take_of_length_le (by simp)] at h4
          exact h4
        · have hn : ¬ c.toNat < 128 := h128
          have hd : (128 : Int) ≤ (c.toNat : Int) := by omega
          have HKE : Hid (k + 1 = mS s → k + 1 = s.size ∨ k + 1 = 9) := Lib.hid fun h1 => by
            rcases Nat.lt_or_ge (k + 1) s.size with h2 | h2
            · rcases Nat.lt_or_ge (k + 1) 9 with h3 | h3
              · have := HMORE.out.2 ⟨h128, h2, h3⟩
                omega
              · exact .inr (by omega)
            · exact .inl (by omega)
          gi_wp2
          go_roundw
          case rel => exact ⟨k + 1, hlt, HKE.out, by go_num, by rw [← HTK.out]; exact hJ3, HK3⟩
          case measure => simp [intOf]; omega
      · clear hy hR
        gi_wp2
        refine bodyPost_ret (results_none rfl _ _ _) rfl ?_
        exact ⟨⟨_, rfl⟩, .inr ⟨_, ⟨k + 1, by omega, (finTake_succ' hlt).symm⟩, hJx3⟩⟩
    · have hkm : k = mS s := by omega
      have h9 := hke hkm
      have HFIN : Hid (J (List.finRange (mS s)) wr) := Lib.hid (by
        have h4 := hJs
        rw [hkm, List.take_of_length_le (by simp)] at h4
        exact h4)
      rcases h9 with h9 | h9
      · have hno : ¬ (k : Int) < (s.size : Int) := by omega
        gi_wp2
        go_end0
        exact ⟨⟨_, rfl⟩, .inl HFIN.out⟩
      · have hno : ¬ (k : Int) < 9 := by omega
        by_cases h8 : (k : Int) < (s.size : Int)
        · gi_wp2
          go_end0
          exact ⟨⟨_, rfl⟩, .inl HFIN.out⟩
        · gi_wp2
          go_end0
          exact ⟨⟨_, rfl⟩, .inl HFIN.out⟩
/-- The iterator's contract. -/
theorem firstBytes_stops (n : Nat) (hn : 1 ≤ n) (Bs n₀ b : Nat) (s : ByteArray) (w : World) (hBs : At w Bs #[.string s] 9) (hne : Bs ≠ b) (hs : s.size ≤ 9223372036854775807) :
    SeqStopsK Fence.wide n Tryz.prog 189 #[.pointer (some ⟨Bs, 0, none⟩)] (fbEnc s) (KC n₀ b) (fun l => l = List.finRange (mS s)) (fun pre => ∃ k, k ≤ mS s ∧ pre = (List.finRange (mS s)).take k) (mS s) w := fun l J Jx W hW _ _ hY h0 =>
  firstBytes_in n hn l Bs n₀ b s J Jx W hY h0 (hBs.below hW) hne hs
set_option maxHeartbeats 400000 in
theorem firstBytes_any (s : ByteArray) (w : World) :
    Calls Tryz.prog 175 #[.string s] w fun e w' => e = .returned (.func (.func 189) #[] #[.pointer (some ⟨w.heap.size, 0, none⟩)]) ∧ w' = w.alloc (.cells #[.string s] 9) := by
  go_enter Tryz.func175, Tryz.ntmps175
  go_wp2_with fail
  go_ret
  exact ⟨rfl, rfl⟩
end Go.Proofs.YtoojpfcnekpboaaGreat

namespace Go.Proofs.YtoojpfcnekpboaaGreat
open Go.RowKit

set_option maxRecDepth 100000 in
set_option maxHeartbeats 4000000 in
theorem zcheck16_any (z : Zn) (w : World) : Calls Tryz.prog 45 #[.agg z.cells] w fun e w' => e = .returned (.int .i64 (zchk z)) ∧ Below w.heap.size w w' := by
  have hat := At.new w z.cells 50
  have HBL : Hid (Below w.heap.size w (w.alloc (.cells z.cells 50))) := Lib.hid ((Below.refl _ _).alloc (Nat.le_refl _) _)
  obtain ⟨c0, c1, c2, c3, c4⟩ := ZAt.of hat
  have HAT := Lib.hid hat
  clear hat
  by_cases h0 : z.count < 0
  · have HR : Hid (zchk z = 2) := Lib.hid (by unfold zchk; rw [if_pos (.inl h0)])
    have k0 : inB z.count 0 1152921504606846976 = false := decide_eq_false (by omega)
    go_enter Tryz.func45, Tryz.ntmps45
    go_wp2_with (go_at_call 76; refine (within_any _ _ _ _).mono ?_; rintro e w' ⟨rfl, rfl⟩)
    go_ret
    exact ⟨ret_int HR.out.symm, HBL.out⟩
  by_cases h1 : 1152921504606846976 < z.count
  · have HR : Hid (zchk z = 2) := Lib.hid (by unfold zchk; rw [if_pos (.inr h1)])
    have k0 : inB z.count 0 1152921504606846976 = false := decide_eq_false (by omega)
    go_enter Tryz.func45, Tryz.ntmps45
    go_wp2_with (go_at_call 76; refine (within_any _ _ _ _).mono ?_; rintro e w' ⟨rfl, rfl⟩)
    go_ret
    exact ⟨ret_int HR.out.symm, HBL.out⟩
  have hA : ¬ (z.count < 0 ∨ 1152921504606846976 < z.count) := by omega
  have k0 : inB z.count 0 1152921504606846976 = true := decide_eq_true (by omega)
  by_cases h2 : z.count = 0
  · have d2 : (z.count == 0) = true := beq_iff_eq.2 h2
    by_cases h3 : z = Zn.zero
    · have HR : Hid (zchk z = 0) := Lib.hid (by unfold zchk; rw [if_neg hA, if_pos h2, if_pos h3])
      have HN : Hid ((!decide (z = Zn.zero)) = false) := Lib.hid (by rw [decide_eq_true h3]; rfl)
      clear hA h2 h3
      go_enter Tryz.func45, Tryz.ntmps45
      go_wp2_with (first | (go_at_call 76; refine (within_any _ _ _ _).mono ?_; rintro e w' ⟨rfl, rfl⟩) | (refine wpList_load_row rfl 50 (.tmp 1) rfl w.heap.size rfl 50 z.cells (0, 0) _ HAT.out.out Tryz.underlying50 rfl rfl ?_) | (refine wpList_zneq rfl (.tmp 10) (.tmp 11) 50 rfl z Zn.zero rfl rfl _ HN.out ?_))
      go_ret
      exact ⟨ret_int HR.out.symm, HBL.out⟩
    · have HR : Hid (zchk z = 10) := Lib.hid (by unfold zchk; rw [if_neg hA, if_pos h2, if_neg h3])
      have HN : Hid ((!decide (z = Zn.zero)) = true) := Lib.hid (by rw [decide_eq_false h3]; rfl)
      clear hA h2 h3
      go_enter Tryz.func45, Tryz.ntmps45
      go_wp2_with (first | (go_at_call 76; refine (within_any _ _ _ _).mono ?_; rintro e w' ⟨rfl, rfl⟩) | (refine wpList_load_row rfl 50 (.tmp 1) rfl w.heap.size rfl 50 z.cells (0, 0) _ HAT.out.out Tryz.underlying50 rfl rfl ?_) | (refine wpList_zneq rfl (.tmp 10) (.tmp 11) 50 rfl z Zn.zero rfl rfl _ HN.out ?_))
      go_ret
      exact ⟨ret_int HR.out.symm, HBL.out⟩
  have d2 : (z.count == 0) = false := beq_eq_false_iff_ne.2 h2
  rcases h4 : tmB z.minT
  · have HR : Hid (zchk z = 2) := Lib.hid (by unfold zchk; rw [if_neg hA, if_neg h2, if_pos (.inl h4)])
    have kh4 : inB z.minT 1 1099511627776 = _ := h4
    clear hA h2
    go_enter Tryz.func45, Tryz.ntmps45
    go_wp2_with (go_at_call 76; refine (within_any _ _ _ _).mono ?_; rintro e w' ⟨rfl, rfl⟩)
    go_ret
    exact ⟨ret_int HR.out.symm, HBL.out⟩
  rcases h5 : tmB z.maxT
  · have HR : Hid (zchk z = 2) := Lib.hid (by unfold zchk; rw [if_neg hA, if_neg h2, if_pos (.inr h5)])
    have kh4 : inB z.minT 1 1099511627776 = _ := h4
    have kh5 : inB z.maxT 1 1099511627776 = _ := h5
    clear hA h2
    go_enter Tryz.func45, Tryz.ntmps45
    go_wp2_with (go_at_call 76; refine (within_any _ _ _ _).mono ?_; rintro e w' ⟨rfl, rfl⟩)
    go_ret
    exact ⟨ret_int HR.out.symm, HBL.out⟩
  have hB : ¬ (tmB z.minT = false ∨ tmB z.maxT = false) := by rw [h4, h5]; simp
  by_cases h6 : z.maxT < z.minT
  · have HR : Hid (zchk z = 9) := Lib.hid (by unfold zchk; rw [if_neg hA, if_neg h2, if_neg hB, if_pos h6])
    have kh4 : inB z.minT 1 1099511627776 = _ := h4
    have kh5 : inB z.maxT 1 1099511627776 = _ := h5
    clear hA h2 hB
    go_enter Tryz.func45, Tryz.ntmps45
    go_wp2_with (go_at_call 76; refine (within_any _ _ _ _).mono ?_; rintro e w' ⟨rfl, rfl⟩)
    go_ret
    exact ⟨ret_int HR.out.symm, HBL.out⟩
  rcases h7 : vlB z.minV
  · have HR : Hid (zchk z = 2) := Lib.hid (by unfold zchk; rw [if_neg hA, if_neg h2, if_neg hB, if_neg h6, if_pos (.inl h7)])
    have kh4 : inB z.minT 1 1099511627776 = _ := h4
    have kh5 : inB z.maxT 1 1099511627776 = _ := h5
    have kh7 : inB z.minV (-1099511627776) 1099511627776 = _ := h7
    clear hA h2 hB
    go_enter Tryz.func45, Tryz.ntmps45
    go_wp2_with (go_at_call 76; refine (within_any _ _ _ _).mono ?_; rintro e w' ⟨rfl, rfl⟩)
    go_ret
    exact ⟨ret_int HR.out.symm, HBL.out⟩
  rcases h8 : vlB z.maxV
  · have HR : Hid (zchk z = 2) := Lib.hid (by unfold zchk; rw [if_neg hA, if_neg h2, if_neg hB, if_neg h6, if_pos (.inr h8)])
    have kh4 : inB z.minT 1 1099511627776 = _ := h4
    have kh5 : inB z.maxT 1 1099511627776 = _ := h5
    have kh7 : inB z.minV (-1099511627776) 1099511627776 = _ := h7
    have kh8 : inB z.maxV (-1099511627776) 1099511627776 = _ := h8
    clear hA h2 hB
    go_enter Tryz.func45, Tryz.ntmps45
    go_wp2_with (go_at_call 76; refine (within_any _ _ _ _).mono ?_; rintro e w' ⟨rfl, rfl⟩)
    go_ret
    exact ⟨ret_int HR.out.symm, HBL.out⟩
  have hC : ¬ (vlB z.minV = false ∨ vlB z.maxV = false) := by rw [h7, h8]; simp
  by_cases h9 : z.maxV < z.minV
  · have HR : Hid (zchk z = 9) := Lib.hid (by unfold zchk; rw [if_neg hA, if_neg h2, if_neg hB, if_neg h6, if_neg hC, if_pos h9])
    have kh4 : inB z.minT 1 1099511627776 = _ := h4
    have kh5 : inB z.maxT 1 1099511627776 = _ := h5
    have kh7 : inB z.minV (-1099511627776) 1099511627776 = _ := h7
    have kh8 : inB z.maxV (-1099511627776) 1099511627776 = _ := h8
    clear hA h2 hB hC
    go_enter Tryz.func45, Tryz.ntmps45
    go_wp2_with (go_at_call 76; refine (within_any _ _ _ _).mono ?_; rintro e w' ⟨rfl, rfl⟩)
    go_ret
    exact ⟨ret_int HR.out.symm, HBL.out⟩
  · have HR : Hid (zchk z = 0) := Lib.hid (by unfold zchk; rw [if_neg hA, if_neg h2, if_neg hB, if_neg h6, if_neg hC, if_neg h9])
    have kh4 : inB z.minT 1 1099511627776 = _ := h4
    have kh5 : inB z.maxT 1 1099511627776 = _ := h5
    have kh7 : inB z.minV (-1099511627776) 1099511627776 = _ := h7
    have kh8 : inB z.maxV (-1099511627776) 1099511627776 = _ := h8
    clear hA h2 hB hC
    go_enter Tryz.func45, Tryz.ntmps45
    go_wp2_with (go_at_call 76; refine (within_any _ _ _ _).mono ?_; rintro e w' ⟨rfl, rfl⟩)
    go_ret
    exact ⟨ret_int HR.out.symm, HBL.out⟩
end Go.Proofs.YtoojpfcnekpboaaGreat

namespace Go.Proofs.YtoojpfcnekpboaaGreat
open Go.RowKit

set_option maxHeartbeats 400000 in
theorem bare_any (n : Int) (w : World) : Calls Tryz.prog 51 #[.int .i64 n] w fun e w' => e = .returned (.bool (bareB n)) ∧ w' = w := by
  by_cases h3 : n = 3
  · subst h3
    go_enter Tryz.func51, Tryz.ntmps51
    go_wp2_with fail
    go_ret
    exact ⟨rfl, rfl⟩
  · have d3 : (n == 3) = false := beq_eq_false_iff_ne.2 h3
    by_cases h5 : n = 5
    · subst h5
      go_enter Tryz.func51, Tryz.ntmps51
      go_wp2_with fail
      go_ret
      exact ⟨rfl, rfl⟩
    · have d5 : (n == 5) = false := beq_eq_false_iff_ne.2 h5
      have HR : Hid (bareB n = false) := Lib.hid (by unfold bareB; simp [h3, h5])
      clear h3 h5
      go_enter Tryz.func51, Tryz.ntmps51
      go_wp2_with fail
      go_ret
      exact ⟨ret_bool HR.out.symm, rfl⟩

set_option maxRecDepth 100000 in
set_option maxHeartbeats 4000000 in
theorem compareR_any (x y : Chk) (A A' : Option Addr) (c c' : Nat) (w : World) (hl : LabsIn w.heap.size w A x.labs) (hc : x.labs.length ≤ c) (hl' : LabsIn w.heap.size w A' y.labs) (hc' : y.labs.length ≤ c') (hn : x.labs.length ≤ 9223372036854775807) :
    Calls Tryz.prog 50 #[.agg (chC x.sig A x.labs.length c x.zone x.data), .agg (chC y.sig A' y.labs.length c' y.zone y.data)] w fun e w' => e = .returned (.int .i64 (ccmp x y)) ∧ Below w.heap.size w w' := by
  have hb0 : Below w.heap.size w ((w.alloc (.cells (chC x.sig A x.labs.length c x.zone x.data) 58)).alloc (.cells (chC y.sig A' y.labs.length c' y.zone y.data) 58)) := ((Below.refl _ _).alloc (Nat.le_refl _) _).alloc (by simp) _
  have HB := Lib.hid hb0
  have HT0 := Lib.hid (at_two0 w (chC x.sig A x.labs.length c x.zone x.data) (chC y.sig A' y.labs.length c' y.zone y.data) 58 58)
  have HT1 := Lib.hid (at_two1 w (chC x.sig A x.labs.length c x.zone x.data) (chC y.sig A' y.labs.length c' y.zone y.data) 58 58)
  have HCP : Hid (∀ W' : World, Below w.heap.size w W' → Calls Tryz.prog 69 #[.slice A x.labs.length c, .slice A' y.labs.length c'] W' fun e w' => e = .returned (.int .i64 (cmpL x.labs y.labs)) ∧ Below w.heap.size w w') := Lib.hid fun W' hW => (compare05_any A A' c c' x.labs y.labs _ W' (hl.below hW) (hl'.below hW) hc hc' hn).mono fun e w' ⟨he, hb⟩ => ⟨he, hW.trans (hb.below.mono hW.size)⟩
  clear hb0 hl hl' hc hc' hn
  go_enter Tryz.func50, Tryz.ntmps50
  go_upto_region 1 with fail
  generalize ((w.alloc (.cells (chC x.sig A x.labs.length c x.zone x.data) 58)).alloc (.cells (chC y.sig A' y.labs.length c' y.zone y.data) 58)) = w1 at *
  have c0 : w1.cell? ⟨w.heap.size, 0, none⟩ = some (.int .i64 x.sig) := HT0.out.cell 0
  have d0 : w1.cell? ⟨w.heap.size + 1, 0, none⟩ = some (.int .i64 y.sig) := HT1.out.cell 0
  by_cases h1 : x.sig < y.sig
  · have HR : Hid (ccmp x y = -1) := Lib.hid (by unfold ccmp cmpI orI; rw [if_pos h1]; simp)
    go_wp2_with fail
    go_ret
    exact ⟨ret_int HR.out.symm, HB.out⟩
  by_cases h2 : y.sig < x.sig
  · have HR : Hid (ccmp x y = 1) := Lib.hid (by unfold ccmp cmpI orI; rw [if_neg h1, if_pos h2]; simp)
    go_wp2_with fail
    go_ret
    exact ⟨ret_int HR.out.symm, HB.out⟩
  have HR : Hid (ccmp x y = cmpL x.labs y.labs) := Lib.hid (by unfold ccmp cmpI orI; rw [if_neg h1, if_neg h2]; simp)
  have c1 : w1.cell? ⟨w.heap.size, 1, none⟩ = some (.slice A x.labs.length c) := HT0.out.cell 1
  have d1 : w1.cell? ⟨w.heap.size + 1, 1, none⟩ = some (.slice A' y.labs.length c') := HT1.out.cell 1
  go_wp2_with fail
  refine (HCP.out _ HB.out).mono ?_
  rintro e w2 ⟨rfl, hb⟩
  have HB2 := Lib.hid hb
  clear hb
  go_wp2_with fail
  go_ret
  exact ⟨ret_int HR.out.symm, HB2.out⟩

set_option maxRecDepth 100000 in
set_option maxHeartbeats 4000000 in
theorem checkChunkR_any (x : Chk) (A : Option Addr) (c : Nat) (width : Int) (w : World) (hw : 0 ≤ width) (hl : LabsIn w.heap.size w A x.labs) (hc : x.labs.length ≤ c) (hsz : ∀ y ∈ x.labs, y.name.size ≤ 140737488351232) :
    Calls Tryz.prog 132 #[.int .i64 width, .agg (chC x.sig A x.labs.length c x.zone x.data)] w fun e w' => e = .returned (.int .i64 (cchk x width)) ∧ Below w.heap.size w w' := by
  have hat := At.new w (chC x.sig A x.labs.length c x.zone x.data) 58
  have hb : Below w.heap.size w (w.alloc (.cells (chC x.sig A x.labs.length c x.zone x.data) 58)) := (Below.refl _ _).alloc (Nat.le_refl _) _
  have HB := Lib.hid hb
  have HAT := Lib.hid hat
  have HCK : Hid (∀ W' : World, Below w.heap.size w W' → Calls Tryz.prog 31 #[.slice A x.labs.length c] W' fun e w' => e = .returned (.int .i64 (chkL x.labs)) ∧ Below W'.heap.size W' w') := Lib.hid fun W' hW => (check05_any A c x.labs _ W' (hl.below hW) hc hsz).mono fun e w' ⟨he, hb⟩ => ⟨he, hb.below⟩
  clear hat hl hc hb hsz
  go_enter Tryz.func132, Tryz.ntmps132
  go_upto_region 1 with fail
  generalize w.alloc (.cells (chC x.sig A x.labs.length c x.zone x.data) 58) = w0 at *
  have c0 : w0.cell? ⟨w.heap.size, 0, none⟩ = some (.int .i64 x.sig) := HAT.out.cell 0
  by_cases h0 : x.sig < 1
  · have HR : Hid (cchk x width = 8) := Lib.hid (by unfold cchk; rw [if_pos (.inl h0)])
    go_wp2_with fail
    go_ret
    exact ⟨ret_int HR.out.symm, HB.out⟩
  by_cases h1 : 6 < x.sig
  · have HR : Hid (cchk x width = 8) := Lib.hid (by unfold cchk; rw [if_pos (.inr h1)])
    go_wp2_with fail
    go_ret
    exact ⟨ret_int HR.out.symm, HB.out⟩
  have hA : ¬ (x.sig < 1 ∨ 6 < x.sig) := by omega
  obtain ⟨p, hp⟩ : ∃ p, p = decide (x.sig = 6) := ⟨_, rfl⟩
  obtain ⟨q, hq⟩ : ∃ q, q = decide (width = 0) := ⟨_, rfl⟩
  have dp : (x.sig == 6) = p := by rw [hp]; rfl
  have dq : decide (0 < width) = !q := by
    rw [hq]
    by_cases h : width = 0
    · rw [h]; rfl
    · rw [decide_eq_true (by omega), decide_eq_false h]; rfl
  by_cases h2 : p = q
  · have HR : Hid (cchk x width = 8) := Lib.hid (by unfold cchk; rw [if_neg hA, if_pos (by rw [← hp, ← hq]; exact h2)])
    subst h2
    clear hp hq hA hw
    cases p
    all_goals
      go_wp2_with fail
      go_ret
      exact ⟨ret_int HR.out.symm, HB.out⟩
  have hB : ¬ decide (x.sig = 6) = decide (width = 0) := by rw [← hp, ← hq]; exact h2
  have hpq : p = !q := by cases p <;> cases q <;> simp_all
  subst hpq
  have HA := Lib.hid hA
  have HBB := Lib.hid hB
  clear h2 hp hq hA hB hw
  have c1 : w0.cell? ⟨w.heap.size, 1, none⟩ = some (.slice A x.labs.length c) := HAT.out.cell 1
  cases q
  all_goals
    go_wp2_with fail
    refine (HCK.out _ HB.out).mono ?_
    rintro e w1 ⟨rfl, hb⟩
    have HB1 := Lib.hid (HB.out.trans (hb.mono HB.out.size))
    have HAT1 := Lib.hid (HAT.out.below hb)
    clear hb c0 c1 HAT HB
    by_cases h3 : chkL x.labs = 0
    · have H3 := Lib.hid h3
      rw [h3]
      have c0 : w1.cell? ⟨w.heap.size, 0, none⟩ = some (.int .i64 x.sig) := HAT1.out.cell 0
      have c1 : w1.cell? ⟨w.heap.size, 1, none⟩ = some (.slice A x.labs.length c) := HAT1.out.cell 1
      have c15 : w1.cell? ⟨w.heap.size, 15, none⟩ = some (.string x.data) := HAT1.out.cell 15
      have hz := zone_range (range_at HAT1.out)
      rw [Nat.zero_add] at hz
      have HZ := Lib.hid hz
      clear h3 hz
      have HR : Hid (cchk x width = if bareB x.sig = true ∧ 0 < x.labs.length then 1 else if zchk x.zone ≠ 0 then zchk x.zone else if 262144 < x.data.size then 4 else 0) := Lib.hid (by unfold cchk; rw [if_neg HA.out, if_neg HBB.out, if_neg (by rw [H3.out]; simp)])
      go_wp2_with fail
      refine (bare_any _ _).mono ?_
      rintro e w' ⟨rfl, rfl⟩
      by_cases h4 : bareB x.sig = true ∧ 0 < x.labs.length
      · have HR2 : Hid (cchk x width = 1) := Lib.hid (by rw [HR.out, if_pos h4])
        rw [h4.1]
        have h5 := h4.2
        clear h4 HR
        go_wp2_with fail
        go_ret
        exact ⟨ret_int HR2.out.symm, HB1.out⟩
      · have HR2 : Hid (cchk x width = if zchk x.zone ≠ 0 then zchk x.zone else if 262144 < x.data.size then 4 else 0) := Lib.hid (by rw [HR.out, if_neg h4])
        clear HR
        rcases hbr : bareB x.sig
        all_goals
          rw [hbr] at h4
          try (have h5 : ¬ 0 < x.labs.length := fun h => h4 ⟨rfl, h⟩)
          clear hbr h4
          go_wp2_with (refine wpList_load_mid rfl 50 (.tmp 38) rfl w.heap.size 2 rfl x.zone.cells.toList _ HZ.out Tryz.underlying50 rfl size_zone ?_)
          refine (zcheck16_any x.zone _).mono ?_
          rintro e w2 ⟨rfl, hb⟩
          have HB2 := Lib.hid (HB1.out.trans (hb.mono HB1.out.size))
          have c15 : w2.cell? ⟨w.heap.size, 15, none⟩ = some (.string x.data) := (HAT1.out.below hb).cell 15
          clear hb c0 c1
          by_cases h5 : zchk x.zone = 0
          · have HR3 : Hid (cchk x width = if 262144 < x.data.size then 4 else 0) := Lib.hid (by rw [HR2.out, h5]; rfl)
            rw [h5]
            clear h5 HR2
            by_cases h6 : 262144 < x.data.size
            · have HR4 : Hid (cchk x width = 4) := Lib.hid (by rw [HR3.out, if_pos h6])
              go_wp2_with fail
              go_ret
              exact ⟨ret_int HR4.out.symm, HB2.out⟩
            · have HR4 : Hid (cchk x width = 0) := Lib.hid (by rw [HR3.out, if_neg h6])
              go_wp2_with fail
              go_ret
              exact ⟨ret_int HR4.out.symm, HB2.out⟩
          · have HR3 : Hid (cchk x width = zchk x.zone) := Lib.hid (by rw [HR2.out, if_pos h5])
            have d5 : (zchk x.zone != 0) = true := bne_iff_ne.2 h5
            clear h5 HR2
            go_wp2_with fail
            go_ret
            exact ⟨ret_int HR3.out.symm, HB2.out⟩
    · have HR : Hid (cchk x width = chkL x.labs) := Lib.hid (by unfold cchk; rw [if_neg HA.out, if_neg HBB.out, if_pos h3])
      have d3 : (chkL x.labs != 0) = true := bne_iff_ne.2 h3
      clear h3
      go_wp2_with fail
      go_ret
      exact ⟨ret_int HR.out.symm, HB1.out⟩
end Go.Proofs.YtoojpfcnekpboaaGreat
