/- Zones as bytes: plain Lean; what appending numbers to texts gives; the loops over the words. Walks: a zone as bytes (the program's). Walks: a zone without elements as bytes (the program's); any valid zone. -/
import Derived.Test.YtoojpfcnekpboaaGreatZAF
import Derived.Test.YtoojpfcnekpboaaGreatZAN
import Derived.Test.YtoojpfcnekpboaaGreatZAI
import Derived.Test.YtoojpfcnekpboaaGreatZAK
namespace Go.Proofs.YtoojpfcnekpboaaGreat
open Go.RowKit

def le4 (n : Int) : List UInt8 := [UInt8.ofNat (n % 256).toNat, UInt8.ofNat (n / 256 % 256).toNat, UInt8.ofNat (n / 65536 % 256).toNat, UInt8.ofNat (n / 16777216 % 256).toNat]
def zE (z : Zn) : List UInt8 := if z.count = 0 then vE z.count.toNat else vE z.count.toNat ++ vE z.minT.toNat ++ vE (z.maxT - z.minT).toNat ++ vE (zig z.minV) ++ vE (z.maxV - z.minV).toNat ++ z.words.flatMap le4
def zencR (z : Zn) : ByteArray × Int := if zchk z = 0 then (str (zE z), 0) else (⟨#[]⟩, 1)
/-- What a valid zone with elements holds. -/
structure ZOK (z : Zn) : Prop where
  n0 : 0 < z.count
  n1 : z.count ≤ 1152921504606846976
  t0 : 1 ≤ z.minT
  t1 : z.minT ≤ z.maxT
  t2 : z.maxT ≤ 1099511627776
  v0 : -1099511627776 ≤ z.minV
  v1 : z.minV ≤ z.maxV
  v2 : z.maxV ≤ 1099511627776
theorem zchk_zero {z : Zn} (h : zchk z = 0) : z = Zn.zero ∨ ZOK z := by
  unfold zchk at h
  split at h
  · omega
  rename_i h1
  split at h
  · split at h
    · rename_i h3; exact .inl h3
    · omega
  rename_i h2
  split at h
  · omega
  rename_i h4
  split at h
  · omega
  rename_i h5
  split at h
  · omega
  rename_i h6
  split at h
  · omega
  rename_i h7
  have a : tmB z.minT = true := by cases hx : tmB z.minT <;> simp_all
  have b : tmB z.maxT = true := by cases hx : tmB z.maxT <;> simp_all
  have c : vlB z.minV = true := by cases hx : vlB z.minV <;> simp_all
  have d : vlB z.maxV = true := by cases hx : vlB z.maxV <;> simp_all
  unfold tmB at a b
  unfold vlB at c d
  have a := of_decide_eq_true a
  have b := of_decide_eq_true b
  have c := of_decide_eq_true c
  have d := of_decide_eq_true d
  exact .inr ⟨by omega, by omega, by omega, by omega, by omega, by omega, by omega, by omega⟩
theorem ZOK.chk {z : Zn} (h : ZOK z) : zchk z = 0 := by
  have := h.n0; have := h.n1; have := h.t0; have := h.t1; have := h.t2; have := h.v0; have := h.v1; have := h.v2
  unfold zchk
  rw [if_neg (by omega), if_neg (by omega), if_neg (by unfold tmB; rw [decide_eq_true (by omega), decide_eq_true (by omega)]; simp), if_neg (by omega), if_neg (by unfold vlB; rw [decide_eq_true (by omega), decide_eq_true (by omega)]; simp), if_neg (by omega)]
theorem zero_chk : zchk Zn.zero = 0 := by decide
theorem le4_len (n : Int) : (le4 n).length = 4 := rfl

theorem appendL_any (l : List UInt8) (n : Int) (w : World) (h0 : 0 ≤ n) (h1 : n ≤ 1152921504606846976) (hl : l.length ≤ 1000000000) :
    Calls Tryz.prog 89 #[.string (str l), .int .i64 n] w fun e w' => e = .returned (.tuple #[.string (str (l ++ vE n.toNat)), .int .i64 0]) ∧ Below w.heap.size w w' := by
  refine (append_any (str l) n w hl).mono ?_
  rintro e w' ⟨rfl, hb⟩
  refine ⟨?_, hb⟩
  unfold pairV appR maxI
  rw [if_neg (by omega), str_append]
theorem appendSL_any (l : List UInt8) (n : Int) (w : World) (h0 : -1152921504606846976 ≤ n) (h1 : n ≤ 1152921504606846976) (hl : l.length ≤ 1000000000) :
    Calls Tryz.prog 123 #[.string (str l), .int .i64 n] w fun e w' => e = .returned (.tuple #[.string (str (l ++ vE (zig n))), .int .i64 0]) ∧ Below w.heap.size w w' := by
  refine (appendSigned_any (str l) n w hl).mono ?_
  rintro e w' ⟨rfl, hb⟩
  refine ⟨?_, hb⟩
  unfold pairV appS maxI
  rw [if_neg (by omega), str_append]
theorem appendL01_any (l : List UInt8) (n : Int) (w : World) (h0 : 0 ≤ n) (h1 : n ≤ 1152921504606846976) (hl : l.length ≤ 1000000000) :
    Calls Tryz.prog 162 #[.string (str l), .int .i64 n] w fun e w' => e = .returned (.tuple #[.string (str (l ++ vE n.toNat)), .int .i64 0]) ∧ Below w.heap.size w w' := by
  refine (append01_any (str l) n w hl).mono ?_
  rintro e w' ⟨rfl, hb⟩
  refine ⟨?_, hb⟩
  unfold pairV appR maxI
  rw [if_neg (by omega), str_append]
theorem appendSL01_any (l : List UInt8) (n : Int) (w : World) (h0 : -1152921504606846976 ≤ n) (h1 : n ≤ 1152921504606846976) (hl : l.length ≤ 1000000000) :
    Calls Tryz.prog 164 #[.string (str l), .int .i64 n] w fun e w' => e = .returned (.tuple #[.string (str (l ++ vE (zig n))), .int .i64 0]) ∧ Below w.heap.size w w' := by
  refine (appendSigned01_any (str l) n w hl).mono ?_
  rintro e w' ⟨rfl, hb⟩
  refine ⟨?_, hb⟩
  unfold pairV appS maxI
  rw [if_neg (by omega), str_append]
theorem word_step {z : Zn} {i : Nat} (h : i < 8) : (z.words.take (i + 1)).flatMap le4 = (z.words.take i).flatMap le4 ++ le4 (z.words.getD i 0) := by
  have hl : i < z.words.length := h
  rw [List.take_succ_eq_append_getElem hl, List.flatMap_append]
  have : z.words.getD i 0 = z.words[i] := by rw [List.getD_eq_getElem?_getD, List.getElem?_eq_getElem hl]; rfl
  rw [this]
  simp
theorem words_len (z : Zn) (i : Nat) : ((z.words.take i).flatMap le4).length ≤ 32 := by
  have h : (z.words.take i).length ≤ 8 := by rw [List.length_take]; show min i 8 ≤ 8; omega
  generalize z.words.take i = l at *
  have : ∀ l : List Int, (l.flatMap le4).length = 4 * l.length := by
    intro l
    induction l with
    | nil => rfl
    | cons a r ih => rw [List.flatMap_cons, List.length_append, ih, List.length_cons, le4_len]; omega
  rw [this]
  omega
theorem index_word (z : Zn) (i : Nat) (h : i < 8) (w : World) : (Instr.index 48 (.agg #[.int .u32 z.b0, .int .u32 z.b1, .int .u32 z.b2, .int .u32 z.b3, .int .u32 z.b4, .int .u32 z.b5, .int .u32 z.b6, .int .u32 z.b7]) (.int .i64 i)).run Tryz.prog w = .ok (.int .u32 (z.words.getD i 0)) w := by
  rcases i with _ | _ | _ | _ | _ | _ | _ | _ | i
  · kernel_rfl
  · kernel_rfl
  · kernel_rfl
  · kernel_rfl
  · kernel_rfl
  · kernel_rfl
  · kernel_rfl
  · kernel_rfl
  · omega
end Go.Proofs.YtoojpfcnekpboaaGreat

namespace Go.Proofs.YtoojpfcnekpboaaGreat
open Go.RowKit

theorem writeN_any (W : World) (b : Nat) (l : List UInt8) (n : Int) (w : World) (h : BL W b l w) (hl : l.length + 1 ≤ 1000000000000) (h0 : 0 ≤ n) (h1 : n < 256) :
    Calls Tryz.prog 124 #[.pointer (some ⟨b, 0, none⟩), .int .u8 n] w fun e w' => e = .returned .nilIface ∧ BL W b (l ++ [UInt8.ofNat n.toNat]) w' ∧ OK8 b w w' := by
  have := writeByte_any W b l (UInt8.ofNat n.toNat) w h hl
  rw [toNat_byte (by omega), show ((n.toNat : Nat) : Int) = n from Int.toNat_of_nonneg h0] at this
  exact this
theorem zE_more {z : Zn} (h : ZOK z) : zE z = vE z.count.toNat ++ vE z.minT.toNat ++ vE (z.maxT - z.minT).toNat ++ vE (zig z.minV) ++ vE (z.maxV - z.minV).toNat ++ z.words.flatMap le4 := by
  have := h.n0
  unfold zE
  rw [if_neg (by omega)]
/-- The words of a zone are numbers of 32 bits. -/
def ZW (z : Zn) : Prop := ∀ i, i < 8 → 0 ≤ z.words.getD i 0 ∧ z.words.getD i 0 < 4294967296

set_option maxRecDepth 100000 in
set_option maxHeartbeats 8000000 in
theorem zencode_ok (z : Zn) (w : World) (hz : ZOK z) (hw : ZW z) :
    Calls Tryz.prog 92 #[.agg z.cells] w fun e w' => e = .returned (.tuple #[.string (str (zE z)), .int .i64 0]) ∧ Below w.heap.size w w' := by
  have HZ := Lib.hid hz
  have HW := Lib.hid hw
  have HCH := Lib.hid (fun w => zcheck_any z w)
  have HC0 := Lib.hid hz.chk
  have hat := At.new w z.cells 50
  have HB0 : Hid (Below w.heap.size w (w.alloc (.cells z.cells 50))) := Lib.hid ((Below.refl _ _).alloc (Nat.le_refl _) _)
  have HAT := Lib.hid hat
  have HLT : Hid (w.heap.size < (w.alloc (.cells z.cells 50)).heap.size) := Lib.hid hat.lt
  clear hat hz hw
  go_enter Tryz.func92, Tryz.ntmps92
  go_upto_region 1 with fail
  generalize w.alloc (.cells z.cells 50) = w0 at *
  go_wp2_with (refine wpList_load_row rfl 50 (.tmp 1) rfl w.heap.size rfl 50 z.cells (0, 0) _ HAT.out.out Tryz.underlying50 rfl rfl ?_)
  refine (HCH.out _).mono ?_
  rintro e w1 ⟨rfl, hb⟩
  have HAT1 := Lib.hid (HAT.out.below hb)
  have HB1 := Lib.hid (HB0.out.trans (hb.mono HB0.out.size))
  rw [HC0.out]
  obtain ⟨c0, c1, c2, c3, c4⟩ := ZAt.of HAT1.out
  clear hb HAT HB0 HCH HLT
  go_wp2_with fail
  refine (appendL_any [] z.count _ (by have := HZ.out.n0; omega) HZ.out.n1 (by decide)).mono ?_
  rintro e w2 ⟨rfl, hb⟩
  have HAT2 := Lib.hid (HAT1.out.below hb)
  have HB2 := Lib.hid (HB1.out.trans (hb.mono HB1.out.size))
  clear hb HAT1 HB1 c0 c1 c2 c3 c4
  obtain ⟨c0, c1, c2, c3, c4⟩ := ZAt.of HAT2.out
  have d0 : (z.count == 0) = false := beq_eq_false_iff_ne.2 (by have := HZ.out.n0; omega)
  obtain ⟨l2, hl2⟩ : ∃ l, l = [] ++ vE z.count.toNat := ⟨_, rfl⟩
  rw [← hl2]
  have HE2 := Lib.hid hl2
  have HN2 : Hid (l2.length ≤ 10) := Lib.hid (by rw [hl2]; exact vE_len _)
  clear hl2
  go_wp2_with fail
  refine (appendL_any l2 z.minT _ (by have := HZ.out.t0; omega) (by have := HZ.out.t1; have := HZ.out.t2; omega) (by have := HN2.out; omega)).mono ?_
  rintro e w3 ⟨rfl, hb⟩
  have HAT3 := Lib.hid (HAT2.out.below hb)
  have HB3 := Lib.hid (HB2.out.trans (hb.mono HB2.out.size))
  clear hb HAT2 HB2 c0 c1 c2 c3 c4
  obtain ⟨c0, c1, c2, c3, c4⟩ := ZAt.of HAT3.out
  obtain ⟨l3, hl3⟩ : ∃ l, l = l2 ++ vE z.minT.toNat := ⟨_, rfl⟩
  rw [← hl3]
  have HE3 := Lib.hid hl3
  have HN3 : Hid (l3.length ≤ 20) := Lib.hid (by have h1 := vE_len z.minT.toNat; have h2 := HN2.out; rw [hl3, List.length_append]; omega)
  have e3 : IntKind.i64.wrap (z.maxT - z.minT) = z.maxT - z.minT := IntWalk.i64_in _ (by have := HZ.out.t0; have := HZ.out.t1; have := HZ.out.t2; omega)
  have e3' : wrap64 (z.maxT - z.minT) = z.maxT - z.minT := by have := HZ.out.t0; have := HZ.out.t1; have := HZ.out.t2; unfold wrap64; omega
  clear hl3
  go_wp2_with fail
  refine (appendL_any l3 (z.maxT - z.minT) _ (by have := HZ.out.t1; omega) (by have := HZ.out.t0; have := HZ.out.t1; have := HZ.out.t2; omega) (by have := HN3.out; omega)).mono ?_
  rintro e w4 ⟨rfl, hb⟩
  have HAT4 := Lib.hid (HAT3.out.below hb)
  have HB4 := Lib.hid (HB3.out.trans (hb.mono HB3.out.size))
  clear hb HAT3 HB3 c0 c1 c2 c3 c4 e3 e3'
  obtain ⟨c0, c1, c2, c3, c4⟩ := ZAt.of HAT4.out
  obtain ⟨l4, hl4⟩ : ∃ l, l = l3 ++ vE (z.maxT - z.minT).toNat := ⟨_, rfl⟩
  rw [← hl4]
  have HE4 := Lib.hid hl4
  have HN4 : Hid (l4.length ≤ 30) := Lib.hid (by have h1 := vE_len (z.maxT - z.minT).toNat; have h2 := HN3.out; rw [hl4, List.length_append]; omega)
  clear hl4
  go_wp2_with fail
  refine (appendSL_any l4 z.minV _ (by have := HZ.out.v0; omega) (by have := HZ.out.v1; have := HZ.out.v2; omega) (by have := HN4.out; omega)).mono ?_
  rintro e w5 ⟨rfl, hb⟩
  have HAT5 := Lib.hid (HAT4.out.below hb)
  have HB5 := Lib.hid (HB4.out.trans (hb.mono HB4.out.size))
  clear hb HAT4 HB4 c0 c1 c2 c3 c4
  obtain ⟨c0, c1, c2, c3, c4⟩ := ZAt.of HAT5.out
  obtain ⟨l5, hl5⟩ : ∃ l, l = l4 ++ vE (zig z.minV) := ⟨_, rfl⟩
  rw [← hl5]
  have HE5 := Lib.hid hl5
  have HN5 : Hid (l5.length ≤ 40) := Lib.hid (by have h1 := vE_len (zig z.minV); have h2 := HN4.out; rw [hl5, List.length_append]; omega)
  have e3' : wrap64 (z.maxV - z.minV) = z.maxV - z.minV := by have := HZ.out.v0; have := HZ.out.v1; have := HZ.out.v2; unfold wrap64; omega
  clear hl5
  go_wp2_with fail
  refine (appendL_any l5 (z.maxV - z.minV) _ (by have := HZ.out.v1; omega) (by have := HZ.out.v0; have := HZ.out.v1; have := HZ.out.v2; omega) (by have := HN5.out; omega)).mono ?_
  rintro e w6 ⟨rfl, hb⟩
  have HAT6 := Lib.hid (HAT5.out.below hb)
  have HB6 := Lib.hid (HB5.out.trans (hb.mono HB5.out.size))
  clear hb HAT5 HB5 c0 c1 c2 c3 c4 e3'
  obtain ⟨l6, hl6⟩ : ∃ l, l = l5 ++ vE (z.maxV - z.minV).toNat := ⟨_, rfl⟩
  rw [← hl6]
  have HE6 := Lib.hid hl6
  have HN6 : Hid (l6.length ≤ 50) := Lib.hid (by have h1 := vE_len (z.maxV - z.minV).toNat; have h2 := HN5.out; rw [hl6, List.length_append]; omega)
  have HZE : Hid (zE z = l6 ++ z.words.flatMap le4) := Lib.hid (by rw [zE_more HZ.out, hl6, HE5.out, HE4.out, HE3.out, HE2.out]; simp)
  have HBL : Hid (BL w w6.heap.size [] (w6.alloc (.cells #[.pointer none, .slice none 0 0] 106))) := Lib.hid (BL.new HB6.out)
  have HAB : Hid (At (w6.alloc (.cells #[.pointer none, .slice none 0 0] 106)) w.heap.size z.cells 50) := Lib.hid (HAT6.out.alloc _)
  have HNE : Hid (w.heap.size ≠ w6.heap.size) := Lib.hid (by have := HAT6.out.lt; omega)
  clear hl6 HE2 HE3 HE4 HE5 HE6 HN2 HN3 HN4 HN5
  go_wp2_with fail
  refine (writeString_any w w6.heap.size [] (str l6) _ HBL.out (by have := HN6.out; rw [str_size]; simp; omega)).mono ?_
  rintro e w7 ⟨rfl, hbl, ho⟩
  have HB7 : Hid (BL w w6.heap.size (l6 ++ (z.words.take 0).flatMap le4) w7) := Lib.hid (by simpa [bs_str] using hbl)
  have HAT7 := Lib.hid (HAB.out.ok8 ho HNE.out (by decide))
  have k5 := HAT7.out.cell 5
  have k6 := HAT7.out.cell 6
  have k7 := HAT7.out.cell 7
  have k8 := HAT7.out.cell 8
  have k9 := HAT7.out.cell 9
  have k10 := HAT7.out.cell 10
  have k11 := HAT7.out.cell 11
  have k12 := HAT7.out.cell 12
  simp only [Zn.cells, List.getElem?_toArray, List.getElem?_cons_zero, List.getElem?_cons_succ] at k5 k6 k7 k8 k9 k10 k11 k12
  generalize w6.heap.size = B at *
  clear hbl ho HBL HAB
  go_wp2_with fail
  go_loopw [61] (fun i wr => ∃ k : Nat, k ≤ 8 ∧ i = .int .i64 k ∧ BL w B (l6 ++ (z.words.take k).flatMap le4) wr) (fun i _ => 8 - (intOf i).toNat)
  case atStart => exact ⟨0, Nat.zero_le _, rfl, HB7.out⟩
  case round =>
    obtain ⟨k, hk, rfl, hbr⟩ := hrel
    have HBR := Lib.hid hbr
    clear hbr HB7 k5 k6 k7 k8 k9 k10 k11 k12
    by_cases hlt : k < 8
    · have hi := index_word z k hlt
      have HST := Lib.hid (word_step (z := z) hlt)
      obtain ⟨hx0, hx1⟩ := HW.out k hlt
      have HLN : Hid ((l6 ++ (z.words.take k).flatMap le4).length ≤ 82) := Lib.hid (by rw [List.length_append]; have := words_len z k; have := HN6.out; omega)
      generalize z.words.getD k 0 = x at *
      generalize hL : l6 ++ (z.words.take k).flatMap le4 = L at *
      have HL := Lib.hid hL
      clear hL
      go_wp2_with fail
      refine wp_loop_rounds 5 ?_
      rw [rounds_succ]
      go_wp2_with fail
      refine (writeN_any w B L (x % 256) _ HBR.out (by have := HLN.out; omega) (by omega) (by omega)).mono ?_
      rintro e v1 ⟨rfl, hb1, _⟩
      have HV1 := Lib.hid hb1
      clear hb1
      go_wp2_with fail
      rw [rounds_succ]
      go_wp2_with fail
      refine (writeN_any w B _ (x / 256 % 256) _ HV1.out (by have := HLN.out; simp; omega) (by omega) (by omega)).mono ?_
      rintro e v2 ⟨rfl, hb2, _⟩
      have HV2 := Lib.hid hb2
      clear hb2
      go_wp2_with fail
      rw [rounds_succ]
      go_wp2_with fail
      refine (writeN_any w B _ (x / 65536 % 256) _ HV2.out (by have := HLN.out; simp; omega) (by omega) (by omega)).mono ?_
      rintro e v3 ⟨rfl, hb3, _⟩
      have HV3 := Lib.hid hb3
      clear hb3
      go_wp2_with fail
      rw [rounds_succ]
      go_wp2_with fail
      refine (writeN_any w B _ (x / 16777216) _ HV3.out (by have := HLN.out; simp; omega) (by omega) (by omega)).mono ?_
      rintro e v4 ⟨rfl, hb4, _⟩
      have HV4 : Hid (BL w B (l6 ++ (z.words.take (k + 1)).flatMap le4) v4) := Lib.hid (by
        rw [HST.out, ← List.append_assoc, HL.out]
        have e5 : x / 16777216 % 256 = x / 16777216 := by omega
        have e6 : le4 x = [UInt8.ofNat (x % 256).toNat] ++ [UInt8.ofNat (x / 256 % 256).toNat] ++ [UInt8.ofNat (x / 65536 % 256).toNat] ++ [UInt8.ofNat (x / 16777216).toNat] := by
          unfold le4
          rw [e5]
          rfl
        rw [e6]
        simpa using hb4)
      clear hb4
      go_wp2_with fail
      rw [rounds_succ]
      go_wp2_with fail
      go_roundw
      case rel => exact ⟨k + 1, by omega, by go_num, HV4.out⟩
      case measure => simp [intOf]; omega
    · obtain rfl : k = 8 := by omega
      have HTK : Hid (l6 ++ (z.words.take 8).flatMap le4 = zE z) := Lib.hid (by rw [HZE.out]; rfl)
      rw [HTK.out] at HBR
      go_wp2_with fail
      refine (bstring_any w B _ _ HBR.out).mono ?_
      rintro e w' ⟨rfl, hb⟩
      have HF := Lib.hid hb
      clear hb
      go_wp2_with fail
      go_ret2
      exact ⟨rfl, HF.out⟩
end Go.Proofs.YtoojpfcnekpboaaGreat

namespace Go.Proofs.YtoojpfcnekpboaaGreat
open Go.RowKit

set_option maxRecDepth 100000 in
set_option maxHeartbeats 2000000 in
theorem zencode_zero (w : World) :
    Calls Tryz.prog 92 #[.agg Zn.zero.cells] w fun e w' => e = .returned (.tuple #[.string (str (zE Zn.zero)), .int .i64 0]) ∧ Below w.heap.size w w' := by
  have HCH := Lib.hid (fun w => zcheck_any Zn.zero w)
  have HC0 := Lib.hid zero_chk
  have hat := At.new w Zn.zero.cells 50
  have HB0 : Hid (Below w.heap.size w (w.alloc (.cells Zn.zero.cells 50))) := Lib.hid ((Below.refl _ _).alloc (Nat.le_refl _) _)
  have HAT := Lib.hid hat
  clear hat
  go_enter Tryz.func92, Tryz.ntmps92
  go_upto_region 1 with fail
  generalize w.alloc (.cells Zn.zero.cells 50) = w0 at *
  go_wp2_with (refine wpList_load_row rfl 50 (.tmp 1) rfl w.heap.size rfl 50 Zn.zero.cells (0, 0) _ HAT.out.out Tryz.underlying50 rfl rfl ?_)
  refine (HCH.out _).mono ?_
  rintro e w1 ⟨rfl, hb⟩
  have HAT1 := Lib.hid (HAT.out.below hb)
  have HB1 := Lib.hid (HB0.out.trans (hb.mono HB0.out.size))
  rw [HC0.out]
  have c0 : w1.cell? ⟨w.heap.size, 0, none⟩ = some (.int .i64 0) := HAT1.out.cell 0
  clear hb HAT HB0 HCH
  go_wp2_with fail
  refine (appendL_any [] 0 _ (by decide) (by decide) (by decide)).mono ?_
  rintro e w2 ⟨rfl, hb⟩
  have c0 : w2.cell? ⟨w.heap.size, 0, none⟩ = some (.int .i64 0) := (HAT1.out.below hb).cell 0
  have HB2 := Lib.hid (HB1.out.trans (hb.mono HB1.out.size))
  clear hb
  obtain ⟨s, hs⟩ : ∃ s, s = str ([] ++ vE (0 : Int).toNat) := ⟨_, rfl⟩
  have HS : Hid (str (zE Zn.zero) = s) := Lib.hid (by rw [hs]; rfl)
  rw [← hs]
  clear hs
  go_wp2_with fail
  go_ret2
  exact ⟨by rw [HS.out]; rfl, HB2.out⟩
theorem zencode_any (z : Zn) (w : World) (hz : zchk z = 0) (hw : ZW z) :
    Calls Tryz.prog 92 #[.agg z.cells] w fun e w' => e = .returned (.tuple #[.string (str (zE z)), .int .i64 0]) ∧ Below w.heap.size w w' := by
  rcases zchk_zero hz with rfl | h
  · exact zencode_zero w
  · exact zencode_ok z w h hw
theorem zE_len (z : Zn) : (zE z).length ≤ 82 := by
  unfold zE
  split
  · have := vE_len z.count.toNat
    omega
  · have h1 := vE_len z.count.toNat
    have h2 := vE_len z.minT.toNat
    have h3 := vE_len (z.maxT - z.minT).toNat
    have h4 := vE_len (zig z.minV)
    have h5 := vE_len (z.maxV - z.minV).toNat
    have h6 := words_len z 8
    have h7 : z.words.take 8 = z.words := rfl
    rw [h7] at h6
    simp only [List.length_append]
    omega
end Go.Proofs.YtoojpfcnekpboaaGreat
