/- Walks: groups of 7 bits are appended (the program's and the reference's). Walks: a number is appended (the program's). Zones: plain Lean, their cells, their comparison. -/
import Derived.Test.YtoojpfcnekpboaaGreatZAC
import Derived.Test.YtoojpfcnekpboaaGreatZAD
import Derived.Laws.Bits64b
import Derived.Laws.BitsLemmas
import Derived.Laws.StructEq
import Derived.ChangeKeysEq
namespace Go.Proofs.YtoojpfcnekpboaaGreat
open Go.RowKit

theorem u8_one (n : Nat) (h : n < 256) : #[Value.int .u8 (n : Int)] = (([UInt8.ofNat n] : List UInt8).map u8W).toArray := by
  show #[Value.int .u8 (n : Int)] = #[Value.int .u8 ((UInt8.ofNat n).toNat : Int)]
  rw [toNat_byte h]
theorem and127 (n : Nat) (h : n < 18446744073709551616) : bits .and .u64 (n : Int) 127 = ((n % 128 : Nat) : Int) := by
  have := bits_and_u64_nat n 127 h (by decide)
  rw [show n &&& 127 = n % 128 from Nat.and_two_pow_sub_one_eq_mod n 7] at this
  exact this
theorem or128 (n : Nat) (h : n < 128) : bits .or .u8 (n : Int) 128 = ((n + 128 : Nat) : Int) := by
  have := (bits_nat .u8 8 (by decide) wraps_u8 n 128 (by omega) (by decide)).2
  rw [show n ||| 128 = n + 128 by
    have h1 := Nat.two_pow_add_eq_or_of_lt (i := 7) (b := n) (by omega) 1
    rw [Nat.or_comm, show (2 : Nat) ^ 7 * 1 = 128 from rfl] at h1
    omega] at this
  exact this

set_option maxRecDepth 100000 in
set_option maxHeartbeats 2000000 in
theorem appendGroups_any (W w : World) (A : Option Addr) (m c : Nat) (l : List UInt8) (n : Nat) (hn : n < 18446744073709551616) (hr : BR W A m c l w) (hl : m ≤ 100000000) :
    Calls Tryz.prog 121 #[.slice A m c, .int .u64 n] w fun e w' => ∃ A' m' c' l', e = .returned (.slice A' m' c') ∧ Hid (l' = l ++ vE n) ∧ BR W A' m' c' l' w' ∧ Gro w w' A A' := by
  have HR := Lib.hid hr
  have HN := Lib.hid hn
  have HL := Lib.hid hl
  clear hr hn hl
  go_enter Tryz.func121, Tryz.ntmps121
  go_wp2_with fail
  go_loopg [0, 1] 10 (fun g v i wr => ∃ (x : Nat) (A1 : Option Addr) (m1 c1 : Nat) (l1 : List UInt8), 0 < g ∧ x < 128 ^ g ∧ x < 18446744073709551616 ∧ v = .slice A1 m1 c1 ∧ i = .int .u64 x ∧ Hid (l1 ++ vEf g x = l ++ vE n) ∧ Hid (m1 + g ≤ m + 10) ∧ BR W A1 m1 c1 l1 wr ∧ Gro w wr A A1)
  case atStart => exact ⟨n, A, m, c, l, by decide, by have := HN.out; omega, HN.out, rfl, rfl, Lib.hid rfl, Lib.hid (Nat.le_refl _), HR.out, Gro.refl _ _⟩
  case round =>
    obtain ⟨x, A1, m1, c1, l1, hg, hx, hx2, rfl, rfl, HE, HM, hbr, hgr⟩ := hrel
    have HBR := Lib.hid hbr
    have HGR := Lib.hid hgr
    have HX := Lib.hid hx
    have HX2 := Lib.hid hx2
    clear hbr hgr hx hx2
    obtain ⟨f, rfl⟩ : ∃ f, gk = f + 1 := ⟨gk - 1, by omega⟩
    by_cases h : x < 128
    · have HV : Hid (vEf (f + 1) x = [UInt8.ofNat x]) := Lib.hid (vEf_small h)
      have hi : (x : Int) < 128 := by omega
      have e1 : Hid (#[Value.int .u8 (x : Int)] = (([UInt8.ofNat x] : List UInt8).map u8W).toArray) := Lib.hid (u8_one x (by omega))
      go_wp2_with (at_builtin; (refine wpList_bytesV rfl (.tmp 16) (.tmp 19) rfl HBR.out [UInt8.ofNat x] _ e1.out (by simp) rfl rfl (by have := HM.out; have := HL.out; simp; omega) ?_))
      intro A' m' c' l' w' HE2 hq hg2
      have HQ : Hid (BR W A' m' c' l' w') := Lib.hid hq
      have HG := Lib.hid (HGR.out.trans hg2)
      clear hq hg2 e1
      go_wp2_with fail
      go_ret
      exact ⟨A', m', c', l', rfl, Lib.hid (by rw [HE2.out, ← HE.out, HV.out]), HQ.out, HG.out⟩
    · have HV : Hid (vEf (f + 1) x = UInt8.ofNat (x % 128 + 128) :: vEf f (x / 128)) := Lib.hid (vEf_more (by omega))
      have e1 := and127 x HX2.out
      have e2 : ((x % 128 : Nat) : Int) % 256 = ((x % 128 : Nat) : Int) := by omega
      have e3 : bits .or .u8 ((x : Int) % 128) 128 = (x : Int) % 128 + 128 := or128 (x % 128) (by omega)
      have e4 : Hid (#[Value.int .u8 ((x : Int) % 128 + 128)] = (([UInt8.ofNat (x % 128 + 128)] : List UInt8).map u8W).toArray) := Lib.hid (u8_one (x % 128 + 128) (by omega))
      have h2 : (128 : Int) ≤ (x : Int) := by omega
      go_wp2_with (at_builtin; (refine wpList_bytesV rfl (.tmp 7) (.tmp 12) rfl HBR.out [UInt8.ofNat (x % 128 + 128)] _ e4.out (by simp) rfl rfl (by have := HM.out; have := HL.out; simp; omega) ?_))
      intro A' m' c' l' w' HE2 hq hg2
      have HQ : Hid (BR W A' m' c' l' w') := Lib.hid hq
      have HG := Lib.hid (HGR.out.trans hg2)
      have HML : Hid (m' = m1 + 1) := Lib.hid (by have h1 := hq.len; rw [HE2.out, List.length_append, HBR.out.len] at h1; simpa using h1.symm)
      have HF : Hid (0 < f ∧ x / 128 < 128 ^ f) := Lib.hid (by
        have h1 := HX.out
        rw [Nat.pow_succ] at h1
        refine ⟨?_, Nat.div_lt_of_lt_mul (by omega)⟩
        rcases Nat.eq_zero_or_pos f with rfl | hk
        · simp at h1; omega
        · exact hk)
      clear hq hg2 e1 e2 e3 e4
      go_wp2_with fail
      go_roundg f
      case measure => exact Nat.lt_succ_self _
      case rel => exact ⟨x / 128, A', m', c', l', HF.out.1, HF.out.2, by have := HX2.out; omega, rfl, by first | rfl | go_num, Lib.hid (by rw [HE2.out, ← HE.out, HV.out]; simp), Lib.hid (by have := HM.out; have := HML.out; omega), HQ.out, HG.out⟩
end Go.Proofs.YtoojpfcnekpboaaGreat

namespace Go.Proofs.YtoojpfcnekpboaaGreat
open Go.RowKit

def maxI : Int := 1152921504606846976
def appR (s : ByteArray) (n : Int) : ByteArray × Int := if n < 0 ∨ maxI < n then (⟨#[]⟩, 2) else (s ++ str (vE n.toNat), 0)
def appS (s : ByteArray) (n : Int) : ByteArray × Int := if n < -maxI ∨ maxI < n then (⟨#[]⟩, 2) else (s ++ str (vE (zig n)), 0)
def pairV (p : ByteArray × Int) : Value := .tuple #[.string p.1, .int .i64 p.2]
theorem str_vE_size (n : Nat) : (str (vE n)).size ≤ 10 := vE_len n

set_option maxRecDepth 100000 in
set_option maxHeartbeats 1000000 in
theorem append_any (s : ByteArray) (n : Int) (w : World) (hs : s.size ≤ 1000000000) :
    Calls Tryz.prog 89 #[.string s, .int .i64 n] w fun e w' => e = .returned (pairV (appR s n)) ∧ Below w.heap.size w w' := by
  by_cases h0 : n < 0
  · have HR : Hid (appR s n = (⟨#[]⟩, 2)) := Lib.hid (by unfold appR; rw [if_pos (.inl h0)])
    rw [HR.out]
    unfold pairV
    go_enter Tryz.func89, Tryz.ntmps89
    go_wp2_with fail
    go_ret2
    exact ⟨rfl, Below.refl _ _⟩
  by_cases h1 : 1152921504606846976 < n
  · have HR : Hid (appR s n = (⟨#[]⟩, 2)) := Lib.hid (by unfold appR maxI; rw [if_pos (.inr h1)])
    rw [HR.out]
    unfold pairV
    go_enter Tryz.func89, Tryz.ntmps89
    go_wp2_with fail
    go_ret2
    exact ⟨rfl, Below.refl _ _⟩
  · obtain ⟨m, rfl⟩ := Int.eq_ofNat_of_zero_le (show 0 ≤ n by omega)
    have HR : Hid (appR s (m : Int) = (s ++ str (vE m), 0)) := Lib.hid (by unfold appR maxI; rw [if_neg (by omega)]; rfl)
    have hu : IntKind.u64.wrap (m : Int) = (m : Int) := by rw [IntKind.wrap_u64]; omega
    have HA : Hid (∀ w, Calls Tryz.prog 121 #[.slice none 0 0, .int .u64 m] w fun e w' => ∃ A' m' c' l', e = .returned (.slice A' m' c') ∧ Hid (l' = [] ++ vE m) ∧ BR w A' m' c' l' w' ∧ Gro w w' none A') := Lib.hid fun w => appendGroups_any w w none 0 0 [] m (by omega) (BR.nil (Below.refl _ _)) (by decide)
    have hz := str_vE_size m
    have HZ := Lib.hid hz
    rw [HR.out]
    unfold pairV
    generalize hV : str (vE m) = V at *
    have HV := Lib.hid hV
    have hk : ¬ 9223372036854775807 < s.size + V.size := by omega
    clear hz hV
    go_enter Tryz.func89, Tryz.ntmps89
    go_wp2_with fail
    refine (HA.out _).mono ?_
    rintro e w1 ⟨A', m', c', l', rfl, HE, hq, _⟩
    have kc := hq.str
    have HE2 : Hid (str l' = V) := Lib.hid (by rw [HE.out, List.nil_append, HV.out])
    rw [HE2.out] at kc
    have HB := Lib.hid hq.below
    clear hq
    go_wp2_with fail
    go_ret2
    exact ⟨rfl, HB.out⟩

theorem zig_nonneg {n : Int} (h : 0 ≤ n) : (zig n : Int) = 2 * n := by unfold zig; rw [if_pos h]; omega
theorem zig_neg {n : Int} (h : n < 0) : (zig n : Int) = 2 * (-n) - 1 := by unfold zig; rw [if_neg (by omega)]; omega
set_option maxHeartbeats 400000 in
theorem folded_any (n : Int) (w : World) (h1 : -1152921504606846976 ≤ n) (h2 : n ≤ 1152921504606846976) :
    Calls Tryz.prog 155 #[.int .i64 n] w fun e w' => e = .returned (.int .u64 (zig n)) ∧ w' = w := by
  by_cases h0 : 0 ≤ n
  · have HR := Lib.hid (zig_nonneg h0)
    have e1 : IntKind.u64.wrap n = n := by rw [IntKind.wrap_u64]; omega
    have e2 : IntKind.u64.wrap (2 * n) = 2 * n := by rw [IntKind.wrap_u64]; omega
    go_enter Tryz.func155, Tryz.ntmps155
    go_wp2_with fail
    go_ret
    exact ⟨ret_int HR.out.symm, rfl⟩
  · have hn : n < 0 := by omega
    have HR := Lib.hid (zig_neg hn)
    have e0 : wrap64 (-n) = -n := by unfold wrap64; omega
    have e1 : IntKind.u64.wrap (-n) = -n := by rw [IntKind.wrap_u64]; omega
    have e2 : IntKind.u64.wrap (2 * (-n)) = 2 * (-n) := by rw [IntKind.wrap_u64]; omega
    have e3 : IntKind.u64.wrap (2 * (-n) - 1) = 2 * (-n) - 1 := by rw [IntKind.wrap_u64]; omega
    go_enter Tryz.func155, Tryz.ntmps155
    go_wp2_with fail
    go_ret
    exact ⟨ret_int (by first | exact HR.out.symm | (rw [HR.out]; omega)), rfl⟩
def inR (n : Int) : Bool := decide (-maxI ≤ n ∧ n ≤ maxI)
theorem inRange_any (n : Int) (w : World) :
    Calls Tryz.prog 154 #[.int .i64 n] w fun e w' => e = .returned (.bool (inR n)) ∧ w' = w := by
  have HR : Hid (inR n = decide (-1152921504606846976 ≤ n ∧ n ≤ 1152921504606846976)) := Lib.hid rfl
  by_cases h1 : -1152921504606846976 ≤ n
  · by_cases h2 : n ≤ 1152921504606846976
    · go_enter Tryz.func154, Tryz.ntmps154
      go_wp2_with fail
      go_ret
      exact ⟨ret_bool (by first | exact HR.out.symm | (rw [HR.out]; done) | (rw [HR.out, Bool.eq_iff_iff]; simp; done) | (rw [HR.out, Bool.eq_iff_iff]; simp; omega)), rfl⟩
    · go_enter Tryz.func154, Tryz.ntmps154
      go_wp2_with fail
      go_ret
      exact ⟨ret_bool (by first | exact HR.out.symm | (rw [HR.out]; done) | (rw [HR.out, Bool.eq_iff_iff]; simp; done) | (rw [HR.out, Bool.eq_iff_iff]; simp; omega)), rfl⟩
  · go_enter Tryz.func154, Tryz.ntmps154
    go_wp2_with fail
    go_ret
    exact ⟨ret_bool (by first | exact HR.out.symm | (rw [HR.out]; done) | (rw [HR.out, Bool.eq_iff_iff]; simp; done) | (rw [HR.out, Bool.eq_iff_iff]; simp; omega)), rfl⟩

set_option maxRecDepth 100000 in
set_option maxHeartbeats 1000000 in
theorem appendSigned_any (s : ByteArray) (n : Int) (w : World) (hs : s.size ≤ 1000000000) :
    Calls Tryz.prog 123 #[.string s, .int .i64 n] w fun e w' => e = .returned (pairV (appS s n)) ∧ Below w.heap.size w w' := by
  by_cases h : -maxI ≤ n ∧ n ≤ maxI
  · have hd : inR n = true := decide_eq_true h
    have HD := Lib.hid hd
    have HR : Hid (appS s n = (s ++ str (vE (zig n)), 0)) := Lib.hid (by unfold appS; rw [if_neg (by omega)])
    unfold maxI at h
    obtain ⟨h1, h2⟩ := h
    have hz : zig n < 18446744073709551616 := by
      by_cases h0 : 0 ≤ n
      · have := zig_nonneg h0; omega
      · have := zig_neg (show n < 0 by omega); omega
    have HF := Lib.hid (fun w => folded_any n w h1 h2)
    have HA : Hid (∀ w, Calls Tryz.prog 121 #[.slice none 0 0, .int .u64 (zig n)] w fun e w' => ∃ A' m' c' l', e = .returned (.slice A' m' c') ∧ Hid (l' = [] ++ vE (zig n)) ∧ BR w A' m' c' l' w' ∧ Gro w w' none A') := Lib.hid fun w => appendGroups_any w w none 0 0 [] (zig n) hz (BR.nil (Below.refl _ _)) (by decide)
    have hl := str_vE_size (zig n)
    rw [HR.out]
    unfold pairV
    generalize hV : str (vE (zig n)) = V at *
    have HV := Lib.hid hV
    have hk : ¬ 9223372036854775807 < s.size + V.size := by omega
    clear hz hl hV hd h1 h2
    go_enter Tryz.func123, Tryz.ntmps123
    go_wp2_with fail
    refine (inRange_any _ _).mono ?_
    rintro e w' ⟨rfl, rfl⟩
    rw [HD.out]
    go_wp2_with fail
    refine (HF.out _).mono ?_
    rintro e w' ⟨rfl, rfl⟩
    go_wp2_with fail
    refine (HA.out _).mono ?_
    rintro e w1 ⟨A', m', c', l', rfl, HE, hq, _⟩
    have kc := hq.str
    have HE2 : Hid (str l' = V) := Lib.hid (by rw [HE.out, List.nil_append, HV.out])
    rw [HE2.out] at kc
    have HB := Lib.hid hq.below
    clear hq
    go_wp2_with fail
    go_ret2
    exact ⟨rfl, HB.out⟩
  · have hd : inR n = false := decide_eq_false h
    have HD := Lib.hid hd
    have HR : Hid (appS s n = (⟨#[]⟩, 2)) := Lib.hid (by unfold appS; rw [if_pos (by omega)])
    rw [HR.out]
    unfold pairV
    clear hd h
    go_enter Tryz.func123, Tryz.ntmps123
    go_wp2_with fail
    refine (inRange_any _ _).mono ?_
    rintro e w' ⟨rfl, rfl⟩
    rw [HD.out]
    go_wp2_with fail
    go_ret2
    exact ⟨rfl, Below.refl _ _⟩
end Go.Proofs.YtoojpfcnekpboaaGreat

namespace Go.Proofs.YtoojpfcnekpboaaGreat
open Go.RowKit

structure Zn where
  count : Int
  minT : Int
  maxT : Int
  minV : Int
  maxV : Int
  b0 : Int
  b1 : Int
  b2 : Int
  b3 : Int
  b4 : Int
  b5 : Int
  b6 : Int
  b7 : Int
  deriving DecidableEq
def Zn.zero : Zn := ⟨0, 0, 0, 0, 0, 0, 0, 0, 0, 0, 0, 0, 0⟩
def Zn.words (z : Zn) : List Int := [z.b0, z.b1, z.b2, z.b3, z.b4, z.b5, z.b6, z.b7]
def Zn.cellL (z : Zn) : List Value := [.int .i64 z.count, .int .i64 z.minT, .int .i64 z.maxT, .int .i64 z.minV, .int .i64 z.maxV, .int .u32 z.b0, .int .u32 z.b1, .int .u32 z.b2, .int .u32 z.b3, .int .u32 z.b4, .int .u32 z.b5, .int .u32 z.b6, .int .u32 z.b7]
def Zn.cells (z : Zn) : Array Value := #[.int .i64 z.count, .int .i64 z.minT, .int .i64 z.maxT, .int .i64 z.minV, .int .i64 z.maxV, .int .u32 z.b0, .int .u32 z.b1, .int .u32 z.b2, .int .u32 z.b3, .int .u32 z.b4, .int .u32 z.b5, .int .u32 z.b6, .int .u32 z.b7]

def tmB (n : Int) : Bool := decide (1 ≤ n ∧ n ≤ 1099511627776)
def vlB (n : Int) : Bool := decide (-1099511627776 ≤ n ∧ n ≤ 1099511627776)
def zchk (z : Zn) : Int :=
  if z.count < 0 ∨ 1152921504606846976 < z.count then 2
  else if z.count = 0 then (if z = Zn.zero then 0 else 10)
  else if tmB z.minT = false ∨ tmB z.maxT = false then 2
  else if z.maxT < z.minT then 9
  else if vlB z.minV = false ∨ vlB z.maxV = false then 2
  else if z.maxV < z.minV then 9
  else 0

theorem zone_part (w : World) (z : Zn) : (part 48 z.cells 5).run Tryz.prog w = .ok (.agg #[.int .u32 z.b0, .int .u32 z.b1, .int .u32 z.b2, .int .u32 z.b3, .int .u32 z.b4, .int .u32 z.b5, .int .u32 z.b6, .int .u32 z.b7]) w := by
  obtain ⟨i, hi, hs⟩ : ∃ i, Tryz.prog.info? 48 = some i ∧ i.size = 8 := by
    have h : (Tryz.prog.info? 48).map (·.size) = some 8 := by kernel_rfl
    cases hq : Tryz.prog.info? 48 with
    | none => rw [hq] at h; cases h
    | some i => rw [hq] at h; exact ⟨i, rfl, by simpa using h⟩
  have ha : (isAgg 48).run Tryz.prog w = .ok true w := by
    unfold isAgg
    rw [Sem.run_bind, run_underlying Tryz.underlying48]
    rfl
  have hz : (sizeOf 48).run Tryz.prog w = .ok 8 w := by simp [sizeOf, typeInfo, hi, hs]
  unfold part
  simp only [Sem.run_bind, ha, Result.andThen_ok, if_true, hz, Sem.run_pure]
  have he : z.cells.extract 5 (5 + 8) = #[.int .u32 z.b0, .int .u32 z.b1, .int .u32 z.b2, .int .u32 z.b3, .int .u32 z.b4, .int .u32 z.b5, .int .u32 z.b6, .int .u32 z.b7] := by simp [Zn.cells]
  rw [he]
theorem part_word (w : World) (xs : List Int) (i : Nat) (h : i < xs.length) : (part 47 (xs.map (Value.int .u32)).toArray (i * 1)).run Tryz.prog w = .ok (.int .u32 (xs.getD i 0)) w := by
  refine run_part_plain w (by kernel_rfl) ?_
  simp [h, List.getD]
theorem eq_itemsW (w : World) (xs ys : List Int) : ∀ is : List Nat, (∀ i ∈ is, i < xs.length ∧ i < ys.length) → (Op.eqItems 9998 47 1 (xs.map (Value.int .u32)).toArray (ys.map (Value.int .u32)).toArray is).run Tryz.prog w = .ok (is.all fun i => xs.getD i 0 == ys.getD i 0) w
  | [], _ => by simp [Op.eqItems]
  | i :: is, h => by
    have hi := h i (by simp)
    have ih := eq_itemsW w xs ys is (fun x hx => h x (by simp [hx]))
    simp only [Op.eqItems, Sem.run_bind, part_word w _ i hi.1, part_word w _ i hi.2, Result.andThen_ok, run_equalIn_int w 9997 47 _ .u32 _ _ Tryz.underlying47]
    rw [List.all_cons]
    cases xs.getD i 0 == ys.getD i 0
    · simp
    · simpa using ih
theorem eq_words (w : World) (x y : Zn) : (Op.equalIn 9999 48 (.agg #[.int .u32 x.b0, .int .u32 x.b1, .int .u32 x.b2, .int .u32 x.b3, .int .u32 x.b4, .int .u32 x.b5, .int .u32 x.b6, .int .u32 x.b7]) (.agg #[.int .u32 y.b0, .int .u32 y.b1, .int .u32 y.b2, .int .u32 y.b3, .int .u32 y.b4, .int .u32 y.b5, .int .u32 y.b6, .int .u32 y.b7])).run Tryz.prog w = .ok (decide (x.words = y.words)) w := by
  obtain ⟨i, hi⟩ : ∃ i, Tryz.prog.info? 47 = some i := Option.isSome_iff_exists.1 (by kernel_rfl)
  have hc : Tryz.prog.cellsOf 47 = 1 := by kernel_rfl
  rw [show (9999 : Nat) = 9998 + 1 from rfl, run_equalIn_array w 9998 (e := 47) (n := 8) _ _ Tryz.underlying48 hi, hc]
  have h1 := eq_itemsW w x.words y.words (List.range 8) (fun i hi => by rw [List.mem_range] at hi; exact ⟨hi, hi⟩)
  have h2 : ((List.range 8).all fun i => x.words.getD i 0 == y.words.getD i 0) = decide (x.words = y.words) := by
    rw [Bool.eq_iff_iff]
    simp [show List.range 8 = [0, 1, 2, 3, 4, 5, 6, 7] from rfl, Zn.words]
  rw [h2] at h1
  exact h1
theorem zone_fields (w : World) (x y : Zn) : (Op.eqFields 9999 x.cells y.cells (Tryz.prog.fieldsOf 50).toList).run Tryz.prog w = .ok (decide (x = y)) w := by
  have hf : Tryz.prog.fieldsOf 50 = #[{ name := "Count", type := 3, offset := 0, embedded := false, tag := "", pkgPath := "", byteOffset := 0 }, { name := "MinTime", type := 3, offset := 1, embedded := false, tag := "", pkgPath := "", byteOffset := 8 }, { name := "MaxTime", type := 3, offset := 2, embedded := false, tag := "", pkgPath := "", byteOffset := 16 }, { name := "MinValue", type := 3, offset := 3, embedded := false, tag := "", pkgPath := "", byteOffset := 24 }, { name := "MaxValue", type := 3, offset := 4, embedded := false, tag := "", pkgPath := "", byteOffset := 32 }, { name := "Bloom", type := 48, offset := 5, embedded := false, tag := "", pkgPath := "", byteOffset := 40 }] := by
    unfold Program.fieldsOf
    rw [Tryz.underlying50]
  have hk : ∀ (z : Zn) (k : Nat) (v : Value), z.cells[k]? = some v → (part 3 z.cells k).run Tryz.prog w = .ok v w := fun z k v h => run_part_plain w (by kernel_rfl) h
  have hq : ∀ a b : Int, (Op.equalIn 9999 3 (.int .i64 a) (.int .i64 b)).run Tryz.prog w = .ok (a == b) w := fun a b => run_equalIn_int (P := Tryz.prog) w 9998 3 .i64 .i64 a b Tryz.underlying3
  have g0 := fun z => hk z 0 (.int .i64 z.count) rfl
  have g1 := fun z => hk z 1 (.int .i64 z.minT) rfl
  have g2 := fun z => hk z 2 (.int .i64 z.maxT) rfl
  have g3 := fun z => hk z 3 (.int .i64 z.minV) rfl
  have g4 := fun z => hk z 4 (.int .i64 z.maxV) rfl
  rw [hf]
  have hd : decide (x = y) = ((x.count == y.count) && ((x.minT == y.minT) && ((x.maxT == y.maxT) && ((x.minV == y.minV) && ((x.maxV == y.maxV) && decide (x.words = y.words)))))) := by
    rw [Bool.eq_iff_iff]
    cases x
    cases y
    simp [Zn.words]
  rw [hd]
  cases hc0 : x.count == y.count
  · simp [Op.eqFields, g0, hq, hc0]
  cases hc1 : x.minT == y.minT
  · simp [Op.eqFields, g0, g1, hq, hc0, hc1]
  cases hc2 : x.maxT == y.maxT
  · simp [Op.eqFields, g0, g1, g2, hq, hc0, hc1, hc2]
  cases hc3 : x.minV == y.minV
  · simp [Op.eqFields, g0, g1, g2, g3, hq, hc0, hc1, hc2, hc3]
  cases hc4 : x.maxV == y.maxV
  · simp [Op.eqFields, g0, g1, g2, g3, g4, hq, hc0, hc1, hc2, hc3, hc4]
  cases hc5 : decide (x.words = y.words)
  · simp [Op.eqFields, g0, g1, g2, g3, g4, hq, hc0, hc1, hc2, hc3, hc4, zone_part, eq_words, hc5]
  · simp [Op.eqFields, g0, g1, g2, g3, g4, hq, hc0, hc1, hc2, hc3, hc4, zone_part, eq_words, hc5]
theorem zone_equal (w : World) (x y : Zn) : (Op.equalIn 10000 50 (.agg x.cells) (.agg y.cells)).run Tryz.prog w = .ok (decide (x = y)) w := by
  have hu : Tryz.prog.underlying 50 = some (.struct (Tryz.prog.fieldsOf 50)) := by
    unfold Program.fieldsOf
    rw [Tryz.underlying50]
  have hp : Tryz.prog.stoodInHeld 50 = false := by kernel_rfl
  rw [show (10000 : Nat) = 9999 + 1 from rfl, run_equalIn_struct w 9999 50 _ _ hu hp]
  exact zone_fields w x y
theorem zone_eql (w : World) (x y : Zn) : (binOp .eql 50 (.agg x.cells) (.agg y.cells)).run Tryz.prog w = .ok (.bool (decide (x = y))) w := by
  rw [run_eql_struct, zone_equal]
  rfl
theorem zone_neq (w : World) (x y : Zn) : (binOp .neq 50 (.agg x.cells) (.agg y.cells)).run Tryz.prog w = .ok (.bool (!decide (x = y))) w := by
  rw [run_neq_struct, zone_equal]
  rfl
theorem wpList_zneq {ops : Array Oper} {rest : List Oper} {o : Oper} {a : Act} {w : World} {Q : Exit → Act → World → Prop} (hg : o.guard = none) (x y : Operand) (t : TypeId) (ho : o.op = .binOp .neq 50 x y t) (u v : Zn)
    (hx : a.eval x = .agg u.cells) (hy : a.eval y = .agg v.cells) (b : Bool) (hb : (!decide (u = v)) = b)
    (h : wpList Tryz.prog ops Q rest (a.put o.dst (.bool b)) w) : wpList Tryz.prog ops Q (o :: rest) a w :=
  wpList_plain hg fun K hK => by
    have hm : Tryz.prog.eqGuardType Tryz.prog.depth 50 = false := by kernel_rfl
    unfold Oper.wp execOp
    simp only [ho, hx, hy, Sem.run_bind, run_eqGuard_agg w .neq 50 x y _ _ hm, Result.andThen_ok, zone_neq, hb, Sem.run_pure]
    exact hK _ _ h
end Go.Proofs.YtoojpfcnekpboaaGreat
