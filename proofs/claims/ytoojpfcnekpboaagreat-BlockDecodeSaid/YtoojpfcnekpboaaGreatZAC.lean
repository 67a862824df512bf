/- Walks: the check of labels (the reference's), what is larger than the statements examine. Walks: comparisons of strings and of labels (the reference's, and cmp's). Numbers in groups of 7 bits: plain Lean. append on a slice of the call's own, with what becomes of its block: it stays, or it is new. -/
import Derived.Test.YtoojpfcnekpboaaGreatZAB
import Derived.Laws.Cover1
namespace Go.Proofs.YtoojpfcnekpboaaGreat
open Go.RowKit

theorem Drw.same {w w' : World} (h : w' = w) : Drw w w' := by subst h; exact Drw.refl _

/-- What is still to be checked from the label k on. -/
def chkAt (ls : List Lab) : Nat → Int
  | 0 => chkFrom none ls
  | k + 1 => chkFrom ((ls[k]?).map (·.name)) (ls.drop (k + 1))
theorem chkAt_end {ls : List Lab} {k : Nat} (h : ls.length ≤ k) : chkAt ls k = 0 := by
  cases k with
  | zero =>
    have : ls = [] := List.eq_nil_of_length_eq_zero (by omega)
    subst this
    rfl
  | succ k =>
    show chkFrom _ (ls.drop (k + 1)) = 0
    rw [List.drop_eq_nil_of_le h]
    rfl
/-- The name ahead of the label k stands in the way. -/
def badAt (ls : List Lab) : Nat → Bool
  | 0 => false
  | k + 1 => ((ls[k]?).map (·.name)).any fun p => ((ls[k + 1]?).map (·.name)).any fun x => leS x p
theorem chkAt_step {ls : List Lab} {k : Nat} (h : k < ls.length) : chkAt ls k = if nameB (ls[k]).name then (if (ls[k]).value.size = 0 then 1 else if 200 < (ls[k]).value.size then 4 else if badAt ls k then 9 else chkAt ls (k + 1)) else 5 := by
  cases k with
  | zero =>
    match ls, h with
    | x :: r, _ => rfl
  | succ k =>
    have e1 : ls[k + 1]? = some ls[k + 1] := List.getElem?_eq_getElem h
    have e2 : badAt ls (k + 1) = ((ls[k]?).map (·.name)).any fun p => leS (ls[k + 1]).name p := by
      show (((ls[k]?).map (·.name)).any fun p => ((ls[k + 1]?).map (·.name)).any fun x => leS x p) = _
      rw [e1]
      rfl
    have e3 : chkAt ls (k + 1 + 1) = chkFrom (some (ls[k + 1]).name) (ls.drop (k + 1 + 1)) := by
      show chkFrom ((ls[k + 1]?).map (·.name)) _ = _
      rw [e1]
      rfl
    rw [e2, e3]
    show chkFrom _ (ls.drop (k + 1)) = _
    rw [drop_cons h]
    rfl
theorem badAt_zero (ls : List Lab) : badAt ls 0 = false := rfl
theorem badAt_succ {ls : List Lab} {k : Nat} (h : k + 1 < ls.length) : badAt ls (k + 1) = leS (ls[k + 1]).name (ls[k]'(by omega)).name := by
  show (((ls[k]?).map (·.name)).any fun p => ((ls[k + 1]?).map (·.name)).any fun x => leS x p) = _
  rw [List.getElem?_eq_getElem h, List.getElem?_eq_getElem (show k < ls.length by omega)]
  rfl

set_option maxRecDepth 100000 in
set_option maxHeartbeats 2000000 in
theorem check05_any (A : Option Addr) (c : Nat) (ls : List Lab) (B : Nat) (w : World) (hr : LabsIn B w A ls) (hc : ls.length ≤ c) (hsz : ∀ x ∈ ls, x.name.size ≤ 140737488351232) :
    Calls Tryz.prog 31 #[.slice A ls.length c] w fun e w' => e = .returned (.int .i64 (chkL ls)) ∧ Drw w w' := by
  have HC := Lib.hid hc
  clear hc
  by_cases h16 : 16 < ls.length
  · have HR : Hid (chkL ls = 4) := Lib.hid (by unfold chkL; rw [if_pos h16])
    go_enter Tryz.func31, Tryz.ntmps31
    go_wp2_with fail
    go_ret
    exact ⟨ret_int HR.out.symm, Drw.refl _⟩
  · have HR : Hid (chkL ls = chkAt ls 0) := Lib.hid (by unfold chkL; rw [if_neg h16]; rfl)
    have h16 : ls.length ≤ 16 := by omega
    have HRD := Lib.hid hr
    have HSZ := Lib.hid hsz
    clear hr hsz
    go_enter Tryz.func31, Tryz.ntmps31
    go_wp2_with fail
    go_loopw [3] (fun i wr => ∃ k : Nat, k ≤ ls.length ∧ i = .int .i64 k ∧ Hid (chkL ls = chkAt ls k) ∧ Drw w wr) (fun i _ => ls.length - (intOf i).toNat)
    case atStart => exact ⟨0, Nat.zero_le _, rfl, HR, Drw.refl _⟩
    case round =>
      obtain ⟨k, hk, rfl, HK, hD⟩ := hrel
      clear HR
      by_cases hlt : k < ls.length
      · have HST := Lib.hid (chkAt_step hlt)
        obtain ⟨n, rfl⟩ := hD
        obtain ⟨b, o, rfl, hb, c0, c1⟩ := HRD.out.at_ k hlt
        have hn : (ls[k]).name.size ≤ 140737488351232 := HSZ.out _ (List.getElem_mem hlt)
        by_cases hnm : nameB (ls[k]).name
        · have HNM := Lib.hid hnm
          clear hnm
          by_cases hv0 : (ls[k]).value.size = 0
          · have d0 := str_eq hv0
            have HR : Hid (chkL ls = 1) := Lib.hid (by rw [HK.out, HST.out, if_pos HNM.out, if_pos hv0])
            clear hv0
            go_wp2_with fail
            refine (name05_any _ _ hn).mono ?_
            rintro e w' ⟨rfl, rfl⟩
            rw [HNM.out]
            go_wp2_with fail
            go_ret
            exact ⟨ret_int HR.out.symm, (by repeat (first | exact Drw.refl _ | apply Drw.step))⟩
          · have d0 := str_ne hv0
            by_cases hv2 : 200 < (ls[k]).value.size
            · have HR : Hid (chkL ls = 4) := Lib.hid (by rw [HK.out, HST.out, if_pos HNM.out, if_neg hv0, if_pos hv2])
              clear hv0
              go_wp2_with fail
              refine (name05_any _ _ hn).mono ?_
              rintro e w' ⟨rfl, rfl⟩
              rw [HNM.out]
              go_wp2_with fail
              go_ret
              exact ⟨ret_int HR.out.symm, (by repeat (first | exact Drw.refl _ | apply Drw.step))⟩
            · rcases k with _ | k
              · simp only [Nat.zero_mul, Nat.add_zero] at c0 c1
                have HR : Hid (chkL ls = chkAt ls 1) := Lib.hid (by rw [HK.out, HST.out, if_pos HNM.out, if_neg hv0, if_neg hv2, badAt_zero]; rfl)
                clear hv0
                go_wp2_with fail
                refine (name05_any _ _ hn).mono ?_
                rintro e w' ⟨rfl, rfl⟩
                rw [HNM.out]
                go_wp2_with fail
                go_quiet (fail)
                go_wp2_with fail
                go_roundw
                case rel => exact ⟨1, by omega, by go_num, HR, (by repeat (first | exact Drw.refl _ | apply Drw.step))⟩
                case measure => simp [intOf]; omega
              · have hlt' : k < ls.length := by omega
                obtain ⟨b', o', e1, _, p0, _⟩ := HRD.out.at_ k hlt'
                cases e1
                have g1 : (0 : Int) ≤ ((k + 1 : Nat) : Int) - 1 := by omega
                have g2 : ((k + 1 : Nat) : Int) - 1 = (k : Int) := by omega
                have HBA := Lib.hid (badAt_succ hlt)
                rcases hba : leS (ls[k + 1]).name (ls[k]).name
                · have HR : Hid (chkL ls = chkAt ls (k + 1 + 1)) := Lib.hid (by rw [HK.out, HST.out, if_pos HNM.out, if_neg hv0, if_neg hv2, HBA.out, hba]; rfl)
                  have hba2 : (Op.bytesLess (ls[k + 1]).name.toList (ls[k]).name.toList || (ls[k + 1]).name.toList == (ls[k]).name.toList) = false := hba
                  clear hv0
                  go_wp2_with fail
                  refine (name05_any _ _ hn).mono ?_
                  rintro e w' ⟨rfl, rfl⟩
                  rw [HNM.out]
                  go_wp2_with fail
                  go_quiet (fail)
                  go_wp2_with fail
                  go_roundw
                  case rel => exact ⟨k + 1 + 1, by omega, by go_num, HR, (by repeat (first | exact Drw.refl _ | apply Drw.step))⟩
                  case measure => simp [intOf]; omega
                · have HR : Hid (chkL ls = 9) := Lib.hid (by rw [HK.out, HST.out, if_pos HNM.out, if_neg hv0, if_neg hv2, HBA.out, hba]; rfl)
                  have hba2 : (Op.bytesLess (ls[k + 1]).name.toList (ls[k]).name.toList || (ls[k + 1]).name.toList == (ls[k]).name.toList) = true := hba
                  clear hv0
                  go_wp2_with fail
                  refine (name05_any _ _ hn).mono ?_
                  rintro e w' ⟨rfl, rfl⟩
                  rw [HNM.out]
                  go_wp2_with fail
                  go_quiet (fail)
                  go_wp2_with fail
                  go_ret
                  exact ⟨ret_int HR.out.symm, (by repeat (first | exact Drw.refl _ | apply Drw.step))⟩
        · have HNM : Hid (nameB (ls[k]).name = false) := Lib.hid (by simpa using hnm)
          have HR : Hid (chkL ls = 5) := Lib.hid (by rw [HK.out, HST.out, if_neg hnm])
          clear hnm
          go_wp2_with fail
          refine (name05_any _ _ hn).mono ?_
          rintro e w' ⟨rfl, rfl⟩
          rw [HNM.out]
          go_wp2_with fail
          go_ret
          exact ⟨ret_int HR.out.symm, (by repeat (first | exact Drw.refl _ | apply Drw.step))⟩
      · have HR : Hid (chkL ls = 0) := Lib.hid (by rw [HK.out, chkAt_end (Nat.le_of_not_lt hlt)])
        obtain ⟨n, rfl⟩ := hD
        go_wp2_with fail
        go_ret
        exact ⟨ret_int HR.out.symm, (by repeat (first | exact Drw.refl _ | apply Drw.step))⟩
end Go.Proofs.YtoojpfcnekpboaaGreat

namespace Go.Proofs.YtoojpfcnekpboaaGreat
open Go.RowKit

theorem cmpS_lt {a b : ByteArray} (h : Op.bytesLess a.toList b.toList = true) : cmpS a b = -1 := by unfold cmpS ltS; rw [if_pos h]
theorem cmpS_eq0 {a b : ByteArray} (h : Op.bytesLess a.toList b.toList = false) (h2 : (a.toList == b.toList) = true) : cmpS a b = 0 := by
  unfold cmpS ltS leS
  rw [h, h2]
  rfl
theorem cmpS_gt {a b : ByteArray} (h : Op.bytesLess a.toList b.toList = false) (h2 : (a.toList == b.toList) = false) : cmpS a b = 1 := by
  unfold cmpS ltS leS
  rw [h, h2]
  rfl
set_option maxHeartbeats 400000 in
theorem text05_any (a b : ByteArray) (w : World) : Calls Tryz.prog 103 #[.string a, .string b] w fun e w' => e = .returned (.int .i64 (cmpS a b)) ∧ w' = w := by
  rcases h : Op.bytesLess a.toList b.toList
  · rcases h2 : (a.toList == b.toList)
    · have HR := Lib.hid (cmpS_gt h h2)
      go_enter Tryz.func103, Tryz.ntmps103
      go_wp2_with fail
      go_ret
      exact ⟨ret_int HR.out.symm, rfl⟩
    · have HR := Lib.hid (cmpS_eq0 h h2)
      go_enter Tryz.func103, Tryz.ntmps103
      go_wp2_with fail
      go_ret
      exact ⟨ret_int HR.out.symm, rfl⟩
  · have HR := Lib.hid (cmpS_lt h)
    go_enter Tryz.func103, Tryz.ntmps103
    go_wp2_with fail
    go_ret
    exact ⟨ret_int HR.out.symm, rfl⟩
set_option maxHeartbeats 400000 in
theorem nanS_any (a : ByteArray) (w : World) : Calls Tryz.prog 174 #[.string a] w fun e w' => e = .returned (.bool false) ∧ w' = w := by
  go_enter Tryz.func174, Tryz.ntmps174
  go_wp2_with fail
  go_ret
  exact ⟨ret_bool (by simp), rfl⟩
set_option maxHeartbeats 400000 in
theorem nanI_any (a : Int) (w : World) : Calls Tryz.prog 150 #[.int .i64 a] w fun e w' => e = .returned (.bool false) ∧ w' = w := by
  go_enter Tryz.func150, Tryz.ntmps150
  go_wp2_with fail
  go_ret
  exact ⟨ret_bool (by simp), rfl⟩
set_option maxHeartbeats 400000 in
theorem cmpStr_any (a b : ByteArray) (w : World) : Calls Tryz.prog 153 #[.string a, .string b] w fun e w' => e = .returned (.int .i64 (cmpS a b)) ∧ w' = w := by
  rcases h : Op.bytesLess a.toList b.toList
  · rcases h2 : (a.toList == b.toList)
    · have HR := Lib.hid (cmpS_gt h h2)
      go_enter Tryz.func153, Tryz.ntmps153
      go_wp2_with (go_at_call 174; refine (nanS_any _ _).mono ?_; rintro e w' ⟨rfl, rfl⟩)
      go_ret
      exact ⟨ret_int HR.out.symm, rfl⟩
    · have HR := Lib.hid (cmpS_eq0 h h2)
      go_enter Tryz.func153, Tryz.ntmps153
      go_wp2_with (go_at_call 174; refine (nanS_any _ _).mono ?_; rintro e w' ⟨rfl, rfl⟩)
      go_ret
      exact ⟨ret_int HR.out.symm, rfl⟩
  · have HR := Lib.hid (cmpS_lt h)
    go_enter Tryz.func153, Tryz.ntmps153
    go_wp2_with (go_at_call 174; refine (nanS_any _ _).mono ?_; rintro e w' ⟨rfl, rfl⟩)
    go_ret
    exact ⟨ret_int HR.out.symm, rfl⟩
def cmpI (a b : Int) : Int := if a < b then -1 else if b < a then 1 else 0
set_option maxHeartbeats 400000 in
theorem cmpInt_any (a b : Int) (w : World) : Calls Tryz.prog 119 #[.int .i64 a, .int .i64 b] w fun e w' => e = .returned (.int .i64 (cmpI a b)) ∧ w' = w := by
  rcases Int.lt_trichotomy a b with h | h | h
  · have HR : Hid (cmpI a b = -1) := Lib.hid (by unfold cmpI; rw [if_pos h])
    go_enter Tryz.func119, Tryz.ntmps119
    go_wp2_with (go_at_call 150; refine (nanI_any _ _).mono ?_; rintro e w' ⟨rfl, rfl⟩)
    go_ret
    exact ⟨ret_int HR.out.symm, rfl⟩
  · subst h
    have HR : Hid (cmpI a a = 0) := Lib.hid (by unfold cmpI; rw [if_neg (by omega), if_neg (by omega)])
    go_enter Tryz.func119, Tryz.ntmps119
    go_wp2_with (go_at_call 150; refine (nanI_any _ _).mono ?_; rintro e w' ⟨rfl, rfl⟩)
    go_ret
    exact ⟨ret_int HR.out.symm, rfl⟩
  · have HR : Hid (cmpI a b = 1) := Lib.hid (by unfold cmpI; rw [if_neg (by omega), if_pos h])
    go_enter Tryz.func119, Tryz.ntmps119
    go_wp2_with (go_at_call 150; refine (nanI_any _ _).mono ?_; rintro e w' ⟨rfl, rfl⟩)
    go_ret
    exact ⟨ret_int HR.out.symm, rfl⟩

/-! ### cmp.Or of two numbers -/
def orI (a b : Int) : Int := if a = 0 then b else a
set_option maxHeartbeats 400000 in
theorem or2_any (b : Nat) (x y : Int) (w : World) (h : At w b #[.int .i64 x, .int .i64 y] 3) : Calls Tryz.prog 118 #[.slice (some ⟨b, 0, none⟩) 2 2] w fun e w' => e = .returned (.int .i64 (orI x y)) ∧ w' = w := by
  have c0 : w.cell? ⟨b, 0, none⟩ = some (.int .i64 x) := h.cell 0
  have c1 : w.cell? ⟨b, 1, none⟩ = some (.int .i64 y) := h.cell 1
  clear h
  by_cases hx : x = 0
  · have dx : (x != 0) = false := by simp [hx]
    by_cases hy : y = 0
    · have dy : (y != 0) = false := by simp [hy]
      have HR : Hid (orI x y = 0) := Lib.hid (by unfold orI; rw [if_pos hx, hy])
      clear hx hy
      go_enter Tryz.func118, Tryz.ntmps118
      go_wp2_with fail
      refine wp_loop_rounds 3 ?_
      rw [rounds_succ]
      go_wp2_with fail
      rw [rounds_succ]
      go_wp2_with fail
      rw [rounds_succ]
      go_wp2_with fail
      go_ret
      exact ⟨ret_int HR.out.symm, rfl⟩
    · have dy : (y != 0) = true := by simp [hy]
      have HR : Hid (orI x y = y) := Lib.hid (by unfold orI; rw [if_pos hx])
      clear hx hy
      go_enter Tryz.func118, Tryz.ntmps118
      go_wp2_with fail
      refine wp_loop_rounds 2 ?_
      rw [rounds_succ]
      go_wp2_with fail
      rw [rounds_succ]
      go_wp2_with fail
      go_ret
      exact ⟨ret_int HR.out.symm, rfl⟩
  · have dx : (x != 0) = true := by simp [hx]
    have HR : Hid (orI x y = x) := Lib.hid (by unfold orI; rw [if_neg hx])
    clear hx
    go_enter Tryz.func118, Tryz.ntmps118
    go_wp2_with fail
    refine wp_loop_rounds 1 ?_
    rw [rounds_succ]
    go_wp2_with fail
    go_ret
    exact ⟨ret_int HR.out.symm, rfl⟩
end Go.Proofs.YtoojpfcnekpboaaGreat

namespace Go.Proofs.YtoojpfcnekpboaaGreat

/-- The groups of a number (k at most). -/
def vEf : Nat → Nat → List UInt8
  | 0, _ => []
  | k + 1, n => if n < 128 then [UInt8.ofNat n] else UInt8.ofNat (n % 128 + 128) :: vEf k (n / 128)
def vE (n : Nat) : List UInt8 := vEf 10 n
theorem vEf_len : ∀ (k n : Nat), (vEf k n).length ≤ k
  | 0, _ => Nat.le_refl _
  | k + 1, n => by
    unfold vEf
    split
    · simp
    · have := vEf_len k (n / 128)
      rw [List.length_cons]
      omega
theorem vE_len (n : Nat) : (vE n).length ≤ 10 := vEf_len 10 n
theorem vEf_small {k n : Nat} (h : n < 128) : vEf (k + 1) n = [UInt8.ofNat n] := by
  show (if n < 128 then _ else _) = _
  rw [if_pos h]
theorem vEf_more {k n : Nat} (h : 128 ≤ n) : vEf (k + 1) n = UInt8.ofNat (n % 128 + 128) :: vEf k (n / 128) := by
  show (if n < 128 then _ else _) = _
  rw [if_neg (by omega)]
theorem toNat_byte {n : Nat} (h : n < 256) : (UInt8.ofNat n).toNat = n := by rw [UInt8.toNat_ofNat']; omega
/-- More fuel makes no difference. -/
theorem vEf_fuel : ∀ (k j n : Nat), n < 128 ^ k → k ≤ j → 0 < k → vEf j n = vEf k n
  | 0, _, _, _, _, h => absurd h (by omega)
  | k + 1, j, n, hn, hj, _ => by
    obtain ⟨j, rfl⟩ : ∃ i, j = i + 1 := ⟨j - 1, by omega⟩
    by_cases h : n < 128
    · rw [vEf_small h, vEf_small h]
    · rw [vEf_more (by omega), vEf_more (by omega)]
      have hk : 0 < k := by
        rcases Nat.eq_zero_or_pos k with rfl | hk
        · simp at hn; omega
        · exact hk
      rw [vEf_fuel k j (n / 128) (by rw [Nat.pow_succ] at hn; exact Nat.div_lt_of_lt_mul (by omega)) (by omega) hk]
/-- The number that stands for a signed one. -/
def zig (n : Int) : Nat := if 0 ≤ n then 2 * n.toNat else 2 * (-n).toNat - 1
end Go.Proofs.YtoojpfcnekpboaaGreat

namespace Go.Proofs.YtoojpfcnekpboaaGreat
open Go.RowKit

section
variable {P : Program} (w : World)
theorem run_append_where (t ty e : TypeId) (i : TypeInfo) (z : Value) (size bytes : Nat) (ht : P.underlying t = some (.slice e)) (hi : P.info? e = some i) (hz : i.zero = some z)
    (hsize : i.size = size) (hby : i.bytes = bytes) (hzs : z.cells.size = size) (hsz : 0 < size)
    (v : Value) (n : Nat) (xs : List Value) (hown : w.ownsRow 0 e size v n xs)
    (a : Addr) (m c : Nat) (news : List Value) (hm : 0 < m) (hl : news.length = m * size) (hnews : ∀ j u, news[j]? = some u → w.cell? (a.add j) = some u) (h1 : ∀ u ∈ news, u.oneCell' = true)
    (h63 : n + m ≤ maxLen) (hbytes : (n + m) * bytes ≤ 140737488355328) :
    ∃ v' w', (Builtin.append_ #[t, t] ty #[v, .slice (some a) m c]).run P w = .ok v' w' ∧ w'.ownsRow 0 e size v' (n + m) (xs ++ news) ∧ w.grownBy w' v.ownBlock ∧
      (v'.ownBlock = v.ownBlock ∨ v'.ownBlock = some w.heap.size) := by
  obtain ⟨v', w', hr, h2, h3, _⟩ := run_append_own (P := P) w 0 t ty e i z size bytes ht hi hz hsize hby hzs hsz v n xs hown a m c news hl hnews h1 h63 hbytes (Nat.zero_le _)
  refine ⟨v', w', hr, h2, h3, ?_⟩
  have hlim : n + m ≤ 9223372036854775807 := by simp only [maxLen] at h63; omega
  rcases hown.2 with ⟨rfl, rfl⟩ | ⟨g, cap, cur, rfl, _, hg, hnc, hcm, hcs, htake⟩
  · have hr2 := run_append_nil (P := P) w t ty e i z ht hi hz a m c news (by rw [hsize]; exact hl) hnews hm (by omega) (by rw [hby]; simp only [Nat.zero_add] at hbytes; omega)
    rw [hr2] at hr
    injection hr with e1 _
    subst e1
    exact .inr rfl
  · by_cases hroom : n + m ≤ cap
    · have hr2 := run_append_room (P := P) w t ty e i ht hi g n cap cur hg a m c news (by rw [hsize]; exact hl) hnews h1 hroom (by rw [hsize, hl, hcs, ← Nat.add_mul]; exact Nat.mul_le_mul_right _ hroom)
      rw [hr2] at hr
      injection hr with e1 _
      subst e1
      exact .inl rfl
    · have hr2 := run_append_grow (P := P) w t ty e i z ht hi hz ⟨g, 0, none⟩ n cap xs (by rw [hsize]; exact hown.1) (hown.cells (g := g) rfl) a m c news (by rw [hsize]; exact hl) hnews (by omega) (by omega) (by rw [hby]; exact growslice_fits (by omega) hbytes)
      rw [hr2] at hr
      injection hr with e1 _
      subst e1
      exact .inr rfl

theorem wpList_append_where {ops : Array Oper} {rest : List Oper} {o : Oper} {a : Act} {Q : Exit → Act → World → Prop} (hgd : o.guard = none) (s x : Operand) (t : TypeId)
    (ho : o.op = .call { callee := .builtin .append, args := #[s, x], argTypes := #[t, t] })
    (e : TypeId) (i : TypeInfo) (z : Value) (size bytes : Nat) (ht : P.underlying t = some (.slice e)) (hi : P.info? e = some i) (hz : i.zero = some z)
    (hsize : i.size = size) (hby : i.bytes = bytes) (hzs : z.cells.size = size) (hsz : 0 < size)
    (v : Value) (n : Nat) (xs : List Value) (hs : a.eval s = v) (hown : w.ownsRow 0 e size v n xs)
    (ad : Addr) (m c : Nat) (news : List Value) (hx : a.eval x = .slice (some ad) m c) (hm : 0 < m) (hl : news.length = m * size) (hnews : ∀ j u, news[j]? = some u → w.cell? (ad.add j) = some u) (h1 : ∀ u ∈ news, u.oneCell' = true)
    (h63 : n + m ≤ maxLen) (hbytes : (n + m) * bytes ≤ 140737488355328)
    (h : ∀ v' w', w'.ownsRow 0 e size v' (n + m) (xs ++ news) → w.grownBy w' v.ownBlock → (v'.ownBlock = v.ownBlock ∨ v'.ownBlock = some w.heap.size) → wpList P ops Q rest (a.put o.dst v') w') : wpList P ops Q (o :: rest) a w := by
  refine wpList_plain hgd fun K hK => ?_
  obtain ⟨v', w', hr, h2, h3, h4⟩ := run_append_where (P := P) w t o.type e i z size bytes ht hi hz hsize hby hzs hsz v n xs hown ad m c news hm hl hnews h1 h63 hbytes
  unfold Oper.wp execOp
  simp only [ho, resolve, invoke, builtin, Sem.run_bind, Sem.run_pure, Result.andThen_ok, List.map_toArray, List.map_cons, List.map_nil, hs, hx, hr]
  exact hK _ _ (h v' w' h2 h3 h4)
end
end Go.Proofs.YtoojpfcnekpboaaGreat
