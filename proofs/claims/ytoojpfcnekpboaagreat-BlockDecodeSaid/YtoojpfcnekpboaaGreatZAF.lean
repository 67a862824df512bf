/- Blocks and chunks: plain Lean, their cells. Walks: the check of a zone (the program's and the reference's). Walks: the check of labels (the program's). -/
import Derived.Test.YtoojpfcnekpboaaGreatZAB
import Derived.Test.YtoojpfcnekpboaaGreatZAC
import Derived.Test.YtoojpfcnekpboaaGreatZAE
import Derived.Deep.MidRow
namespace Go.Proofs.YtoojpfcnekpboaaGreat
open Go.RowKit

structure Chk where
  sig : Int
  labs : List Lab
  zone : Zn
  data : ByteArray
structure Blk where
  id : Int
  width : Int
  fr : Int
  chunks : List Chk
def bareB (n : Int) : Bool := decide (n = 3 ∨ n = 5)
def cchk (x : Chk) (width : Int) : Int :=
  if x.sig < 1 ∨ 6 < x.sig then 8
  else if decide (x.sig = 6) = decide (width = 0) then 8
  else if chkL x.labs ≠ 0 then chkL x.labs
  else if bareB x.sig = true ∧ 0 < x.labs.length then 1
  else if zchk x.zone ≠ 0 then zchk x.zone
  else if 262144 < x.data.size then 4 else 0
def ccmp (a b : Chk) : Int := orI (cmpI a.sig b.sig) (cmpL a.labs b.labs)
def bchkFrom (width : Int) : Option Chk → List Chk → Int
  | _, [] => 0
  | p, x :: r => if cchk x width = 0 then (if p.any (fun q => decide (0 ≤ ccmp q x)) then 9 else bchkFrom width (some x) r) else cchk x width
def bchk (b : Blk) : Int :=
  if b.id < 1 ∨ 1152921504606846976 < b.id then 2
  else if b.width < 0 ∨ 1099511627776 < b.width then 2
  else if b.fr < 0 ∨ 1099511627776 < b.fr ∨ (b.width = 0 ∧ b.fr ≠ 0) then 2
  else if 4000 < b.chunks.length then 4
  else bchkFrom b.width none b.chunks

/-! ### Cells -/
def chC (s : Int) (A : Option Addr) (n c : Nat) (z : Zn) (d : ByteArray) : Array Value := #[.int .i64 s, .slice A n c, .int .i64 z.count, .int .i64 z.minT, .int .i64 z.maxT, .int .i64 z.minV, .int .i64 z.maxV, .int .u32 z.b0, .int .u32 z.b1, .int .u32 z.b2, .int .u32 z.b3, .int .u32 z.b4, .int .u32 z.b5, .int .u32 z.b6, .int .u32 z.b7, .string d]
theorem chC_size (s : Int) (A : Option Addr) (n c : Nat) (z : Zn) (d : ByteArray) : (chC s A n c z d).size = 16 := rfl
theorem size_chunk : (Tryz.prog.info? 58).map (·.size) = some 16 := by kernel_rfl
theorem size_zone : (Tryz.prog.info? 50).map (·.size) = some 13 := by kernel_rfl
/-- Cells that are this chunk's. -/
def ChkV (B : Nat) (w : World) (cs : Array Value) (x : Chk) : Prop := ∃ (A : Option Addr) (c : Nat), cs = chC x.sig A x.labs.length c x.zone x.data ∧ LabsIn B w A x.labs ∧ x.labs.length ≤ c
theorem ChkV.same {B : Nat} {w w' : World} {cs : Array Value} {x : Chk} (h : ChkV B w cs x) (hc : ∀ b, b < B → w'.heap[b]? = w.heap[b]?) : ChkV B w' cs x := by
  obtain ⟨A, c, h1, h2, h3⟩ := h
  exact ⟨A, c, h1, h2.same hc, h3⟩
theorem ChkV.below {B : Nat} {w w' : World} {cs : Array Value} {x : Chk} (h : ChkV B w cs x) (hb : Below B w w') : ChkV B w' cs x := h.same fun b hlt => hb.block b hlt
theorem ChkV.mono {B B' : Nat} {w : World} {cs : Array Value} {x : Chk} (h : ChkV B w cs x) (hB : B ≤ B') : ChkV B' w cs x := by
  obtain ⟨A, c, h1, h2, h3⟩ := h
  exact ⟨A, c, h1, h2.mono hB, h3⟩
/-- A slice of chunks that is read. -/
def ChksIn (B : Nat) (w : World) (A : Option Addr) (xs : List Chk) : Prop := ∃ vs : List (Array Value), vs.length = xs.length ∧ RdIn B w 16 A vs ∧ ∀ k (h : k < vs.length) (h' : k < xs.length), ChkV B w vs[k] xs[k]
section
variable {B B' : Nat} {w w' : World} {A : Option Addr} {xs : List Chk}
theorem ChksIn.same (h : ChksIn B w A xs) (hc : ∀ b, b < B → w'.heap[b]? = w.heap[b]?) : ChksIn B w' A xs := by
  obtain ⟨vs, h1, h2, h3⟩ := h
  exact ⟨vs, h1, h2.same hc, fun k a b => (h3 k a b).same hc⟩
theorem ChksIn.below (h : ChksIn B w A xs) (hb : Below B w w') : ChksIn B w' A xs := h.same fun b hlt => hb.block b hlt
theorem ChksIn.drewN (h : ChksIn B w A xs) (n : Nat) : ChksIn B (w.drewN n) A xs := h.same fun _ _ => rfl
theorem ChksIn.alloc (h : ChksIn B w A xs) (hB : B ≤ w.heap.size) (o : Obj) : ChksIn B (w.alloc o) A xs := h.same fun b hlt => Below.heap_alloc w o b (by omega)
theorem ChksIn.mono (h : ChksIn B w A xs) (hB : B ≤ B') : ChksIn B' w A xs := by
  obtain ⟨vs, h1, h2, h3⟩ := h
  exact ⟨vs, h1, h2.mono hB, fun k a b => (h3 k a b).mono hB⟩
theorem ChksIn.at_ (h : ChksIn B w A xs) (k : Nat) (hk : k < xs.length) : ∃ b o A' c', A = some ⟨b, o, none⟩ ∧ b < B ∧ w.rangeAt b (o + k * 16) (chC (xs[k]).sig A' (xs[k]).labs.length c' (xs[k]).zone (xs[k]).data).toList ∧ LabsIn B w A' (xs[k]).labs ∧ (xs[k]).labs.length ≤ c' := by
  obtain ⟨vs, h1, h2, h3⟩ := h
  obtain ⟨b, o, e, hb, hc⟩ := h2 k (by omega)
  obtain ⟨A', c', e2, h4, h5⟩ := h3 k (by omega) hk
  refine ⟨b, o, A', c', e, hb, fun j v hj => ?_, h4, h5⟩
  have hj' : j < 16 := by
    have := (List.getElem?_eq_some_iff.1 hj).1
    rw [Array.length_toList, chC_size] at this
    exact this
  rw [hc j hj', e2]
  simpa using hj
theorem ChksIn.nil (B : Nat) (w : World) (A : Option Addr) : ChksIn B w A [] := ⟨[], rfl, RdIn.nil _ _ _ _, fun k h => absurd h (by simp)⟩
end
/-- The zone that lies in a chunk's cells. -/
theorem zone_range {w : World} {b o : Nat} {s : Int} {A : Option Addr} {n c : Nat} {z : Zn} {d : ByteArray} (h : w.rangeAt b o (chC s A n c z d).toList) : w.rangeAt b (o + 2) z.cells.toList := fun j v hj => by
  have hj' : j < 13 := by
    have := (List.getElem?_eq_some_iff.1 hj).1
    simpa [Zn.cells] using this
  have : (chC s A n c z d).toList[2 + j]? = some v := by
    rw [← hj]
    rcases j with _ | _ | _ | _ | _ | _ | _ | _ | _ | _ | _ | _ | _ | j
    all_goals first | rfl | omega
  have h2 := h (2 + j) v this
  rw [← Nat.add_assoc] at h2
  exact h2
theorem range_at {w : World} {b : Nat} {cs : Array Value} {t : TypeId} (h : At w b cs t) : w.rangeAt b 0 cs.toList := fun j v hj => by
  rw [Nat.zero_add, h.cell]
  simpa using hj
end Go.Proofs.YtoojpfcnekpboaaGreat

namespace Go.Proofs.YtoojpfcnekpboaaGreat
open Go.RowKit

set_option maxHeartbeats 400000 in
theorem isTime_any (n : Int) (w : World) : Calls Tryz.prog 106 #[.int .i64 n] w fun e w' => e = .returned (.bool (tmB n)) ∧ w' = w := by
  have HR : Hid (tmB n = decide (1 ≤ n ∧ n ≤ 1099511627776)) := Lib.hid rfl
  by_cases h1 : 1 ≤ n
  · by_cases h2 : n ≤ 1099511627776
    · go_enter Tryz.func106, Tryz.ntmps106
      go_wp2_with fail
      go_ret
      exact ⟨ret_bool (by first | exact HR.out.symm | (rw [HR.out]; done) | (rw [HR.out, Bool.eq_iff_iff]; simp; done) | (rw [HR.out, Bool.eq_iff_iff]; simp; omega)), rfl⟩
    · go_enter Tryz.func106, Tryz.ntmps106
      go_wp2_with fail
      go_ret
      exact ⟨ret_bool (by first | exact HR.out.symm | (rw [HR.out]; done) | (rw [HR.out, Bool.eq_iff_iff]; simp; done) | (rw [HR.out, Bool.eq_iff_iff]; simp; omega)), rfl⟩
  · go_enter Tryz.func106, Tryz.ntmps106
    go_wp2_with fail
    go_ret
    exact ⟨ret_bool (by first | exact HR.out.symm | (rw [HR.out]; done) | (rw [HR.out, Bool.eq_iff_iff]; simp; done) | (rw [HR.out, Bool.eq_iff_iff]; simp; omega)), rfl⟩
set_option maxHeartbeats 400000 in
theorem isValue_any (n : Int) (w : World) : Calls Tryz.prog 107 #[.int .i64 n] w fun e w' => e = .returned (.bool (vlB n)) ∧ w' = w := by
  have HR : Hid (vlB n = decide (-1099511627776 ≤ n ∧ n ≤ 1099511627776)) := Lib.hid rfl
  by_cases h1 : -1099511627776 ≤ n
  · by_cases h2 : n ≤ 1099511627776
    · go_enter Tryz.func107, Tryz.ntmps107
      go_wp2_with fail
      go_ret
      exact ⟨ret_bool (by first | exact HR.out.symm | (rw [HR.out]; done) | (rw [HR.out, Bool.eq_iff_iff]; simp; done) | (rw [HR.out, Bool.eq_iff_iff]; simp; omega)), rfl⟩
    · go_enter Tryz.func107, Tryz.ntmps107
      go_wp2_with fail
      go_ret
      exact ⟨ret_bool (by first | exact HR.out.symm | (rw [HR.out]; done) | (rw [HR.out, Bool.eq_iff_iff]; simp; done) | (rw [HR.out, Bool.eq_iff_iff]; simp; omega)), rfl⟩
  · go_enter Tryz.func107, Tryz.ntmps107
    go_wp2_with fail
    go_ret
    exact ⟨ret_bool (by first | exact HR.out.symm | (rw [HR.out]; done) | (rw [HR.out, Bool.eq_iff_iff]; simp; done) | (rw [HR.out, Bool.eq_iff_iff]; simp; omega)), rfl⟩
def inB (n a b : Int) : Bool := decide (a ≤ n ∧ n ≤ b)
set_option maxHeartbeats 400000 in
theorem within_any (n a b : Int) (w : World) : Calls Tryz.prog 76 #[.int .i64 n, .int .i64 a, .int .i64 b] w fun e w' => e = .returned (.bool (inB n a b)) ∧ w' = w := by
  have HR : Hid (inB n a b = decide (a ≤ n ∧ n ≤ b)) := Lib.hid rfl
  by_cases h1 : a ≤ n
  · by_cases h2 : n ≤ b
    · go_enter Tryz.func76, Tryz.ntmps76
      go_wp2_with fail
      go_ret
      exact ⟨ret_bool (by first | exact HR.out.symm | (rw [HR.out]; done) | (rw [HR.out, Bool.eq_iff_iff]; simp; done) | (rw [HR.out, Bool.eq_iff_iff]; simp; omega)), rfl⟩
    · go_enter Tryz.func76, Tryz.ntmps76
      go_wp2_with fail
      go_ret
      exact ⟨ret_bool (by first | exact HR.out.symm | (rw [HR.out]; done) | (rw [HR.out, Bool.eq_iff_iff]; simp; done) | (rw [HR.out, Bool.eq_iff_iff]; simp; omega)), rfl⟩
  · go_enter Tryz.func76, Tryz.ntmps76
    go_wp2_with fail
    go_ret
    exact ⟨ret_bool (by first | exact HR.out.symm | (rw [HR.out]; done) | (rw [HR.out, Bool.eq_iff_iff]; simp; done) | (rw [HR.out, Bool.eq_iff_iff]; simp; omega)), rfl⟩

/-- The cells of a zone that lies at the head of a block. -/
structure ZAt (w : World) (b : Nat) (z : Zn) : Prop where
  c0 : w.cell? ⟨b, 0, none⟩ = some (.int .i64 z.count)
  c1 : w.cell? ⟨b, 1, none⟩ = some (.int .i64 z.minT)
  c2 : w.cell? ⟨b, 2, none⟩ = some (.int .i64 z.maxT)
  c3 : w.cell? ⟨b, 3, none⟩ = some (.int .i64 z.minV)
  c4 : w.cell? ⟨b, 4, none⟩ = some (.int .i64 z.maxV)
theorem ZAt.of {w : World} {b : Nat} {z : Zn} {t : TypeId} (h : At w b z.cells t) : ZAt w b z := ⟨h.cell 0, h.cell 1, h.cell 2, h.cell 3, h.cell 4⟩

set_option maxRecDepth 100000 in
set_option maxHeartbeats 4000000 in
theorem zcheck_any (z : Zn) (w : World) : Calls Tryz.prog 73 #[.agg z.cells] w fun e w' => e = .returned (.int .i64 (zchk z)) ∧ Below w.heap.size w w' := by
  have hat := At.new w z.cells 50
  have HBL : Hid (Below w.heap.size w (w.alloc (.cells z.cells 50))) := Lib.hid ((Below.refl _ _).alloc (Nat.le_refl _) _)
  obtain ⟨c0, c1, c2, c3, c4⟩ := ZAt.of hat
  have HAT := Lib.hid hat
  clear hat
  by_cases h0 : z.count < 0
  · have HR : Hid (zchk z = 2) := Lib.hid (by unfold zchk; rw [if_pos (.inl h0)])
    go_enter Tryz.func73, Tryz.ntmps73
    go_wp2_with (first | (go_at_call 106; refine (isTime_any _ _).mono ?_; rintro e w' ⟨rfl, rfl⟩) | (go_at_call 107; refine (isValue_any _ _).mono ?_; rintro e w' ⟨rfl, rfl⟩))
    go_ret
    exact ⟨ret_int HR.out.symm, HBL.out⟩
  by_cases h1 : 1152921504606846976 < z.count
  · have HR : Hid (zchk z = 2) := Lib.hid (by unfold zchk; rw [if_pos (.inr h1)])
    go_enter Tryz.func73, Tryz.ntmps73
    go_wp2_with (first | (go_at_call 106; refine (isTime_any _ _).mono ?_; rintro e w' ⟨rfl, rfl⟩) | (go_at_call 107; refine (isValue_any _ _).mono ?_; rintro e w' ⟨rfl, rfl⟩))
    go_ret
    exact ⟨ret_int HR.out.symm, HBL.out⟩
  have hA : ¬ (z.count < 0 ∨ 1152921504606846976 < z.count) := by omega
  by_cases h2 : z.count = 0
  · have d2 : (z.count == 0) = true := beq_iff_eq.2 h2
    by_cases h3 : z = Zn.zero
    · have HR : Hid (zchk z = 0) := Lib.hid (by unfold zchk; rw [if_neg hA, if_pos h2, if_pos h3])
      have HN : Hid ((!decide (z = Zn.zero)) = false) := Lib.hid (by rw [decide_eq_true h3]; rfl)
      clear hA h2 h3
      go_enter Tryz.func73, Tryz.ntmps73
      go_wp2_with (first | (refine wpList_load_row rfl 50 (.tmp 1) rfl w.heap.size rfl 50 z.cells (0, 0) _ HAT.out.out Tryz.underlying50 rfl rfl ?_) | (refine wpList_zneq rfl (.tmp 14) (.tmp 15) 50 rfl z Zn.zero rfl rfl _ HN.out ?_))
      go_ret
      exact ⟨ret_int HR.out.symm, HBL.out⟩
    · have HR : Hid (zchk z = 10) := Lib.hid (by unfold zchk; rw [if_neg hA, if_pos h2, if_neg h3])
      have HN : Hid ((!decide (z = Zn.zero)) = true) := Lib.hid (by rw [decide_eq_false h3]; rfl)
      clear hA h2 h3
      go_enter Tryz.func73, Tryz.ntmps73
      go_wp2_with (first | (refine wpList_load_row rfl 50 (.tmp 1) rfl w.heap.size rfl 50 z.cells (0, 0) _ HAT.out.out Tryz.underlying50 rfl rfl ?_) | (refine wpList_zneq rfl (.tmp 14) (.tmp 15) 50 rfl z Zn.zero rfl rfl _ HN.out ?_))
      go_ret
      exact ⟨ret_int HR.out.symm, HBL.out⟩
  have d2 : (z.count == 0) = false := beq_eq_false_iff_ne.2 h2
  rcases h4 : tmB z.minT
  · have HR : Hid (zchk z = 2) := Lib.hid (by unfold zchk; rw [if_neg hA, if_neg h2, if_pos (.inl h4)])
    clear hA h2
    go_enter Tryz.func73, Tryz.ntmps73
    go_wp2_with (first | (go_at_call 106; refine (isTime_any _ _).mono ?_; rintro e w' ⟨rfl, rfl⟩) | (go_at_call 107; refine (isValue_any _ _).mono ?_; rintro e w' ⟨rfl, rfl⟩))
    go_ret
    exact ⟨ret_int HR.out.symm, HBL.out⟩
  rcases h5 : tmB z.maxT
  · have HR : Hid (zchk z = 2) := Lib.hid (by unfold zchk; rw [if_neg hA, if_neg h2, if_pos (.inr h5)])
    clear hA h2
    go_enter Tryz.func73, Tryz.ntmps73
    go_wp2_with (first | (go_at_call 106; refine (isTime_any _ _).mono ?_; rintro e w' ⟨rfl, rfl⟩) | (go_at_call 107; refine (isValue_any _ _).mono ?_; rintro e w' ⟨rfl, rfl⟩))
    go_ret
    exact ⟨ret_int HR.out.symm, HBL.out⟩
  have hB : ¬ (tmB z.minT = false ∨ tmB z.maxT = false) := by rw [h4, h5]; simp
  by_cases h6 : z.maxT < z.minT
  · have HR : Hid (zchk z = 9) := Lib.hid (by unfold zchk; rw [if_neg hA, if_neg h2, if_neg hB, if_pos h6])
    clear hA h2 hB
    go_enter Tryz.func73, Tryz.ntmps73
    go_wp2_with (first | (go_at_call 106; refine (isTime_any _ _).mono ?_; rintro e w' ⟨rfl, rfl⟩) | (go_at_call 107; refine (isValue_any _ _).mono ?_; rintro e w' ⟨rfl, rfl⟩))
    go_ret
    exact ⟨ret_int HR.out.symm, HBL.out⟩
  rcases h7 : vlB z.minV
  · have HR : Hid (zchk z = 2) := Lib.hid (by unfold zchk; rw [if_neg hA, if_neg h2, if_neg hB, if_neg h6, if_pos (.inl h7)])
    clear hA h2 hB
    go_enter Tryz.func73, Tryz.ntmps73
    go_wp2_with (first | (go_at_call 106; refine (isTime_any _ _).mono ?_; rintro e w' ⟨rfl, rfl⟩) | (go_at_call 107; refine (isValue_any _ _).mono ?_; rintro e w' ⟨rfl, rfl⟩))
    go_ret
    exact ⟨ret_int HR.out.symm, HBL.out⟩
  rcases h8 : vlB z.maxV
  · have HR : Hid (zchk z = 2) := Lib.hid (by unfold zchk; rw [if_neg hA, if_neg h2, if_neg hB, if_neg h6, if_pos (.inr h8)])
    clear hA h2 hB
    go_enter Tryz.func73, Tryz.ntmps73
    go_wp2_with (first | (go_at_call 106; refine (isTime_any _ _).mono ?_; rintro e w' ⟨rfl, rfl⟩) | (go_at_call 107; refine (isValue_any _ _).mono ?_; rintro e w' ⟨rfl, rfl⟩))
    go_ret
    exact ⟨ret_int HR.out.symm, HBL.out⟩
  have hC : ¬ (vlB z.minV = false ∨ vlB z.maxV = false) := by rw [h7, h8]; simp
  by_cases h9 : z.maxV < z.minV
  · have HR : Hid (zchk z = 9) := Lib.hid (by unfold zchk; rw [if_neg hA, if_neg h2, if_neg hB, if_neg h6, if_neg hC, if_pos h9])
    clear hA h2 hB hC
    go_enter Tryz.func73, Tryz.ntmps73
    go_wp2_with (first | (go_at_call 106; refine (isTime_any _ _).mono ?_; rintro e w' ⟨rfl, rfl⟩) | (go_at_call 107; refine (isValue_any _ _).mono ?_; rintro e w' ⟨rfl, rfl⟩))
    go_ret
    exact ⟨ret_int HR.out.symm, HBL.out⟩
  · have HR : Hid (zchk z = 0) := Lib.hid (by unfold zchk; rw [if_neg hA, if_neg h2, if_neg hB, if_neg h6, if_neg hC, if_neg h9])
    clear hA h2 hB hC
    go_enter Tryz.func73, Tryz.ntmps73
    go_wp2_with (first | (go_at_call 106; refine (isTime_any _ _).mono ?_; rintro e w' ⟨rfl, rfl⟩) | (go_at_call 107; refine (isValue_any _ _).mono ?_; rintro e w' ⟨rfl, rfl⟩))
    go_ret
    exact ⟨ret_int HR.out.symm, HBL.out⟩
end Go.Proofs.YtoojpfcnekpboaaGreat

namespace Go.Proofs.YtoojpfcnekpboaaGreat
open Go.RowKit

set_option maxRecDepth 100000 in
set_option maxHeartbeats 2000000 in
theorem checkL_any (A : Option Addr) (c : Nat) (ls : List Lab) (w : World) (hr : LabsIn w.heap.size w A ls) (hc : ls.length ≤ c) :
    Calls Tryz.prog 117 #[.slice A ls.length c] w fun e w' => e = .returned (.int .i64 (chkL ls)) ∧ Below w.heap.size w w' := by
  have HC := Lib.hid hc
  clear hc
  by_cases h16 : 16 < ls.length
  · have HR : Hid (chkL ls = 4) := Lib.hid (by unfold chkL; rw [if_pos h16])
    go_enter Tryz.func117, Tryz.ntmps117
    go_wp2_with fail
    go_ret
    exact ⟨ret_int HR.out.symm, Below.refl _ _⟩
  · have HR : Hid (chkL ls = chkAt ls 0) := Lib.hid (by unfold chkL; rw [if_neg h16]; rfl)
    have h16 : ls.length ≤ 16 := by omega
    have HRD := Lib.hid hr
    clear hr
    go_enter Tryz.func117, Tryz.ntmps117
    go_wp2_with fail
    go_loopw [10] (fun i wr => ∃ k : Nat, k ≤ ls.length ∧ i = .int .i64 k ∧ Hid (chkL ls = chkAt ls k) ∧ Below w.heap.size w wr) (fun i _ => ls.length - (intOf i).toNat)
    case atStart => exact ⟨0, Nat.zero_le _, rfl, HR, Below.refl _ _⟩
    case round =>
      obtain ⟨k, hk, rfl, HK, hD⟩ := hrel
      clear HR
      by_cases hlt : k < ls.length
      · have HST := Lib.hid (chkAt_step hlt)
        have HD := Lib.hid hD
        have hR := HRD.out.below hD
        obtain ⟨b, o, rfl, hb, c0, c1⟩ := hR.at_ k hlt
        have hb : b < wr.heap.size := Nat.lt_of_lt_of_le hb hD.size
        clear hR hD
        by_cases hnm : nameB (ls[k]).name
        · have HNM := Lib.hid hnm
          clear hnm
          by_cases hv0 : (ls[k]).value.size = 0
          · have d0 := str_eq hv0
            have HR : Hid (chkL ls = 1) := Lib.hid (by rw [HK.out, HST.out, if_pos HNM.out, if_pos hv0])
            clear hv0
            go_wp2_with fail
            refine (isName_any _ _).mono ?_
            rintro e w' ⟨rfl, rfl⟩
            rw [HNM.out]
            go_wp2_with fail
            go_ret
            exact ⟨ret_int HR.out.symm, HD.out.alloc HD.out.size _⟩
          · have d0 := str_ne hv0
            by_cases hv2 : 200 < (ls[k]).value.size
            · have HR : Hid (chkL ls = 4) := Lib.hid (by rw [HK.out, HST.out, if_pos HNM.out, if_neg hv0, if_pos hv2])
              clear hv0
              go_wp2_with fail
              refine (isName_any _ _).mono ?_
              rintro e w' ⟨rfl, rfl⟩
              rw [HNM.out]
              go_wp2_with fail
              go_ret
              exact ⟨ret_int HR.out.symm, HD.out.alloc HD.out.size _⟩
            · rcases k with _ | k
              · simp only [Nat.zero_mul, Nat.add_zero] at c0 c1
                have HR : Hid (chkL ls = chkAt ls 1) := Lib.hid (by rw [HK.out, HST.out, if_pos HNM.out, if_neg hv0, if_neg hv2, badAt_zero]; rfl)
                clear hv0
                go_wp2_with fail
                refine (isName_any _ _).mono ?_
                rintro e w' ⟨rfl, rfl⟩
                rw [HNM.out]
                go_wp2_with fail
                go_quiet (fail)
                go_wp2_with fail
                go_roundw
                case rel => exact ⟨1, by omega, by go_num, HR, below_round HD.out _ _⟩
                case measure => simp [intOf]; omega
              · have hlt' : k < ls.length := by omega
                obtain ⟨b', o', e1, _, p0, _⟩ := (HRD.out.below HD.out).at_ k hlt'
                cases e1
                have g1 : (0 : Int) ≤ ((k + 1 : Nat) : Int) - 1 := by omega
                have g2 : ((k + 1 : Nat) : Int) - 1 = (k : Int) := by omega
                have q0 := at_alloc p0 hb (.cells #[.string (ls[k + 1]).name, .string (ls[k + 1]).value] 66)
                have HBA := Lib.hid (badAt_succ hlt)
                rcases hba : leS (ls[k + 1]).name (ls[k]).name
                · have HR : Hid (chkL ls = chkAt ls (k + 1 + 1)) := Lib.hid (by rw [HK.out, HST.out, if_pos HNM.out, if_neg hv0, if_neg hv2, HBA.out, hba]; rfl)
                  have hba2 : (Op.bytesLess (ls[k + 1]).name.toList (ls[k]).name.toList || (ls[k + 1]).name.toList == (ls[k]).name.toList) = false := hba
                  clear hv0
                  go_wp2_with fail
                  refine (isName_any _ _).mono ?_
                  rintro e w' ⟨rfl, rfl⟩
                  rw [HNM.out]
                  go_wp2_with fail
                  go_quiet (fail)
                  go_wp2_with fail
                  go_roundw
                  case rel => exact ⟨k + 1 + 1, by omega, by go_num, HR, below_round HD.out _ _⟩
                  case measure => simp [intOf]; omega
                · have HR : Hid (chkL ls = 9) := Lib.hid (by rw [HK.out, HST.out, if_pos HNM.out, if_neg hv0, if_neg hv2, HBA.out, hba]; rfl)
                  have hba2 : (Op.bytesLess (ls[k + 1]).name.toList (ls[k]).name.toList || (ls[k + 1]).name.toList == (ls[k]).name.toList) = true := hba
                  clear hv0
                  go_wp2_with fail
                  refine (isName_any _ _).mono ?_
                  rintro e w' ⟨rfl, rfl⟩
                  rw [HNM.out]
                  go_wp2_with fail
                  go_quiet (fail)
                  go_wp2_with fail
                  go_ret
                  exact ⟨ret_int HR.out.symm, below_round HD.out _ _⟩
        · have HNM : Hid (nameB (ls[k]).name = false) := Lib.hid (by simpa using hnm)
          have HR : Hid (chkL ls = 5) := Lib.hid (by rw [HK.out, HST.out, if_neg hnm])
          clear hnm
          go_wp2_with fail
          refine (isName_any _ _).mono ?_
          rintro e w' ⟨rfl, rfl⟩
          rw [HNM.out]
          go_wp2_with fail
          go_ret
          exact ⟨ret_int HR.out.symm, HD.out.alloc HD.out.size _⟩
      · have HR : Hid (chkL ls = 0) := Lib.hid (by rw [HK.out, chkAt_end (Nat.le_of_not_lt hlt)])
        have HD := Lib.hid hD
        clear hD
        go_wp2_with fail
        go_ret
        exact ⟨ret_int HR.out.symm, HD.out⟩
end Go.Proofs.YtoojpfcnekpboaaGreat
