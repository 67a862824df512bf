/- Words on memory that all walks of this seat use: blocks that are kept, blocks that hold given cells, strings as lists of bytes. Labels in plain Lean: names, checks, comparisons and texts. -/
import Derived.Test.YtoojpfcnekpboaaRows
import Derived.WalkKit
import Derived.WalkSpells
import Derived.Deep.WholeRow
import Derived.Deep.LoopGhost
import Derived.Deep.QuietTactic
import Derived.BigQuiet
import Derived.Deep.DeepCutAuto
import Derived.Lib.Hide
import Derived.Laws.IdiomStrings
import Derived.RegionTactic
import Derived.ChangeAlike
import Derived.Outline
import Derived.Deep.RegionWith
import Derived.Laws.BytesArg
import Derived.StillTailTactics
namespace Go.Proofs.Ytoojpfcnekpboaa
open Go.RowKit

/-! ### Strings -/
def bs (s : ByteArray) : List UInt8 := s.data.toList
def str (l : List UInt8) : ByteArray := ⟨l.toArray⟩
theorem bs_length (s : ByteArray) : (bs s).length = s.size := rfl
theorem str_size (l : List UInt8) : (str l).size = l.length := rfl
theorem bs_str (l : List UInt8) : bs (str l) = l := rfl
theorem str_bs (s : ByteArray) : str (bs s) = s := rfl
theorem bs_get (s : ByteArray) (k : Nat) (h : k < s.size) : (bs s)[k]'h = s[k] := rfl

/-! ### Blocks -/
/-- Block b holds these cells of an array of type t. -/
structure At (W : World) (b : Nat) (c : Array Value) (t : TypeId) : Prop where mk :: (out : W.heap[b]? = some (.cells c t (0, 0)))
theorem At.lt {W : World} {b : Nat} {c : Array Value} {t : TypeId} (h : At W b c t) : b < W.heap.size := (Array.getElem?_eq_some_iff.1 h.out).1
theorem At.cell {W : World} {b : Nat} {c : Array Value} {t : TypeId} (h : At W b c t) (i : Nat) : W.cell? ⟨b, i, none⟩ = c[i]? := cell_of_row W b i c t (0, 0) h.out
theorem At.free {W : World} {b : Nat} {c : Array Value} {t : TypeId} (h : At W b c t) (i : Nat) : W.frozen? ⟨b, i, none⟩ = false := by simp [World.frozen?, h.out]
theorem At.new (W : World) (c : Array Value) (t : TypeId) : At (W.alloc (.cells c t)) W.heap.size c t := ⟨heap_alloc_new _ _⟩
theorem At.alloc {W : World} {b : Nat} {c : Array Value} {t : TypeId} (h : At W b c t) (o : Obj) : At (W.alloc o) b c t := ⟨by rw [Below.heap_alloc _ _ _ h.lt]; exact h.out⟩
theorem At.below {W W1 : World} {b : Nat} {c : Array Value} {t : TypeId} (h : At W b c t) (hb : Below W.heap.size W W1) : At W1 b c t := ⟨by rw [hb.block b h.lt]; exact h.out⟩
theorem At.set {W : World} {b : Nat} {c : Array Value} {t : TypeId} (h : At W b c t) (i : Nat) (v : Value) : At (W.setCell ⟨b, i, none⟩ v) b (c.setIfInBounds i v) t := ⟨heap_setCell_same W b i c t v h.out⟩
theorem At.other {W : World} {b : Nat} {c : Array Value} {t : TypeId} (h : At W b c t) {a : Addr} (v : Value) (hne : b ≠ a.block) : At (W.setCell a v) b c t := ⟨by rw [heap_setCell_other W a b v hne]; exact h.out⟩
theorem At.drew {W : World} {b : Nat} {c : Array Value} {t : TypeId} (h : At W b c t) : At W.drew b c t := ⟨h.out⟩
theorem At.drewN {W : World} {b : Nat} {c : Array Value} {t : TypeId} (h : At W b c t) (n : Nat) : At (W.drewN n) b c t := ⟨h.out⟩
theorem At.grown {W W1 : World} {b : Nat} {c : Array Value} {t : TypeId} {row : Option Nat} (h : At W b c t) (hg : W.grownBy W1 row) (hne : row ≠ some b) : At W1 b c t :=
  ⟨by rw [hg.block b h.lt (fun e => hne e.symm)]; exact h.out⟩

theorem bt {w w1 w2 : World} (h1 : Below w.heap.size w w1) (h2 : Below w1.heap.size w1 w2) : Below w.heap.size w w2 := h1.trans (h2.mono h1.size)
theorem bN {B : Nat} {w W : World} (h : Below B w W) (n : Nat) : Below B w (W.drewN n) := ⟨h.os, h.tape, h.output, h.size, h.block⟩
theorem bD {B : Nat} {w W : World} (h : Below B w.drew W) : Below B w W := ⟨h.os, h.tape, h.output, h.size, h.block⟩

/-- All blocks but one are kept. -/
structure Keep (p : Nat) (w w' : World) : Prop where
  os : w'.os = w.os
  tape : w'.tape = w.tape
  output : w'.output = w.output
  size : w.heap.size ≤ w'.heap.size
  block : ∀ k, k < w.heap.size → k ≠ p → w'.heap[k]? = w.heap[k]?
theorem Keep.refl (p : Nat) (w : World) : Keep p w w := ⟨rfl, rfl, rfl, Nat.le_refl _, fun _ _ _ => rfl⟩
theorem Keep.trans {p : Nat} {a b c : World} (h : Keep p a b) (k : Keep p b c) : Keep p a c :=
  ⟨k.os.trans h.os, k.tape.trans h.tape, k.output.trans h.output, Nat.le_trans h.size k.size, fun i hi hne => (k.block i (Nat.lt_of_lt_of_le hi h.size) hne).trans (h.block i hi hne)⟩
theorem Keep.drew {p : Nat} {a w : World} (h : Keep p a w) : Keep p a w.drew := ⟨h.os, h.tape, h.output, h.size, h.block⟩
theorem Keep.drewN {p : Nat} {a w : World} (h : Keep p a w) (n : Nat) : Keep p a (w.drewN n) := ⟨h.os, h.tape, h.output, h.size, h.block⟩
theorem Keep.ofDrew {p : Nat} {a w : World} (h : Keep p a.drew w) : Keep p a w := ⟨h.os, h.tape, h.output, h.size, h.block⟩
theorem Keep.below {p : Nat} {a b : World} (h : Below a.heap.size a b) : Keep p a b := ⟨h.os, h.tape, h.output, h.size, fun k hk _ => h.block k hk⟩
theorem Keep.alloc {p : Nat} {a w : World} (h : Keep p a w) (o : Obj) : Keep p a (w.alloc o) := h.trans (Keep.below ((Below.refl _ _).alloc (Nat.le_refl _) o))
theorem Keep.set {p : Nat} {a w : World} (h : Keep p a w) (i : Nat) (v : Value) : Keep p a (w.setCell ⟨p, i, none⟩ v) :=
  ⟨h.os, h.tape, h.output, by simpa using h.size, fun k hk hne => by rw [Below.heap_setCell w ⟨p, i, none⟩ v k hne]; exact h.block k hk hne⟩
/-- A store into a block that is new. -/
theorem Keep.setNew {p : Nat} {a w : World} (h : Keep p a w) (b i : Nat) (hb : a.heap.size ≤ b) (v : Value) : Keep p a (w.setCell ⟨b, i, none⟩ v) :=
  ⟨h.os, h.tape, h.output, by simpa using h.size, fun k hk hne => by rw [Below.heap_setCell w ⟨b, i, none⟩ v k (by show k ≠ b; omega)]; exact h.block k hk hne⟩
theorem Keep.toBelow {p : Nat} {a w : World} (h : Keep p a w) {B : Nat} (h1 : B ≤ p) (h2 : B ≤ a.heap.size) : Below B a w := ⟨h.os, h.tape, h.output, h.size, fun k hk => h.block k (by omega) (by omega)⟩
theorem At.keep {p : Nat} {W W1 : World} {b : Nat} {c : Array Value} {t : TypeId} (h : At W b c t) (hk : Keep p W W1) (hne : b ≠ p) : At W1 b c t := ⟨by rw [hk.block b h.lt hne]; exact h.out⟩
theorem Keep.grown {p : Nat} {a w w' : World} {row : Option Nat} (h : Keep p a w) (hg : w.grownBy w' row) (hr : ∀ k, row = some k → a.heap.size ≤ k ∨ k = p) : Keep p a w' :=
  ⟨hg.os.trans h.os, hg.tape.trans h.tape, hg.output.trans h.output, Nat.le_trans h.size hg.size, fun k hk hne =>
    (hg.block k (Nat.lt_of_lt_of_le hk h.size) (fun e => by rcases hr k e.symm with h1 | h1 <;> omega)).trans (h.block k hk hne)⟩

theorem ret_int {k : IntKind} {a b : Int} (h : a = b) : Ending.returned (.int k a) = .returned (.int k b) := by rw [h]
theorem ret_bool {a b : Bool} (h : a = b) : Ending.returned (.bool a) = .returned (.bool b) := by rw [h]
theorem ret_str {a b : ByteArray} (h : a = b) : Ending.returned (.string a) = .returned (.string b) := by rw [h]
end Go.Proofs.Ytoojpfcnekpboaa

namespace Go.Proofs.Ytoojpfcnekpboaa

structure Lab where
  name : ByteArray
  value : ByteArray

/-! ### Names -/
def letB5 (c : UInt8) : Bool := decide ((97 ≤ c.toNat ∧ c.toNat ≤ 122) ∨ (65 ≤ c.toNat ∧ c.toNat ≤ 90) ∨ (48 ≤ c.toNat ∧ c.toNat ≤ 57) ∨ c.toNat = 95)
def nameB (s : ByteArray) : Bool := (bs s).all letB5 && decide (0 < s.size ∧ s.size ≤ 60) && ((bs s).head?.any fun c => !decide (48 ≤ c.toNat ∧ c.toNat ≤ 57))

/-! ### Comparisons of strings -/
def ltS (a b : ByteArray) : Bool := Op.bytesLess a.toList b.toList
def leS (a b : ByteArray) : Bool := Op.bytesLess a.toList b.toList || a.toList == b.toList
def cmpS (a b : ByteArray) : Int := if ltS a b then -1 else if leS a b then 0 else 1

/-! ### Checks -/
/-- The check of the labels behind a name (none at the begin). -/
def chkFrom : Option ByteArray → List Lab → Int
  | _, [] => 0
  | p, x :: r => if nameB x.name then (if x.value.size = 0 then 1 else if 200 < x.value.size then 4 else if p.any (leS x.name ·) then 9 else chkFrom (some x.name) r) else 5
def chkL (ls : List Lab) : Int := if 16 < ls.length then 4 else chkFrom none ls

/-! ### Comparison of lists -/
def cmpX (x y : Lab) : Int := if cmpS x.name y.name = 0 then cmpS x.value y.value else cmpS x.name y.name
def cmpL : List Lab → List Lab → Int
  | [], [] => 0
  | [], _ :: _ => -1
  | _ :: _, [] => 1
  | x :: a, y :: b => if cmpX x y = 0 then cmpL a b else cmpX x y

/-! ### Texts -/
def quoB : List UInt8 → List UInt8
  | [] => []
  | c :: r => (if c = 92 ∨ c = 34 then [92, c] else if c = 10 then [92, 110] else [c]) ++ quoB r
def fmtX (x : Lab) : List UInt8 := bs x.name ++ [61, 34] ++ quoB (bs x.value) ++ [34]
/-- The labels behind the first one, each with its comma. -/
def fmtMore : List Lab → List UInt8
  | [] => []
  | x :: r => 44 :: (fmtX x ++ fmtMore r)
def fmtIn : List Lab → List UInt8
  | [] => []
  | x :: r => fmtX x ++ fmtMore r
def fmtL (ls : List Lab) : List UInt8 := 123 :: (fmtIn ls ++ [125])

/-! ### What is larger than the statements examine -/
def greatL (ls : List Lab) : Bool := ls.any (fun x => decide (61 < x.name.size) || decide (201 < x.value.size)) || decide (17 < ls.length)

theorem cmpS_eq (a b : ByteArray) : cmpS a b = -1 ∨ cmpS a b = 0 ∨ cmpS a b = 1 := by
  unfold cmpS
  split
  · exact .inl rfl
  · split
    · exact .inr (.inl rfl)
    · exact .inr (.inr rfl)
theorem bytesLess_irrefl : ∀ a : List UInt8, Op.bytesLess a a = false
  | [] => rfl
  | c :: r => by
    unfold Op.bytesLess
    rw [bytesLess_irrefl r]
    simp
theorem toList_bs (a : ByteArray) : a.toList = bs a := ByteArray.toList_eq a
theorem bs_inj {a b : ByteArray} (h : bs a = bs b) : a = b := by
  rw [← str_bs a, ← str_bs b, h]
theorem cmpS_zero {a b : ByteArray} : cmpS a b = 0 ↔ a = b := by
  unfold cmpS ltS leS
  constructor
  · intro h
    split at h
    · omega
    · split at h
      · rename_i h1 h2
        rw [Bool.not_eq_true] at h1
        rw [h1, Bool.false_or] at h2
        exact bs_inj (by rw [← toList_bs, ← toList_bs]; exact beq_iff_eq.1 h2)
      · omega
  · rintro rfl
    rw [bytesLess_irrefl]
    simp
theorem cmpX_zero {x y : Lab} : cmpX x y = 0 ↔ x = y := by
  unfold cmpX
  cases x with
  | mk a b =>
    cases y with
    | mk c d =>
      show (if cmpS a c = 0 then cmpS b d else cmpS a c) = 0 ↔ _
      by_cases h : cmpS a c = 0
      · rw [if_pos h, cmpS_zero, Lab.mk.injEq, ← cmpS_zero (a := a)]
        exact ⟨fun e => ⟨h, e⟩, fun e => e.2⟩
      · rw [if_neg h, Lab.mk.injEq, ← cmpS_zero (a := a)]
        exact ⟨fun e => absurd e h, fun e => absurd e.1 h⟩
theorem cmpL_zero : ∀ {a b : List Lab}, cmpL a b = 0 ↔ a = b
  | [], [] => by simp [cmpL]
  | [], _ :: _ => by simp [cmpL]
  | _ :: _, [] => by simp [cmpL]
  | x :: a, y :: b => by
    unfold cmpL
    by_cases h : cmpX x y = 0
    · rw [if_pos h, cmpL_zero (a := a), cmpX_zero.1 h]
      simp
    · rw [if_neg h]
      constructor
      · intro e; exact absurd e h
      · intro e
        rw [List.cons.injEq] at e
        exact absurd (cmpX_zero.2 e.1) h
theorem cmpL_eq : ∀ (a b : List Lab), cmpL a b = -1 ∨ cmpL a b = 0 ∨ cmpL a b = 1
  | [], [] => .inr (.inl rfl)
  | [], _ :: _ => .inl rfl
  | _ :: _, [] => .inr (.inr rfl)
  | x :: a, y :: b => by
    unfold cmpL
    split
    · exact cmpL_eq a b
    · unfold cmpX
      split
      · exact cmpS_eq _ _
      · exact cmpS_eq _ _
end Go.Proofs.Ytoojpfcnekpboaa
