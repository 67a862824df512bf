/- Words on memory that all walks of this seat use: blocks that are kept, blocks that hold given cells, strings as lists of bytes. Labels in plain Lean: names, checks, comparisons and texts. Slices that are read: of structs of any number of cells; of labels. Walks: the bytes of a name, a name (the program's and the reference's). Walks: a name (the program's and the reference's). -/
import Derived.Test.YtoojpfcnekpboaaGreatRows
import Derived.WalkKit
import Derived.WalkSpells
import Derived.Deep.WholeRow
import Derived.Deep.LoopGhost
import Derived.Deep.QuietTactic
import Derived.BigQuiet
import Derived.Deep.DeepCutAuto
import Derived.Lib.Hide
import Derived.Laws.IdiomStrings
import Derived.RegionTactic
import Derived.ChangeAlike
import Derived.Outline
import Derived.Deep.RegionWith
import Derived.Laws.BytesArg
import Derived.StillTailTactics
namespace Go.Proofs.YtoojpfcnekpboaaGreat
open Go.RowKit

/-! ### Strings -/
def bs (s : ByteArray) : List UInt8 := s.data.toList
def str (l : List UInt8) : ByteArray := ⟨l.toArray⟩
theorem bs_length (s : ByteArray) : (bs s).length = s.size := rfl
theorem str_size (l : List UInt8) : (str l).size = l.length := rfl
theorem bs_str (l : List UInt8) : bs (str l) = l := rfl
theorem str_bs (s : ByteArray) : str (bs s) = s := rfl
theorem bs_get (s : ByteArray) (k : Nat) (h : k < s.size) : (bs s)[k]'h = s[k] := rfl

/-! ### Blocks -/
/-- Block b holds these cells of an array of type t. -/
structure At (W : World) (b : Nat) (c : Array Value) (t : TypeId) : Prop where mk :: (out : W.heap[b]? = some (.cells c t (0, 0)))
theorem At.lt {W : World} {b : Nat} {c : Array Value} {t : TypeId} (h : At W b c t) : b < W.heap.size := (Array.getElem?_eq_some_iff.1 h.out).1
theorem At.cell {W : World} {b : Nat} {c : Array Value} {t : TypeId} (h : At W b c t) (i : Nat) : W.cell? ⟨b, i, none⟩ = c[i]? := cell_of_row W b i c t (0, 0) h.out
theorem At.free {W : World} {b : Nat} {c : Array Value} {t : TypeId} (h : At W b c t) (i : Nat) : W.frozen? ⟨b, i, none⟩ = false := by simp [World.frozen?, h.out]
theorem At.new (W : World) (c : Array Value) (t : TypeId) : At (W.alloc (.cells c t)) W.heap.size c t := ⟨heap_alloc_new _ _⟩
theorem At.alloc {W : World} {b : Nat} {c : Array Value} {t : TypeId} (h : At W b c t) (o : Obj) : At (W.alloc o) b c t := ⟨by rw [Below.heap_alloc _ _ _ h.lt]; exact h.out⟩
theorem At.below {W W1 : World} {b : Nat} {c : Array Value} {t : TypeId} (h : At W b c t) (hb : Below W.heap.size W W1) : At W1 b c t := ⟨by rw [hb.block b h.lt]; exact h.out⟩
theorem At.set {W : World} {b : Nat} {c : Array Value} {t : TypeId} (h : At W b c t) (i : Nat) (v : Value) : At (W.setCell ⟨b, i, none⟩ v) b (c.setIfInBounds i v) t := ⟨heap_setCell_same W b i c t v h.out⟩
theorem At.other {W : World} {b : Nat} {c : Array Value} {t : TypeId} (h : At W b c t) {a : Addr} (v : Value) (hne : b ≠ a.block) : At (W.setCell a v) b c t := ⟨by rw [heap_setCell_other W a b v hne]; exact h.out⟩
theorem At.drew {W : World} {b : Nat} {c : Array Value} {t : TypeId} (h : At W b c t) : At W.drew b c t := ⟨h.out⟩
theorem At.drewN {W : World} {b : Nat} {c : Array Value} {t : TypeId} (h : At W b c t) (n : Nat) : At (W.drewN n) b c t := ⟨h.out⟩
theorem At.grown {W W1 : World} {b : Nat} {c : Array Value} {t : TypeId} {row : Option Nat} (h : At W b c t) (hg : W.grownBy W1 row) (hne : row ≠ some b) : At W1 b c t :=
  ⟨by rw [hg.block b h.lt (fun e => hne e.symm)]; exact h.out⟩

theorem bt {w w1 w2 : World} (h1 : Below w.heap.size w w1) (h2 : Below w1.heap.size w1 w2) : Below w.heap.size w w2 := h1.trans (h2.mono h1.size)
theorem bN {B : Nat} {w W : World} (h : Below B w W) (n : Nat) : Below B w (W.drewN n) := ⟨h.os, h.tape, h.output, h.size, h.block⟩
theorem bD {B : Nat} {w W : World} (h : Below B w.drew W) : Below B w W := ⟨h.os, h.tape, h.output, h.size, h.block⟩

/-- All blocks but one are kept. -/
structure Keep (p : Nat) (w w' : World) : Prop where
  os : w'.os = w.os
  tape : w'.tape = w.tape
  output : w'.output = w.output
  size : w.heap.size ≤ w'.heap.size
  block : ∀ k, k < w.heap.size → k ≠ p → w'.heap[k]? = w.heap[k]?
theorem Keep.refl (p : Nat) (w : World) : Keep p w w := ⟨rfl, rfl, rfl, Nat.le_refl _, fun _ _ _ => rfl⟩
theorem Keep.trans {p : Nat} {a b c : World} (h : Keep p a b) (k : Keep p b c) : Keep p a c :=
  ⟨k.os.trans h.os, k.tape.trans h.tape, k.output.trans h.output, Nat.le_trans h.size k.size, fun i hi hne => (k.block i (Nat.lt_of_lt_of_le hi h.size) hne).trans (h.block i hi hne)⟩
theorem Keep.drew {p : Nat} {a w : World} (h : Keep p a w) : Keep p a w.drew := ⟨h.os, h.tape, h.output, h.size, h.block⟩
theorem Keep.drewN {p : Nat} {a w : World} (h : Keep p a w) (n : Nat) : Keep p a (w.drewN n) := ⟨h.os, h.tape, h.output, h.size, h.block⟩
theorem Keep.ofDrew {p : Nat} {a w : World} (h : Keep p a.drew w) : Keep p a w := ⟨h.os, h.tape, h.output, h.size, h.block⟩
theorem Keep.below {p : Nat} {a b : World} (h : Below a.heap.size a b) : Keep p a b := ⟨h.os, h.tape, h.output, h.size, fun k hk _ => h.block k hk⟩
theorem Keep.alloc {p : Nat} {a w : World} (h : Keep p a w) (o : Obj) : Keep p a (w.alloc o) := h.trans (Keep.below ((Below.refl _ _).alloc (Nat.le_refl _) o))
theorem Keep.set {p : Nat} {a w : World} (h : Keep p a w) (i : Nat) (v : Value) : Keep p a (w.setCell ⟨p, i, none⟩ v) :=
  ⟨h.os, h.tape, h.output, by simpa using h.size, fun k hk hne => by rw [Below.heap_setCell w ⟨p, i, none⟩ v k hne]; exact h.block k hk hne⟩
/-- A store into a block that is new. -/
theorem Keep.setNew {p : Nat} {a w : World} (h : Keep p a w) (b i : Nat) (hb : a.heap.size ≤ b) (v : Value) : Keep p a (w.setCell ⟨b, i, none⟩ v) :=
  ⟨h.os, h.tape, h.output, by simpa using h.size, fun k hk hne => by rw [Below.heap_setCell w ⟨b, i, none⟩ v k (by show k ≠ b; omega)]; exact h.block k hk hne⟩
theorem Keep.toBelow {p : Nat} {a w : World} (h : Keep p a w) {B : Nat} (h1 : B ≤ p) (h2 : B ≤ a.heap.size) : Below B a w := ⟨h.os, h.tape, h.output, h.size, fun k hk => h.block k (by omega) (by omega)⟩
theorem At.keep {p : Nat} {W W1 : World} {b : Nat} {c : Array Value} {t : TypeId} (h : At W b c t) (hk : Keep p W W1) (hne : b ≠ p) : At W1 b c t := ⟨by rw [hk.block b h.lt hne]; exact h.out⟩
theorem Keep.grown {p : Nat} {a w w' : World} {row : Option Nat} (h : Keep p a w) (hg : w.grownBy w' row) (hr : ∀ k, row = some k → a.heap.size ≤ k ∨ k = p) : Keep p a w' :=
  ⟨hg.os.trans h.os, hg.tape.trans h.tape, hg.output.trans h.output, Nat.le_trans h.size hg.size, fun k hk hne =>
    (hg.block k (Nat.lt_of_lt_of_le hk h.size) (fun e => by rcases hr k e.symm with h1 | h1 <;> omega)).trans (h.block k hk hne)⟩

theorem ret_int {k : IntKind} {a b : Int} (h : a = b) : Ending.returned (.int k a) = .returned (.int k b) := by rw [h]
theorem ret_bool {a b : Bool} (h : a = b) : Ending.returned (.bool a) = .returned (.bool b) := by rw [h]
theorem ret_str {a b : ByteArray} (h : a = b) : Ending.returned (.string a) = .returned (.string b) := by rw [h]
end Go.Proofs.YtoojpfcnekpboaaGreat

namespace Go.Proofs.YtoojpfcnekpboaaGreat

structure Lab where
  name : ByteArray
  value : ByteArray

/-! ### Names -/
def letB5 (c : UInt8) : Bool := decide ((97 ≤ c.toNat ∧ c.toNat ≤ 122) ∨ (65 ≤ c.toNat ∧ c.toNat ≤ 90) ∨ (48 ≤ c.toNat ∧ c.toNat ≤ 57) ∨ c.toNat = 95)
def nameB (s : ByteArray) : Bool := (bs s).all letB5 && decide (0 < s.size ∧ s.size ≤ 60) && ((bs s).head?.any fun c => !decide (48 ≤ c.toNat ∧ c.toNat ≤ 57))

/-! ### Comparisons of strings -/
def ltS (a b : ByteArray) : Bool := Op.bytesLess a.toList b.toList
def leS (a b : ByteArray) : Bool := Op.bytesLess a.toList b.toList || a.toList == b.toList
def cmpS (a b : ByteArray) : Int := if ltS a b then -1 else if leS a b then 0 else 1

/-! ### Checks -/
/-- The check of the labels behind a name (none at the begin). -/
def chkFrom : Option ByteArray → List Lab → Int
  | _, [] => 0
  | p, x :: r => if nameB x.name then (if x.value.size = 0 then 1 else if 200 < x.value.size then 4 else if p.any (leS x.name ·) then 9 else chkFrom (some x.name) r) else 5
def chkL (ls : List Lab) : Int := if 16 < ls.length then 4 else chkFrom none ls

/-! ### Comparison of lists -/
def cmpX (x y : Lab) : Int := if cmpS x.name y.name = 0 then cmpS x.value y.value else cmpS x.name y.name
def cmpL : List Lab → List Lab → Int
  | [], [] => 0
  | [], _ :: _ => -1
  | _ :: _, [] => 1
  | x :: a, y :: b => if cmpX x y = 0 then cmpL a b else cmpX x y

/-! ### Texts -/
def quoB : List UInt8 → List UInt8
  | [] => []
  | c :: r => (if c = 92 ∨ c = 34 then [92, c] else if c = 10 then [92, 110] else [c]) ++ quoB r
def fmtX (x : Lab) : List UInt8 := bs x.name ++ [61, 34] ++ quoB (bs x.value) ++ [34]
/-- The labels behind the first one, each with its comma. -/
def fmtMore : List Lab → List UInt8
  | [] => []
  | x :: r => 44 :: (fmtX x ++ fmtMore r)
def fmtIn : List Lab → List UInt8
  | [] => []
  | x :: r => fmtX x ++ fmtMore r
def fmtL (ls : List Lab) : List UInt8 := 123 :: (fmtIn ls ++ [125])

/-! ### What is larger than the statements examine -/
def greatL (ls : List Lab) : Bool := ls.any (fun x => decide (61 < x.name.size) || decide (201 < x.value.size)) || decide (17 < ls.length)

theorem cmpS_eq (a b : ByteArray) : cmpS a b = -1 ∨ cmpS a b = 0 ∨ cmpS a b = 1 := by
  unfold cmpS
  split
  · exact .inl rfl
  · split
    · exact .inr (.inl rfl)
    · exact .inr (.inr rfl)
theorem bytesLess_irrefl : ∀ a : List UInt8, Op.bytesLess a a = false
  | [] => rfl
  | c :: r => by
    unfold Op.bytesLess
    rw [bytesLess_irrefl r]
    simp
theorem toList_bs (a : ByteArray) : a.toList = bs a := ByteArray.toList_eq a
theorem bs_inj {a b : ByteArray} (h : bs a = bs b) : a = b := by
  rw [← str_bs a, ← str_bs b, h]
theorem cmpS_zero {a b : ByteArray} : cmpS a b = 0 ↔ a = b := by
  unfold cmpS ltS leS
  constructor
  · intro h
    split at h
    · omega
    · split at h
      · rename_i h1 h2
        rw [Bool.not_eq_true] at h1
        rw [h1, Bool.false_or] at h2
        exact bs_inj (by rw [← toList_bs, ← toList_bs]; exact beq_iff_eq.1 h2)
      · omega
  · rintro rfl
    rw [bytesLess_irrefl]
    simp
theorem cmpX_zero {x y : Lab} : cmpX x y = 0 ↔ x = y := by
  unfold cmpX
  cases x with
  | mk a b =>
    cases y with
    | mk c d =>
      show (if cmpS a c = 0 then cmpS b d else cmpS a c) = 0 ↔ _
      by_cases h : cmpS a c = 0
      · rw [if_pos h, cmpS_zero, Lab.mk.injEq, ← cmpS_zero (a := a)]
        exact ⟨fun e => ⟨h, e⟩, fun e => e.2⟩
      · rw [if_neg h, Lab.mk.injEq, ← cmpS_zero (a := a)]
        exact ⟨fun e => absurd e h, fun e => absurd e.1 h⟩
theorem cmpL_zero : ∀ {a b : List Lab}, cmpL a b = 0 ↔ a = b
  | [], [] => by simp [cmpL]
  | [], _ :: _ => by simp [cmpL]
  | _ :: _, [] => by simp [cmpL]
  | x :: a, y :: b => by
    unfold cmpL
    by_cases h : cmpX x y = 0
    · rw [if_pos h, cmpL_zero (a := a), cmpX_zero.1 h]
      simp
    · rw [if_neg h]
      constructor
      · intro e; exact absurd e h
      · intro e
        rw [List.cons.injEq] at e
        exact absurd (cmpX_zero.2 e.1) h
theorem cmpL_eq : ∀ (a b : List Lab), cmpL a b = -1 ∨ cmpL a b = 0 ∨ cmpL a b = 1
  | [], [] => .inr (.inl rfl)
  | [], _ :: _ => .inl rfl
  | _ :: _, [] => .inr (.inr rfl)
  | x :: a, y :: b => by
    unfold cmpL
    split
    · exact cmpL_eq a b
    · unfold cmpX
      split
      · exact cmpS_eq _ _
      · exact cmpS_eq _ _
end Go.Proofs.YtoojpfcnekpboaaGreat

namespace Go.Proofs.YtoojpfcnekpboaaGreat
open Go.RowKit

/-- A slice whose elements (s cells each) are these; it lies below block B. -/
def RdIn (B : Nat) (w : World) (s : Nat) (A : Option Addr) (xs : List (Array Value)) : Prop :=
  ∀ k (h : k < xs.length), ∃ b o, A = some ⟨b, o, none⟩ ∧ b < B ∧ ∀ j, j < s → w.cell? ⟨b, o + k * s + j, none⟩ = (xs[k])[j]?
section
variable {B B' : Nat} {w w' : World} {s : Nat} {A : Option Addr} {xs : List (Array Value)}
theorem RdIn.mono (h : RdIn B w s A xs) (hB : B ≤ B') : RdIn B' w s A xs := fun k hk => by
  obtain ⟨b, o, h1, h2, h3⟩ := h k hk
  exact ⟨b, o, h1, by omega, h3⟩
theorem RdIn.same (h : RdIn B w s A xs) (hc : ∀ b, b < B → w'.heap[b]? = w.heap[b]?) : RdIn B w' s A xs := fun k hk => by
  obtain ⟨b, o, h1, h2, h3⟩ := h k hk
  exact ⟨b, o, h1, h2, fun j hj => (World.cell?_of_block (hc b h2)).trans (h3 j hj)⟩
theorem RdIn.below (h : RdIn B w s A xs) (hb : Below B w w') : RdIn B w' s A xs := h.same fun b hlt => hb.block b hlt
theorem RdIn.drewN (h : RdIn B w s A xs) (n : Nat) : RdIn B (w.drewN n) s A xs := h.same fun _ _ => rfl
theorem RdIn.alloc (h : RdIn B w s A xs) (hB : B ≤ w.heap.size) (o : Obj) : RdIn B (w.alloc o) s A xs := h.same fun b hlt => Below.heap_alloc w o b (by omega)
theorem RdIn.nil (B : Nat) (w : World) (s : Nat) (A : Option Addr) : RdIn B w s A [] := fun k h => absurd h (by simp)
end

def Lab.cells (x : Lab) : Array Value := #[.string x.name, .string x.value]
/-- A slice of labels that is read. -/
def LabsIn (B : Nat) (w : World) (A : Option Addr) (ls : List Lab) : Prop := RdIn B w 2 A (ls.map Lab.cells)
section
variable {B B' : Nat} {w w' : World} {A : Option Addr} {ls : List Lab}
theorem LabsIn.at_ (h : LabsIn B w A ls) (k : Nat) (hk : k < ls.length) : ∃ b o, A = some ⟨b, o, none⟩ ∧ b < B ∧ w.cell? ⟨b, o + k * 2, none⟩ = some (.string (ls[k]).name) ∧ w.cell? ⟨b, o + k * 2 + 1, none⟩ = some (.string (ls[k]).value) := by
  obtain ⟨b, o, h1, h2, h3⟩ := h k (by simpa using hk)
  refine ⟨b, o, h1, h2, ?_, ?_⟩
  · have := h3 0 (by omega)
    simpa [Lab.cells] using this
  · have := h3 1 (by omega)
    simpa [Lab.cells] using this
theorem LabsIn.mono (h : LabsIn B w A ls) (hB : B ≤ B') : LabsIn B' w A ls := RdIn.mono h hB
theorem LabsIn.same (h : LabsIn B w A ls) (hc : ∀ b, b < B → w'.heap[b]? = w.heap[b]?) : LabsIn B w' A ls := RdIn.same h hc
theorem LabsIn.below (h : LabsIn B w A ls) (hb : Below B w w') : LabsIn B w' A ls := RdIn.below h hb
theorem LabsIn.drewN (h : LabsIn B w A ls) (n : Nat) : LabsIn B (w.drewN n) A ls := RdIn.drewN h n
theorem LabsIn.alloc (h : LabsIn B w A ls) (hB : B ≤ w.heap.size) (o : Obj) : LabsIn B (w.alloc o) A ls := RdIn.alloc h hB o
theorem LabsIn.nil (B : Nat) (w : World) (A : Option Addr) : LabsIn B w A [] := RdIn.nil B w 2 A
end
theorem drop_cons {α : Type} {l : List α} {k : Nat} (h : k < l.length) : l.drop k = l[k] :: l.drop (k + 1) := List.drop_eq_getElem_cons h
/-- The world is the old one; some orders have been drawn. -/
structure Drw (w w' : World) : Prop where mk :: (out : ∃ n, w' = w.drewN n)
theorem Drw.refl (w : World) : Drw w w := ⟨0, rfl⟩
theorem Drw.step {w w' : World} (h : Drw w w') (n : Nat) : Drw w (w'.drewN n) := by
  obtain ⟨m, rfl⟩ := h
  exact ⟨m + n, World.drewN_drewN _ _ _⟩
theorem Drw.trans {w w' w'' : World} (h : Drw w w') (h' : Drw w' w'') : Drw w w'' := by
  obtain ⟨m, rfl⟩ := h'
  exact h.step m
theorem Drw.below {w w' : World} (h : Drw w w') : Below w.heap.size w w' := by
  obtain ⟨n, rfl⟩ := h
  exact bN (Below.refl _ _) n
theorem str_ne {s : ByteArray} (h : s.size ≠ 0) : (s.toList == ([] : List UInt8)) = false := by
  rw [beq_eq_false_iff_ne, toList_bs]
  intro e
  have : (bs s).length = 0 := by rw [e]; rfl
  rw [bs_length] at this
  exact h this
theorem str_eq {s : ByteArray} (h : s.size = 0) : (s.toList == ([] : List UInt8)) = true := by
  rw [beq_iff_eq, toList_bs]
  exact List.eq_nil_of_length_eq_zero (by rw [bs_length]; exact h)
theorem below_round {w wr : World} (h : Below w.heap.size w wr) (o : Obj) (n : Nat) : Below w.heap.size w ((wr.alloc o).drewN n) := bN (h.alloc h.size o) n
theorem at_alloc {wr : World} {b o : Nat} {v : Value} (h : wr.cell? ⟨b, o, none⟩ = some v) (hb : b < wr.heap.size) (x : Obj) : (wr.alloc x).cell? ⟨b, o, none⟩ = some v := (World.cell?_alloc_lt wr x ⟨b, o, none⟩ hb).trans h
end Go.Proofs.YtoojpfcnekpboaaGreat

namespace Go.Proofs.YtoojpfcnekpboaaGreat
open Go.RowKit

theorem byte_cases (c : UInt8) : c.toNat ≤ 47 ∨ (48 ≤ c.toNat ∧ c.toNat ≤ 57) ∨ (58 ≤ c.toNat ∧ c.toNat ≤ 64) ∨ (65 ≤ c.toNat ∧ c.toNat ≤ 90) ∨ (91 ≤ c.toNat ∧ c.toNat ≤ 94) ∨ c.toNat = 95 ∨ c.toNat = 96 ∨ (97 ≤ c.toNat ∧ c.toNat ≤ 122) ∨ 123 ≤ c.toNat := by omega
set_option maxHeartbeats 1000000 in
theorem isNameByte_any (c : UInt8) (w : World) : Calls Tryz.prog 173 #[.int .u8 c.toNat] w fun e w' => e = .returned (.bool (letB5 c)) ∧ w' = w := by
  have HB : Hid (letB5 c = decide ((97 ≤ c.toNat ∧ c.toNat ≤ 122) ∨ (65 ≤ c.toNat ∧ c.toNat ≤ 90) ∨ (48 ≤ c.toNat ∧ c.toNat ≤ 57) ∨ c.toNat = 95)) := Lib.hid rfl
  have h := byte_cases c
  rcases h with h | ⟨h, h2⟩ | ⟨h, h2⟩ | ⟨h, h2⟩ | ⟨h, h2⟩ | h | h | ⟨h, h2⟩ | h
  all_goals
    go_enter Tryz.func173, Tryz.ntmps173
    go_wp2_with fail
    go_ret
    exact ⟨ret_bool (by rw [HB.out]; rw [Bool.eq_iff_iff]; first | (simp; done) | (simp; omega)), rfl⟩
set_option maxHeartbeats 1000000 in
theorem letter05_any (c : UInt8) (w : World) : Calls Tryz.prog 83 #[.int .u8 c.toNat] w fun e w' => e = .returned (.bool (letB5 c)) ∧ w' = w := by
  have HB : Hid (letB5 c = decide ((97 ≤ c.toNat ∧ c.toNat ≤ 122) ∨ (65 ≤ c.toNat ∧ c.toNat ≤ 90) ∨ (48 ≤ c.toNat ∧ c.toNat ≤ 57) ∨ c.toNat = 95)) := Lib.hid rfl
  have h := byte_cases c
  rcases h with h | ⟨h, h2⟩ | ⟨h, h2⟩ | ⟨h, h2⟩ | ⟨h, h2⟩ | h | h | ⟨h, h2⟩ | h
  all_goals
    go_enter Tryz.func83, Tryz.ntmps83
    go_wp2_with fail
    go_ret
    exact ⟨ret_bool (by rw [HB.out]; rw [Bool.eq_iff_iff]; first | (simp; done) | (simp; omega)), rfl⟩
end Go.Proofs.YtoojpfcnekpboaaGreat

namespace Go.Proofs.YtoojpfcnekpboaaGreat
open Go.RowKit

def digB5 (c : UInt8) : Bool := decide (48 ≤ c.toNat ∧ c.toNat ≤ 57)
theorem head_get (s : ByteArray) (h : 0 < s.size) : (bs s).head? = some s[0] := by
  have h1 : (bs s).head? = (bs s)[0]? := by rw [List.head?_eq_getElem?]
  rw [h1, List.getElem?_eq_getElem (l := bs s) h]
  rfl
theorem nameB_zero {s : ByteArray} (h : s.size < 1) : nameB s = false := by
  unfold nameB
  rw [decide_eq_false (show ¬ (0 < s.size ∧ s.size ≤ 60) by omega)]
  simp
theorem nameB_long {s : ByteArray} (h : 60 < s.size) : nameB s = false := by
  unfold nameB
  rw [decide_eq_false (show ¬ (0 < s.size ∧ s.size ≤ 60) by omega)]
  simp
theorem nameB_dig {s : ByteArray} (h : 0 < s.size) (h1 : 48 ≤ s[0].toNat) (h2 : s[0].toNat ≤ 57) : nameB s = false := by
  unfold nameB
  rw [head_get s h]
  simp [h1, h2]
theorem nameB_all {s : ByteArray} (h : 0 < s.size) (h6 : s.size ≤ 60) (h1 : s[0].toNat < 48 ∨ 57 < s[0].toNat) : nameB s = ((bs s).drop 0).all letB5 := by
  unfold nameB
  rw [head_get s h, decide_eq_true (show 0 < s.size ∧ s.size ≤ 60 by omega)]
  simp
  exact fun _ => h1
theorem drop_byte {s : ByteArray} {k : Nat} (h : k < s.size) : (bs s).drop k = s[k] :: (bs s).drop (k + 1) := List.drop_eq_getElem_cons (l := bs s) h
theorem drop_end {s : ByteArray} {k : Nat} (h : s.size ≤ k) : (bs s).drop k = [] := List.drop_eq_nil_of_le (by rw [bs_length]; exact h)

set_option maxHeartbeats 1000000 in
theorem isName_any (s : ByteArray) (w : World) : Calls Tryz.prog 149 #[.string s] w fun e w' => e = .returned (.bool (nameB s)) ∧ w' = w := by
  by_cases h0 : s.size < 1
  · have HB := Lib.hid (nameB_zero h0)
    go_enter Tryz.func149, Tryz.ntmps149
    go_wp2_with fail
    go_ret
    exact ⟨ret_bool HB.out.symm, rfl⟩
  by_cases h6 : 60 < s.size
  · have HB := Lib.hid (nameB_long h6)
    go_enter Tryz.func149, Tryz.ntmps149
    go_wp2_with fail
    go_ret
    exact ⟨ret_bool HB.out.symm, rfl⟩
  have hp : 0 < s.size := by omega
  have h6 : s.size ≤ 60 := by omega
  by_cases hd : 48 ≤ s[0].toNat ∧ s[0].toNat ≤ 57
  · obtain ⟨hd1, hd2⟩ := hd
    have HB := Lib.hid (nameB_dig hp hd1 hd2)
    go_enter Tryz.func149, Tryz.ntmps149
    go_wp2_with fail
    go_ret
    exact ⟨ret_bool HB.out.symm, rfl⟩
  · have hor : s[0].toNat < 48 ∨ 57 < s[0].toNat := by omega
    have HB := Lib.hid (nameB_all hp h6 hor)
    clear hd
    rcases hor with hor | hor
    all_goals
      go_enter Tryz.func149, Tryz.ntmps149
      go_wp2_with fail
      go_loop [3] (fun i => ∃ k : Nat, k ≤ s.size ∧ i = .int .i64 k ∧ Hid (nameB s = ((bs s).drop k).all letB5)) (fun i => s.size - (intOf i).toNat)
      case atStart => exact ⟨0, Nat.zero_le _, rfl, HB⟩
      case round =>
        obtain ⟨k, hk, rfl, HK⟩ := hrel
        clear HB
        by_cases hlt : k < s.size
        · have HD := Lib.hid (drop_byte hlt)
          rcases hl : letB5 s[k]
          · have HL := Lib.hid hl
            clear hl
            go_wp2_with fail
            refine (isNameByte_any _ _).mono ?_
            rintro e w' ⟨rfl, rfl⟩
            rw [HL.out]
            go_wp2_with fail
            go_ret
            exact ⟨ret_bool (by rw [HK.out, HD.out, List.all_cons, HL.out]; rfl), rfl⟩
          · have HL := Lib.hid hl
            clear hl
            go_wp2_with fail
            refine (isNameByte_any _ _).mono ?_
            rintro e w' ⟨rfl, rfl⟩
            rw [HL.out]
            go_wp2_with fail
            go_round
            case rel => exact ⟨k + 1, by omega, by go_num, Lib.hid (by rw [HK.out, HD.out, List.all_cons, HL.out]; rfl)⟩
            case measure => simp [intOf]; omega
        · have HD := Lib.hid (drop_end (Nat.le_of_not_lt hlt))
          go_wp2_with fail
          go_ret
          exact ⟨ret_bool (by rw [HK.out, HD.out]; rfl), rfl⟩

theorem nameB_bad {s : ByteArray} (h : (bs s).all letB5 = false) : nameB s = false := by
  unfold nameB
  rw [h]
  rfl
theorem nameB_good {s : ByteArray} (h : (bs s).all letB5 = true) (h0 : 0 < s.size) (h6 : s.size ≤ 60) (h1 : s[0].toNat < 48 ∨ 57 < s[0].toNat) : nameB s = true := by
  rw [nameB_all h0 h6 h1, List.drop_zero]
  exact h
set_option maxHeartbeats 1000000 in
theorem name05_any (s : ByteArray) (w : World) (hs : s.size ≤ 140737488351232) : Calls Tryz.prog 56 #[.string s] w fun e w' => e = .returned (.bool (nameB s)) ∧ w' = w := by
  go_enter Tryz.func56, Tryz.ntmps56
  go_wp2_with fail
  go_loop [3] (fun i => ∃ k : Nat, k ≤ s.size ∧ i = .int .i64 k ∧ Hid ((bs s).all letB5 = ((bs s).drop k).all letB5)) (fun i => s.size - (intOf i).toNat)
  case atStart => exact ⟨0, Nat.zero_le _, rfl, Lib.hid rfl⟩
  case round =>
    obtain ⟨k, hk, rfl, HK⟩ := hrel
    by_cases hlt : k < s.size
    · have HD := Lib.hid (drop_byte hlt)
      rcases hl : letB5 s[k]
      · have HL := Lib.hid hl
        clear hl
        go_wp2_with fail
        refine (letter05_any _ _).mono ?_
        rintro e w' ⟨rfl, rfl⟩
        rw [HL.out]
        go_wp2_with fail
        go_ret
        exact ⟨ret_bool (nameB_bad (by rw [HK.out, HD.out, List.all_cons, HL.out]; rfl)).symm, rfl⟩
      · have HL := Lib.hid hl
        clear hl
        go_wp2_with fail
        refine (letter05_any _ _).mono ?_
        rintro e w' ⟨rfl, rfl⟩
        rw [HL.out]
        go_wp2_with fail
        go_round
        case rel => exact ⟨k + 1, by omega, by go_num, Lib.hid (by rw [HK.out, HD.out, List.all_cons, HL.out]; rfl)⟩
        case measure => simp [intOf]; omega
    · have HG : Hid ((bs s).all letB5 = true) := Lib.hid (by rw [HK.out, drop_end (Nat.le_of_not_lt hlt)]; rfl)
      clear HK
      by_cases h0 : s.size < 1
      · have HB := Lib.hid (nameB_zero h0)
        go_wp2_with fail
        go_ret
        exact ⟨ret_bool HB.out.symm, rfl⟩
      by_cases h6 : 60 < s.size
      · have HB := Lib.hid (nameB_long h6)
        go_wp2_with fail
        go_ret
        exact ⟨ret_bool HB.out.symm, rfl⟩
      have hp : 0 < s.size := by omega
      have h6 : s.size ≤ 60 := by omega
      by_cases hd : 48 ≤ s[0].toNat ∧ s[0].toNat ≤ 57
      · obtain ⟨hd1, hd2⟩ := hd
        have HB := Lib.hid (nameB_dig hp hd1 hd2)
        go_wp2_with fail
        go_ret
        exact ⟨ret_bool (by first | exact HB.out.symm | (rw [HB.out, Bool.eq_iff_iff]; simp; done) | (rw [HB.out, Bool.eq_iff_iff]; simp; omega)), rfl⟩
      · have hor : s[0].toNat < 48 ∨ 57 < s[0].toNat := by omega
        have HB := Lib.hid (nameB_good HG.out hp h6 hor)
        clear hd
        rcases hor with hor | hor
        all_goals
          go_wp2_with fail
          go_ret
          exact ⟨ret_bool (by first | exact HB.out.symm | (rw [HB.out, Bool.eq_iff_iff]; simp; done) | (rw [HB.out, Bool.eq_iff_iff]; simp; omega)), rfl⟩
end Go.Proofs.YtoojpfcnekpboaaGreat
