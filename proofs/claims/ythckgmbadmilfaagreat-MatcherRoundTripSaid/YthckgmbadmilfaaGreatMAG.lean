/- Words on memory that all walks of this seat use: blocks that are kept, blocks that hold given cells, strings as lists of bytes. Labels in plain Lean: names, checks, comparisons and texts. Matchers in plain Lean: checks, what matches, what is simplified, what is implied. Slices that are read: of structs of any number of cells; of labels. Slices of matchers that are read. Words on structures of three cells (matchers): results, whole stores. append on a slice of the call's own, with what becomes of its block: it stays, or it is new. -/
import Derived.Test.YthckgmbadmilfaaGreatRows
import Derived.WalkKit
import Derived.WalkSpells
import Derived.Deep.WholeRow
import Derived.Deep.LoopGhost
import Derived.Deep.QuietTactic
import Derived.BigQuiet
import Derived.Deep.DeepCutAuto
import Derived.Lib.Hide
import Derived.Laws.IdiomStrings
import Derived.RegionTactic
import Derived.ChangeAlike
import Derived.Outline
import Derived.Deep.RegionWith
import Derived.Laws.BytesArg
import Derived.StillTailTactics
import Derived.Test.YthckgmbadmilfaaGreatMAF
import Derived.Deep.MidRow
namespace Go.Proofs.YthckgmbadmilfaaGreat
open Go.RowKit

/-! ### Strings -/
def bs (s : ByteArray) : List UInt8 := s.data.toList
def str (l : List UInt8) : ByteArray := ⟨l.toArray⟩
theorem bs_length (s : ByteArray) : (bs s).length = s.size := rfl
theorem str_size (l : List UInt8) : (str l).size = l.length := rfl
theorem bs_str (l : List UInt8) : bs (str l) = l := rfl
theorem str_bs (s : ByteArray) : str (bs s) = s := rfl
theorem bs_get (s : ByteArray) (k : Nat) (h : k < s.size) : (bs s)[k]'h = s[k] := rfl

/-! ### Blocks -/
/-- Block b holds these cells of an array of type t. -/
structure At (W : World) (b : Nat) (c : Array Value) (t : TypeId) : Prop where mk :: (out : W.heap[b]? = some (.cells c t (0, 0)))
theorem At.lt {W : World} {b : Nat} {c : Array Value} {t : TypeId} (h : At W b c t) : b < W.heap.size := (Array.getElem?_eq_some_iff.1 h.out).1
theorem At.cell {W : World} {b : Nat} {c : Array Value} {t : TypeId} (h : At W b c t) (i : Nat) : W.cell? ⟨b, i, none⟩ = c[i]? := cell_of_row W b i c t (0, 0) h.out
theorem At.free {W : World} {b : Nat} {c : Array Value} {t : TypeId} (h : At W b c t) (i : Nat) : W.frozen? ⟨b, i, none⟩ = false := by simp [World.frozen?, h.out]
theorem At.new (W : World) (c : Array Value) (t : TypeId) : At (W.alloc (.cells c t)) W.heap.size c t := ⟨heap_alloc_new _ _⟩
theorem At.alloc {W : World} {b : Nat} {c : Array Value} {t : TypeId} (h : At W b c t) (o : Obj) : At (W.alloc o) b c t := ⟨by rw [Below.heap_alloc _ _ _ h.lt]; exact h.out⟩
theorem At.below {W W1 : World} {b : Nat} {c : Array Value} {t : TypeId} (h : At W b c t) (hb : Below W.heap.size W W1) : At W1 b c t := ⟨by rw [hb.block b h.lt]; exact h.out⟩
theorem At.set {W : World} {b : Nat} {c : Array Value} {t : TypeId} (h : At W b c t) (i : Nat) (v : Value) : At (W.setCell ⟨b, i, none⟩ v) b (c.setIfInBounds i v) t := ⟨heap_setCell_same W b i c t v h.out⟩
theorem At.other {W : World} {b : Nat} {c : Array Value} {t : TypeId} (h : At W b c t) {a : Addr} (v : Value) (hne : b ≠ a.block) : At (W.setCell a v) b c t := ⟨by rw [heap_setCell_other W a b v hne]; exact h.out⟩
theorem At.drew {W : World} {b : Nat} {c : Array Value} {t : TypeId} (h : At W b c t) : At W.drew b c t := ⟨h.out⟩
theorem At.drewN {W : World} {b : Nat} {c : Array Value} {t : TypeId} (h : At W b c t) (n : Nat) : At (W.drewN n) b c t := ⟨h.out⟩
theorem At.grown {W W1 : World} {b : Nat} {c : Array Value} {t : TypeId} {row : Option Nat} (h : At W b c t) (hg : W.grownBy W1 row) (hne : row ≠ some b) : At W1 b c t :=
  ⟨by rw [hg.block b h.lt (fun e => hne e.symm)]; exact h.out⟩

theorem bt {w w1 w2 : World} (h1 : Below w.heap.size w w1) (h2 : Below w1.heap.size w1 w2) : Below w.heap.size w w2 := h1.trans (h2.mono h1.size)
theorem bN {B : Nat} {w W : World} (h : Below B w W) (n : Nat) : Below B w (W.drewN n) := ⟨h.os, h.tape, h.output, h.size, h.block⟩
theorem bD {B : Nat} {w W : World} (h : Below B w.drew W) : Below B w W := ⟨h.os, h.tape, h.output, h.size, h.block⟩

/-- All blocks but one are kept. -/
structure Keep (p : Nat) (w w' : World) : Prop where
  os : w'.os = w.os
  tape : w'.tape = w.tape
  output : w'.output = w.output
  size : w.heap.size ≤ w'.heap.size
  block : ∀ k, k < w.heap.size → k ≠ p → w'.heap[k]? = w.heap[k]?
theorem Keep.refl (p : Nat) (w : World) : Keep p w w := ⟨rfl, rfl, rfl, Nat.le_refl _, fun _ _ _ => rfl⟩
theorem Keep.trans {p : Nat} {a b c : World} (h : Keep p a b) (k : Keep p b c) : Keep p a c :=
  ⟨k.os.trans h.os, k.tape.trans h.tape, k.output.trans h.output, Nat.le_trans h.size k.size, fun i hi hne => (k.block i (Nat.lt_of_lt_of_le hi h.size) hne).trans (h.block i hi hne)⟩
theorem Keep.drew {p : Nat} {a w : World} (h : Keep p a w) : Keep p a w.drew := ⟨h.os, h.tape, h.output, h.size, h.block⟩
theorem Keep.drewN {p : Nat} {a w : World} (h : Keep p a w) (n : Nat) : Keep p a (w.drewN n) := ⟨h.os, h.tape, h.output, h.size, h.block⟩
theorem Keep.ofDrew {p : Nat} {a w : World} (h : Keep p a.drew w) : Keep p a w := ⟨h.os, h.tape, h.output, h.size, h.block⟩
theorem Keep.below {p : Nat} {a b : World} (h : Below a.heap.size a b) : Keep p a b := ⟨h.os, h.tape, h.output, h.size, fun k hk _ => h.block k hk⟩
theorem Keep.alloc {p : Nat} {a w : World} (h : Keep p a w) (o : Obj) : Keep p a (w.alloc o) := h.trans (Keep.below ((Below.refl _ _).alloc (Nat.le_refl _) o))
theorem Keep.set {p : Nat} {a w : World} (h : Keep p a w) (i : Nat) (v : Value) : Keep p a (w.setCell ⟨p, i, none⟩ v) :=
  ⟨h.os, h.tape, h.output, by simpa using h.size, fun k hk hne => by rw [Below.heap_setCell w ⟨p, i, none⟩ v k hne]; exact h.block k hk hne⟩
/-- A store into a block that is new. -/
theorem Keep.setNew {p : Nat} {a w : World} (h : Keep p a w) (b i : Nat) (hb : a.heap.size ≤ b) (v : Value) : Keep p a (w.setCell ⟨b, i, none⟩ v) :=
  ⟨h.os, h.tape, h.output, by simpa using h.size, fun k hk hne => by rw [Below.heap_setCell w ⟨b, i, none⟩ v k (by show k ≠ b; omega)]; exact h.block k hk hne⟩
theorem Keep.toBelow {p : Nat} {a w : World} (h : Keep p a w) {B : Nat} (h1 : B ≤ p) (h2 : B ≤ a.heap.size) : Below B a w := ⟨h.os, h.tape, h.output, h.size, fun k hk => h.block k (by omega) (by omega)⟩
theorem At.keep {p : Nat} {W W1 : World} {b : Nat} {c : Array Value} {t : TypeId} (h : At W b c t) (hk : Keep p W W1) (hne : b ≠ p) : At W1 b c t := ⟨by rw [hk.block b h.lt hne]; exact h.out⟩
theorem Keep.grown {p : Nat} {a w w' : World} {row : Option Nat} (h : Keep p a w) (hg : w.grownBy w' row) (hr : ∀ k, row = some k → a.heap.size ≤ k ∨ k = p) : Keep p a w' :=
  ⟨hg.os.trans h.os, hg.tape.trans h.tape, hg.output.trans h.output, Nat.le_trans h.size hg.size, fun k hk hne =>
    (hg.block k (Nat.lt_of_lt_of_le hk h.size) (fun e => by rcases hr k e.symm with h1 | h1 <;> omega)).trans (h.block k hk hne)⟩

theorem ret_int {k : IntKind} {a b : Int} (h : a = b) : Ending.returned (.int k a) = .returned (.int k b) := by rw [h]
theorem ret_bool {a b : Bool} (h : a = b) : Ending.returned (.bool a) = .returned (.bool b) := by rw [h]
theorem ret_str {a b : ByteArray} (h : a = b) : Ending.returned (.string a) = .returned (.string b) := by rw [h]
end Go.Proofs.YthckgmbadmilfaaGreat

namespace Go.Proofs.YthckgmbadmilfaaGreat

structure Lab where
  name : ByteArray
  value : ByteArray

/-! ### Names -/
def letB5 (c : UInt8) : Bool := decide ((97 ≤ c.toNat ∧ c.toNat ≤ 122) ∨ (65 ≤ c.toNat ∧ c.toNat ≤ 90) ∨ (48 ≤ c.toNat ∧ c.toNat ≤ 57) ∨ c.toNat = 95)
def nameB (s : ByteArray) : Bool := (bs s).all letB5 && decide (0 < s.size ∧ s.size ≤ 60) && ((bs s).head?.any fun c => !decide (48 ≤ c.toNat ∧ c.toNat ≤ 57))

/-! ### Comparisons of strings -/
def ltS (a b : ByteArray) : Bool := Op.bytesLess a.toList b.toList
def leS (a b : ByteArray) : Bool := Op.bytesLess a.toList b.toList || a.toList == b.toList
def cmpS (a b : ByteArray) : Int := if ltS a b then -1 else if leS a b then 0 else 1

/-! ### Checks -/
/-- The check of the labels behind a name (none at the begin). -/
def chkFrom : Option ByteArray → List Lab → Int
  | _, [] => 0
  | p, x :: r => if nameB x.name then (if x.value.size = 0 then 1 else if 200 < x.value.size then 4 else if p.any (leS x.name ·) then 9 else chkFrom (some x.name) r) else 5
def chkL (ls : List Lab) : Int := if 16 < ls.length then 4 else chkFrom none ls

/-! ### Comparison of lists -/
def cmpX (x y : Lab) : Int := if cmpS x.name y.name = 0 then cmpS x.value y.value else cmpS x.name y.name
def cmpL : List Lab → List Lab → Int
  | [], [] => 0
  | [], _ :: _ => -1
  | _ :: _, [] => 1
  | x :: a, y :: b => if cmpX x y = 0 then cmpL a b else cmpX x y

/-! ### Texts -/
def quoB : List UInt8 → List UInt8
  | [] => []
  | c :: r => (if c = 92 ∨ c = 34 then [92, c] else if c = 10 then [92, 110] else [c]) ++ quoB r
def fmtX (x : Lab) : List UInt8 := bs x.name ++ [61, 34] ++ quoB (bs x.value) ++ [34]
/-- The labels behind the first one, each with its comma. -/
def fmtMore : List Lab → List UInt8
  | [] => []
  | x :: r => 44 :: (fmtX x ++ fmtMore r)
def fmtIn : List Lab → List UInt8
  | [] => []
  | x :: r => fmtX x ++ fmtMore r
def fmtL (ls : List Lab) : List UInt8 := 123 :: (fmtIn ls ++ [125])

/-! ### What is larger than the statements examine -/
def greatL (ls : List Lab) : Bool := ls.any (fun x => decide (61 < x.name.size) || decide (201 < x.value.size)) || decide (17 < ls.length)

theorem cmpS_eq (a b : ByteArray) : cmpS a b = -1 ∨ cmpS a b = 0 ∨ cmpS a b = 1 := by
  unfold cmpS
  split
  · exact .inl rfl
  · split
    · exact .inr (.inl rfl)
    · exact .inr (.inr rfl)
theorem bytesLess_irrefl : ∀ a : List UInt8, Op.bytesLess a a = false
  | [] => rfl
  | c :: r => by
    unfold Op.bytesLess
    rw [bytesLess_irrefl r]
    simp
theorem toList_bs (a : ByteArray) : a.toList = bs a := ByteArray.toList_eq a
theorem bs_inj {a b : ByteArray} (h : bs a = bs b) : a = b := by
  rw [← str_bs a, ← str_bs b, h]
theorem cmpS_zero {a b : ByteArray} : cmpS a b = 0 ↔ a = b := by
  unfold cmpS ltS leS
  constructor
  · intro h
    split at h
    · omega
    · split at h
      · rename_i h1 h2
        rw [Bool.not_eq_true] at h1
        rw [h1, Bool.false_or] at h2
        exact bs_inj (by rw [← toList_bs, ← toList_bs]; exact beq_iff_eq.1 h2)
      · omega
  · rintro rfl
    rw [bytesLess_irrefl]
    simp
theorem cmpX_zero {x y : Lab} : cmpX x y = 0 ↔ x = y := by
  unfold cmpX
  cases x with
  | mk a b =>
    cases y with
    | mk c d =>
      show (if cmpS a c = 0 then cmpS b d else cmpS a c) = 0 ↔ _
      by_cases h : cmpS a c = 0
      · rw [if_pos h, cmpS_zero, Lab.mk.injEq, ← cmpS_zero (a := a)]
        exact ⟨fun e => ⟨h, e⟩, fun e => e.2⟩
      · rw [if_neg h, Lab.mk.injEq, ← cmpS_zero (a := a)]
        exact ⟨fun e => absurd e h, fun e => absurd e.1 h⟩
theorem cmpL_zero : ∀ {a b : List Lab}, cmpL a b = 0 ↔ a = b
  | [], [] => by simp [cmpL]
  | [], _ :: _ => by simp [cmpL]
  | _ :: _, [] => by simp [cmpL]
  | x :: a, y :: b => by
    unfold cmpL
    by_cases h : cmpX x y = 0
    · rw [if_pos h, cmpL_zero (a := a), cmpX_zero.1 h]
      simp
    · rw [if_neg h]
      constructor
      · intro e; exact absurd e h
      · intro e
        rw [List.cons.injEq] at e
        exact absurd (cmpX_zero.2 e.1) h
theorem cmpL_eq : ∀ (a b : List Lab), cmpL a b = -1 ∨ cmpL a b = 0 ∨ cmpL a b = 1
  | [], [] => .inr (.inl rfl)
  | [], _ :: _ => .inl rfl
  | _ :: _, [] => .inr (.inr rfl)
  | x :: a, y :: b => by
    unfold cmpL
    split
    · exact cmpL_eq a b
    · unfold cmpX
      split
      · exact cmpS_eq _ _
      · exact cmpS_eq _ _
end Go.Proofs.YthckgmbadmilfaaGreat

namespace Go.Proofs.YthckgmbadmilfaaGreat

structure Mt where
  kind : Int
  name : ByteArray
  value : ByteArray
theorem Mt.ext' {a b : Mt} (h1 : a.kind = b.kind) (h2 : a.name = b.name) (h3 : a.value = b.value) : a = b := by
  cases a; cases b; simp only at h1 h2 h3; subst h1; subst h2; subst h3; rfl
instance : DecidableEq Mt := fun a b =>
  if h : a.kind = b.kind ∧ a.name = b.name ∧ a.value = b.value then .isTrue (Mt.ext' h.1 h.2.1 h.2.2) else .isFalse fun e => h (by subst e; exact ⟨rfl, rfl, rfl⟩)
def Mt.zero : Mt := ⟨0, ByteArray.empty, ByteArray.empty⟩

/-! ### Checks -/
def chkM (m : Mt) : Int :=
  if m.kind < 1 ∨ 4 < m.kind then 8 else if nameB m.name then (if 2 < m.kind then (Rx.checkR (bs m.value) : Nat) else if 200 < m.value.size then 4 else 0) else 5
def chkMF : List Mt → Int
  | [] => 0
  | m :: r => if chkM m = 0 then chkMF r else chkM m
def chkMs (l : List Mt) : Int := if 16 < l.length then 4 else chkMF l

/-! ### What matches -/
def fitM (m : Mt) (v : ByteArray) : Bool :=
  if m.kind = 1 then decide (v = m.value) else if m.kind = 2 then !decide (v = m.value) else if m.kind = 3 then Rx.matchR (bs m.value) (bs v) else !Rx.matchR (bs m.value) (bs v)
def getL : List Lab → ByteArray → ByteArray
  | [], _ => ByteArray.empty
  | x :: r, n => if x.name = n then x.value else getL r n
def fitsM (l : List Mt) (ls : List Lab) : Bool := l.all fun m => fitM m (getL ls m.name)
def matM (l : List Mt) (ls : List Lab) : Bool := decide (chkMs l = 0) && fitsM l ls
def negK (k : Int) : Int := if k = 1 then 2 else if k = 2 then 1 else if k = 3 then 4 else 3
def negM (m : Mt) : Mt := if m.kind < 1 ∨ 4 < m.kind then Mt.zero else { m with kind := negK m.kind }

/-! ### The order -/
def cmpM (a b : Mt) : Int := if cmpS a.name b.name = 0 then (if a.kind < b.kind then -1 else if b.kind < a.kind then 1 else cmpS a.value b.value) else cmpS a.name b.name

/-! ### What is simplified -/
def litM (m : Mt) : Mt := if m.kind = 3 ∨ m.kind = 4 then (if (Rx.prefR (bs m.value)).2 then ⟨m.kind - 2, m.name, str (Rx.prefR (bs m.value)).1⟩ else m) else m
/-- The prefixes of two expressions exclude each other. -/
def apartM (p q : ByteArray) : Bool := !((Rx.prefR (bs p)).1.isPrefixOf (Rx.prefR (bs q)).1) && !((Rx.prefR (bs q)).1.isPrefixOf (Rx.prefR (bs p)).1)
/-- A matcher excludes another one of its name. -/
def exclM (y m : Mt) : Bool := if m.kind = 2 then !Rx.matchR (bs y.value) (bs m.value) else if m.kind = 4 then apartM y.value m.value else false
def eqlM (l : List Mt) (n : ByteArray) : Option Mt := l.find? fun x => decide (x.name = n) && decide (x.kind = 1)
def contraM (l : List Mt) (m : Mt) : Bool :=
  if m.kind = 3 ∧ Rx.emptyR (bs m.value) = true then true else match eqlM l m.name with
    | some q => !fitM m q.value
    | none => decide (m.kind = 3) && l.any fun y => decide (y.name = m.name) && decide (y.kind = 3) && apartM m.value y.value
def excldM (l : List Mt) (m : Mt) : Bool := l.any fun y => decide (y.name = m.name) && decide (y.kind = 3) && exclM y m
def needM (l : List Mt) (m : Mt) : Bool := match eqlM l m.name with
  | some q => decide (m = q)
  | none => if m.kind = 4 ∧ Rx.emptyR (bs m.value) = true then false else !excldM l m
/-- Insertion into an ordered list without repetition. -/
def insM (m : Mt) : List Mt → List Mt
  | [] => [m]
  | x :: r => if cmpM x m < 0 then x :: insM m r else if x = m then x :: r else m :: x :: r
def setM (l : List Mt) : List Mt := l.foldl (fun a m => insM m a) []
def simM (l : List Mt) : List Mt × Bool :=
  if chkMs l = 0 then (if (l.map litM).any (contraM (l.map litM)) then ([], false) else (setM ((l.map litM).filter (needM (l.map litM))), true)) else ([], false)
def implM (l : List Mt) (m : Mt) : Bool :=
  l.any (fun x => decide (x = m)) || excldM l m || (match eqlM l m.name with | some q => fitM m q.value | none => false) ||
    (decide (m.kind = 2) && l.any fun y => decide (y.name = m.name) && decide (y.kind = 4) && Rx.matchR (bs y.value) (bs m.value))
def impM (a b : List Mt) : Bool :=
  decide (chkMs a = 0) && decide (chkMs b = 0) && (!(simM a).2 || (simM b).2 && (simM b).1.all (implM (simM a).1))

/-! ### Texts -/
def opK (k : Int) : List UInt8 := if k = 1 then [61] else if k = 2 then [33, 61] else if k = 3 then [61, 126] else [33, 126]
def fmtM (m : Mt) : List UInt8 := bs m.name ++ opK m.kind ++ [34] ++ quoB (bs m.value) ++ [34]
def fmtMmore : List Mt → List UInt8
  | [] => []
  | m :: r => 44 :: (fmtM m ++ fmtMmore r)
def fmtMin : List Mt → List UInt8
  | [] => []
  | m :: r => fmtM m ++ fmtMmore r
def fmtMs (l : List Mt) : List UInt8 := if chkMs l = 0 then 123 :: (fmtMin l ++ [125]) else []

/-! ### What is larger than the statements examine -/
def greatM (l : List Mt) : Bool := l.any (fun m => decide (61 < m.name.size) || (decide (40 < m.value.size) && decide (2 < m.kind)) || decide (201 < m.value.size)) || decide (17 < l.length)
end Go.Proofs.YthckgmbadmilfaaGreat

namespace Go.Proofs.YthckgmbadmilfaaGreat
open Go.RowKit

/-- A slice whose elements (s cells each) are these; it lies below block B. -/
def RdIn (B : Nat) (w : World) (s : Nat) (A : Option Addr) (xs : List (Array Value)) : Prop :=
  ∀ k (h : k < xs.length), ∃ b o, A = some ⟨b, o, none⟩ ∧ b < B ∧ ∀ j, j < s → w.cell? ⟨b, o + k * s + j, none⟩ = (xs[k])[j]?
section
variable {B B' : Nat} {w w' : World} {s : Nat} {A : Option Addr} {xs : List (Array Value)}
theorem RdIn.mono (h : RdIn B w s A xs) (hB : B ≤ B') : RdIn B' w s A xs := fun k hk => by
  obtain ⟨b, o, h1, h2, h3⟩ := h k hk
  exact ⟨b, o, h1, by omega, h3⟩
theorem RdIn.same (h : RdIn B w s A xs) (hc : ∀ b, b < B → w'.heap[b]? = w.heap[b]?) : RdIn B w' s A xs := fun k hk => by
  obtain ⟨b, o, h1, h2, h3⟩ := h k hk
  exact ⟨b, o, h1, h2, fun j hj => (World.cell?_of_block (hc b h2)).trans (h3 j hj)⟩
theorem RdIn.below (h : RdIn B w s A xs) (hb : Below B w w') : RdIn B w' s A xs := h.same fun b hlt => hb.block b hlt
theorem RdIn.drewN (h : RdIn B w s A xs) (n : Nat) : RdIn B (w.drewN n) s A xs := h.same fun _ _ => rfl
theorem RdIn.alloc (h : RdIn B w s A xs) (hB : B ≤ w.heap.size) (o : Obj) : RdIn B (w.alloc o) s A xs := h.same fun b hlt => Below.heap_alloc w o b (by omega)
theorem RdIn.nil (B : Nat) (w : World) (s : Nat) (A : Option Addr) : RdIn B w s A [] := fun k h => absurd h (by simp)
end

def Lab.cells (x : Lab) : Array Value := #[.string x.name, .string x.value]
/-- A slice of labels that is read. -/
def LabsIn (B : Nat) (w : World) (A : Option Addr) (ls : List Lab) : Prop := RdIn B w 2 A (ls.map Lab.cells)
section
variable {B B' : Nat} {w w' : World} {A : Option Addr} {ls : List Lab}
theorem LabsIn.at_ (h : LabsIn B w A ls) (k : Nat) (hk : k < ls.length) : ∃ b o, A = some ⟨b, o, none⟩ ∧ b < B ∧ w.cell? ⟨b, o + k * 2, none⟩ = some (.string (ls[k]).name) ∧ w.cell? ⟨b, o + k * 2 + 1, none⟩ = some (.string (ls[k]).value) := by
  obtain ⟨b, o, h1, h2, h3⟩ := h k (by simpa using hk)
  refine ⟨b, o, h1, h2, ?_, ?_⟩
  · have := h3 0 (by omega)
    simpa [Lab.cells] using this
  · have := h3 1 (by omega)
    simpa [Lab.cells] using this
theorem LabsIn.mono (h : LabsIn B w A ls) (hB : B ≤ B') : LabsIn B' w A ls := RdIn.mono h hB
theorem LabsIn.same (h : LabsIn B w A ls) (hc : ∀ b, b < B → w'.heap[b]? = w.heap[b]?) : LabsIn B w' A ls := RdIn.same h hc
theorem LabsIn.below (h : LabsIn B w A ls) (hb : Below B w w') : LabsIn B w' A ls := RdIn.below h hb
theorem LabsIn.drewN (h : LabsIn B w A ls) (n : Nat) : LabsIn B (w.drewN n) A ls := RdIn.drewN h n
theorem LabsIn.alloc (h : LabsIn B w A ls) (hB : B ≤ w.heap.size) (o : Obj) : LabsIn B (w.alloc o) A ls := RdIn.alloc h hB o
theorem LabsIn.nil (B : Nat) (w : World) (A : Option Addr) : LabsIn B w A [] := RdIn.nil B w 2 A
end
theorem drop_cons {α : Type} {l : List α} {k : Nat} (h : k < l.length) : l.drop k = l[k] :: l.drop (k + 1) := List.drop_eq_getElem_cons h
/-- The world is the old one; some orders have been drawn. -/
structure Drw (w w' : World) : Prop where mk :: (out : ∃ n, w' = w.drewN n)
theorem Drw.refl (w : World) : Drw w w := ⟨0, rfl⟩
theorem Drw.step {w w' : World} (h : Drw w w') (n : Nat) : Drw w (w'.drewN n) := by
  obtain ⟨m, rfl⟩ := h
  exact ⟨m + n, World.drewN_drewN _ _ _⟩
theorem Drw.trans {w w' w'' : World} (h : Drw w w') (h' : Drw w' w'') : Drw w w'' := by
  obtain ⟨m, rfl⟩ := h'
  exact h.step m
theorem Drw.below {w w' : World} (h : Drw w w') : Below w.heap.size w w' := by
  obtain ⟨n, rfl⟩ := h
  exact bN (Below.refl _ _) n
theorem str_ne {s : ByteArray} (h : s.size ≠ 0) : (s.toList == ([] : List UInt8)) = false := by
  rw [beq_eq_false_iff_ne, toList_bs]
  intro e
  have : (bs s).length = 0 := by rw [e]; rfl
  rw [bs_length] at this
  exact h this
theorem str_eq {s : ByteArray} (h : s.size = 0) : (s.toList == ([] : List UInt8)) = true := by
  rw [beq_iff_eq, toList_bs]
  exact List.eq_nil_of_length_eq_zero (by rw [bs_length]; exact h)
theorem below_round {w wr : World} (h : Below w.heap.size w wr) (o : Obj) (n : Nat) : Below w.heap.size w ((wr.alloc o).drewN n) := bN (h.alloc h.size o) n
theorem at_alloc {wr : World} {b o : Nat} {v : Value} (h : wr.cell? ⟨b, o, none⟩ = some v) (hb : b < wr.heap.size) (x : Obj) : (wr.alloc x).cell? ⟨b, o, none⟩ = some v := (World.cell?_alloc_lt wr x ⟨b, o, none⟩ hb).trans h
end Go.Proofs.YthckgmbadmilfaaGreat

namespace Go.Proofs.YthckgmbadmilfaaGreat
open Go.RowKit

def Mt.cells (x : Mt) : Array Value := #[.int .i64 x.kind, .string x.name, .string x.value]
/-- A slice of matchers that is read. -/
def MtsIn (B : Nat) (w : World) (A : Option Addr) (ms : List Mt) : Prop := RdIn B w 3 A (ms.map Mt.cells)
section
variable {B B' : Nat} {w w' : World} {A : Option Addr} {ms : List Mt}
theorem MtsIn.at_ (h : MtsIn B w A ms) (k : Nat) (hk : k < ms.length) : ∃ b o, A = some ⟨b, o, none⟩ ∧ b < B ∧ w.cell? ⟨b, o + k * 3, none⟩ = some (.int .i64 (ms[k]).kind) ∧
    w.cell? ⟨b, o + k * 3 + 1, none⟩ = some (.string (ms[k]).name) ∧ w.cell? ⟨b, o + k * 3 + 2, none⟩ = some (.string (ms[k]).value) := by
  obtain ⟨b, o, h1, h2, h3⟩ := h k (by simpa using hk)
  refine ⟨b, o, h1, h2, ?_, ?_, ?_⟩
  · have := h3 0 (by omega)
    simpa [Mt.cells] using this
  · have := h3 1 (by omega)
    simpa [Mt.cells] using this
  · have := h3 2 (by omega)
    simpa [Mt.cells] using this
theorem MtsIn.mono (h : MtsIn B w A ms) (hB : B ≤ B') : MtsIn B' w A ms := RdIn.mono h hB
theorem MtsIn.same (h : MtsIn B w A ms) (hc : ∀ b, b < B → w'.heap[b]? = w.heap[b]?) : MtsIn B w' A ms := RdIn.same h hc
theorem MtsIn.below (h : MtsIn B w A ms) (hb : Below B w w') : MtsIn B w' A ms := RdIn.below h hb
theorem MtsIn.up (h : MtsIn B w A ms) (hb : Below B w w') (hB : B ≤ B') : MtsIn B' w' A ms := (h.below hb).mono hB
theorem MtsIn.drewN (h : MtsIn B w A ms) (n : Nat) : MtsIn B (w.drewN n) A ms := RdIn.drewN h n
theorem MtsIn.alloc (h : MtsIn B w A ms) (hB : B ≤ w.heap.size) (o : Obj) : MtsIn B (w.alloc o) A ms := RdIn.alloc h hB o
theorem MtsIn.nil (B : Nat) (w : World) (A : Option Addr) : MtsIn B w A [] := RdIn.nil B w 3 A
end
end Go.Proofs.YthckgmbadmilfaaGreat

namespace Go.Proofs.YthckgmbadmilfaaGreat
open Go.RowKit

theorem size_mt : (Tryz.prog.info? 39).map (·.size) = some 3 := by kernel_rfl
theorem results_rowM {P : Program} {fn : Func} {p : Tmp} {ty : TypeId} (h : fn.results = #[.cell p ty]) (tmps : Array Value) (w : World) (g : Nat) (t : TypeId) (cs : Array Value) (d : TypeDesc)
    (hp : tmps.getD p undef = .pointer (some ⟨g, 0, none⟩)) (hg : At w g cs t) (hu : P.underlying ty = some d) (hd : (match d with | .struct _ | .array _ _ => true | _ => false) = true) (hi : (P.info? ty).map (·.size) = some cs.size) :
    (results fn tmps).run P w = .ok (.agg cs) w := by
  rw [Array.getD_eq_getD_getElem?] at hp
  simp [results, h, hp, asAddr, run_loadVar_row w g t ty cs (0, 0) d hg.out hu hd hi]
theorem results_row_tmpM {P : Program} {fn : Func} {p q : Tmp} {ty : TypeId} (h : fn.results = #[.cell p ty, .tmp q]) (tmps : Array Value) (w : World) (g : Nat) (t : TypeId) (cs : Array Value) (d : TypeDesc)
    (hp : tmps.getD p undef = .pointer (some ⟨g, 0, none⟩)) (hg : At w g cs t) (hu : P.underlying ty = some d) (hd : (match d with | .struct _ | .array _ _ => true | _ => false) = true) (hi : (P.info? ty).map (·.size) = some cs.size) :
    (results fn tmps).run P w = .ok (.tuple #[.agg cs, tmps.getD q undef]) w := by
  rw [Array.getD_eq_getD_getElem?] at hp ⊢
  simp [results, h, hp, asAddr, run_loadVar_row w g t ty cs (0, 0) d hg.out hu hd hi]
theorem At.set3 {W : World} {b : Nat} {x y z x' y' z' : Value} {t : TypeId} (h : At W b #[x, y, z] t) : At (((W.setCell ⟨b, 0, none⟩ x').setCell ⟨b, 1, none⟩ y').setCell ⟨b, 2, none⟩ z') b #[x', y', z'] t := ((h.set 0 x').set 1 y').set 2 z'
theorem below_set3 {B b : Nat} {w W : World} {x' y' z' : Value} (h : Below B w W) (hb : B ≤ b) : Below B w (((W.setCell ⟨b, 0, none⟩ x').setCell ⟨b, 1, none⟩ y').setCell ⟨b, 2, none⟩ z') :=
  ((h.setCell (p := ⟨b, 0, none⟩) hb _).setCell (p := ⟨b, 1, none⟩) hb _).setCell (p := ⟨b, 2, none⟩) hb _
theorem At.other3 {W : World} {b g : Nat} {cs : Array Value} {x' y' z' : Value} {t : TypeId} (h : At W g cs t) (hne : g ≠ b) : At (((W.setCell ⟨b, 0, none⟩ x').setCell ⟨b, 1, none⟩ y').setCell ⟨b, 2, none⟩ z') g cs t :=
  ((h.other (a := ⟨b, 0, none⟩) _ hne).other (a := ⟨b, 1, none⟩) _ hne).other (a := ⟨b, 2, none⟩) _ hne
end Go.Proofs.YthckgmbadmilfaaGreat

namespace Go.Proofs.YthckgmbadmilfaaGreat
open Go.RowKit

section
variable {P : Program} (w : World)
theorem run_append_where (t ty e : TypeId) (i : TypeInfo) (z : Value) (size bytes : Nat) (ht : P.underlying t = some (.slice e)) (hi : P.info? e = some i) (hz : i.zero = some z)
    (hsize : i.size = size) (hby : i.bytes = bytes) (hzs : z.cells.size = size) (hsz : 0 < size)
    (v : Value) (n : Nat) (xs : List Value) (hown : w.ownsRow 0 e size v n xs)
    (a : Addr) (m c : Nat) (news : List Value) (hm : 0 < m) (hl : news.length = m * size) (hnews : ∀ j u, news[j]? = some u → w.cell? (a.add j) = some u) (h1 : ∀ u ∈ news, u.oneCell' = true)
    (h63 : n + m ≤ maxLen) (hbytes : (n + m) * bytes ≤ 140737488355328) :
    ∃ v' w', (Builtin.append_ #[t, t] ty #[v, .slice (some a) m c]).run P w = .ok v' w' ∧ w'.ownsRow 0 e size v' (n + m) (xs ++ news) ∧ w.grownBy w' v.ownBlock ∧
      (v'.ownBlock = v.ownBlock ∨ v'.ownBlock = some w.heap.size) := by
  obtain ⟨v', w', hr, h2, h3, _⟩ := run_append_own (P := P) w 0 t ty e i z size bytes ht hi hz hsize hby hzs hsz v n xs hown a m c news hl hnews h1 h63 hbytes (Nat.zero_le _)
  refine ⟨v', w', hr, h2, h3, ?_⟩
  have hlim : n + m ≤ 9223372036854775807 := by simp only [maxLen] at h63; omega
  rcases hown.2 with ⟨rfl, rfl⟩ | ⟨g, cap, cur, rfl, _, hg, hnc, hcm, hcs, htake⟩
  · have hr2 := run_append_nil (P := P) w t ty e i z ht hi hz a m c news (by rw [hsize]; exact hl) hnews hm (by omega) (by rw [hby]; simp only [Nat.zero_add] at hbytes; omega)
    rw [hr2] at hr
    injection hr with e1 _
    subst e1
    exact .inr rfl
  · by_cases hroom : n + m ≤ cap
    · have hr2 := run_append_room (P := P) w t ty e i ht hi g n cap cur hg a m c news (by rw [hsize]; exact hl) hnews h1 hroom (by rw [hsize, hl, hcs, ← Nat.add_mul]; exact Nat.mul_le_mul_right _ hroom)
      rw [hr2] at hr
      injection hr with e1 _
      subst e1
      exact .inl rfl
    · have hr2 := run_append_grow (P := P) w t ty e i z ht hi hz ⟨g, 0, none⟩ n cap xs (by rw [hsize]; exact hown.1) (hown.cells (g := g) rfl) a m c news (by rw [hsize]; exact hl) hnews (by omega) (by omega) (by rw [hby]; exact growslice_fits (by omega) hbytes)
      rw [hr2] at hr
      injection hr with e1 _
      subst e1
      exact .inr rfl

theorem wpList_append_where {ops : Array Oper} {rest : List Oper} {o : Oper} {a : Act} {Q : Exit → Act → World → Prop} (hgd : o.guard = none) (s x : Operand) (t : TypeId)
    (ho : o.op = .call { callee := .builtin .append, args := #[s, x], argTypes := #[t, t] })
    (e : TypeId) (i : TypeInfo) (z : Value) (size bytes : Nat) (ht : P.underlying t = some (.slice e)) (hi : P.info? e = some i) (hz : i.zero = some z)
    (hsize : i.size = size) (hby : i.bytes = bytes) (hzs : z.cells.size = size) (hsz : 0 < size)
    (v : Value) (n : Nat) (xs : List Value) (hs : a.eval s = v) (hown : w.ownsRow 0 e size v n xs)
    (ad : Addr) (m c : Nat) (news : List Value) (hx : a.eval x = .slice (some ad) m c) (hm : 0 < m) (hl : news.length = m * size) (hnews : ∀ j u, news[j]? = some u → w.cell? (ad.add j) = some u) (h1 : ∀ u ∈ news, u.oneCell' = true)
    (h63 : n + m ≤ maxLen) (hbytes : (n + m) * bytes ≤ 140737488355328)
    (h : ∀ v' w', w'.ownsRow 0 e size v' (n + m) (xs ++ news) → w.grownBy w' v.ownBlock → (v'.ownBlock = v.ownBlock ∨ v'.ownBlock = some w.heap.size) → wpList P ops Q rest (a.put o.dst v') w') : wpList P ops Q (o :: rest) a w := by
  refine wpList_plain hgd fun K hK => ?_
  obtain ⟨v', w', hr, h2, h3, h4⟩ := run_append_where (P := P) w t o.type e i z size bytes ht hi hz hsize hby hzs hsz v n xs hown ad m c news hm hl hnews h1 h63 hbytes
  unfold Oper.wp execOp
  simp only [ho, resolve, invoke, builtin, Sem.run_bind, Sem.run_pure, Result.andThen_ok, List.map_toArray, List.map_cons, List.map_nil, hs, hx, hr]
  exact hK _ _ (h v' w' h2 h3 h4)
end
end Go.Proofs.YthckgmbadmilfaaGreat
