/- Words on memory that all walks of this seat use: blocks that are kept, blocks that hold given cells, strings as lists of bytes. The parser's walks: peek, skip. The parser's walks: the classes of bytes, where. The parser's walks: the closure of a class, where over it, plainByte. How a tree lies in memory. The parser's walks: escape. The parser's walks: item, isRange. The parser's walks: bracket. append on a slice of the call's own, with what becomes of its block: it stays, or it is new. DERIVED: THE SHELF's CONTRACTS AT THIS DUMP, IN PLAIN WORDS (tools/lay-plain.mjs out of 'TryShelf.lean', which tools/lay-shelf.mjs wrote): THE SAME DECLARATIONS UNDER THE SAME NAMES: 'import', 'namespace', 'open', 'def', 'theorem' AND NOTHING ELSE: no command of the shelf's: FOR A HAND-IN. Each laying: the table of numbers ('.._ren') and one theorem, a field a fact of the dump's own or the kernel's comparison; each contract: ONE APPLICATION. The parser's walks: atom, factor. The parser's walks: factor. -/
import Derived.Test.YtheblleadjbndaaRows
import Derived.WalkKit
import Derived.WalkSpells
import Derived.Deep.WholeRow
import Derived.Deep.LoopGhost
import Derived.Deep.QuietTactic
import Derived.BigQuiet
import Derived.Deep.DeepCutAuto
import Derived.Lib.Hide
import Derived.Laws.IdiomStrings
import Derived.RegionTactic
import Derived.ChangeAlike
import Derived.Outline
import Derived.Deep.RegionWith
import Derived.Laws.BytesArg
import Derived.StillTailTactics
import Derived.Test.YtheblleadjbndaaKaA
import Derived.IntWalk
import Derived.Shelf.Small.Strs
import Derived.Shelf.Strings.Search1
import Derived.Shelf.Strings.Prefix
import Derived.Test.YtheblleadjbndaaProg
import Derived.Test.YtheblleadjbndaaKaB
namespace Go.Proofs.Ytheblleadjbndaa
open Go.RowKit

/-! ### Strings -/
def bs (s : ByteArray) : List UInt8 := s.data.toList
def str (l : List UInt8) : ByteArray := ⟨l.toArray⟩
theorem bs_length (s : ByteArray) : (bs s).length = s.size := rfl
theorem str_size (l : List UInt8) : (str l).size = l.length := rfl
theorem bs_str (l : List UInt8) : bs (str l) = l := rfl
theorem str_bs (s : ByteArray) : str (bs s) = s := rfl
theorem bs_get (s : ByteArray) (k : Nat) (h : k < s.size) : (bs s)[k]'h = s[k] := rfl

/-! ### Blocks -/
/-- Block b holds these cells of an array of type t. -/
structure At (W : World) (b : Nat) (c : Array Value) (t : TypeId) : Prop where mk :: (out : W.heap[b]? = some (.cells c t (0, 0)))
theorem At.lt {W : World} {b : Nat} {c : Array Value} {t : TypeId} (h : At W b c t) : b < W.heap.size := (Array.getElem?_eq_some_iff.1 h.out).1
theorem At.cell {W : World} {b : Nat} {c : Array Value} {t : TypeId} (h : At W b c t) (i : Nat) : W.cell? ⟨b, i, none⟩ = c[i]? := cell_of_row W b i c t (0, 0) h.out
theorem At.free {W : World} {b : Nat} {c : Array Value} {t : TypeId} (h : At W b c t) (i : Nat) : W.frozen? ⟨b, i, none⟩ = false := by simp [World.frozen?, h.out]
theorem At.new (W : World) (c : Array Value) (t : TypeId) : At (W.alloc (.cells c t)) W.heap.size c t := ⟨heap_alloc_new _ _⟩
theorem At.alloc {W : World} {b : Nat} {c : Array Value} {t : TypeId} (h : At W b c t) (o : Obj) : At (W.alloc o) b c t := ⟨by rw [Below.heap_alloc _ _ _ h.lt]; exact h.out⟩
theorem At.below {W W1 : World} {b : Nat} {c : Array Value} {t : TypeId} (h : At W b c t) (hb : Below W.heap.size W W1) : At W1 b c t := ⟨by rw [hb.block b h.lt]; exact h.out⟩
theorem At.set {W : World} {b : Nat} {c : Array Value} {t : TypeId} (h : At W b c t) (i : Nat) (v : Value) : At (W.setCell ⟨b, i, none⟩ v) b (c.setIfInBounds i v) t := ⟨heap_setCell_same W b i c t v h.out⟩
theorem At.other {W : World} {b : Nat} {c : Array Value} {t : TypeId} (h : At W b c t) {a : Addr} (v : Value) (hne : b ≠ a.block) : At (W.setCell a v) b c t := ⟨by rw [heap_setCell_other W a b v hne]; exact h.out⟩
theorem At.drew {W : World} {b : Nat} {c : Array Value} {t : TypeId} (h : At W b c t) : At W.drew b c t := ⟨h.out⟩
theorem At.drewN {W : World} {b : Nat} {c : Array Value} {t : TypeId} (h : At W b c t) (n : Nat) : At (W.drewN n) b c t := ⟨h.out⟩
theorem At.grown {W W1 : World} {b : Nat} {c : Array Value} {t : TypeId} {row : Option Nat} (h : At W b c t) (hg : W.grownBy W1 row) (hne : row ≠ some b) : At W1 b c t :=
  ⟨by rw [hg.block b h.lt (fun e => hne e.symm)]; exact h.out⟩

theorem bt {w w1 w2 : World} (h1 : Below w.heap.size w w1) (h2 : Below w1.heap.size w1 w2) : Below w.heap.size w w2 := h1.trans (h2.mono h1.size)
theorem bN {B : Nat} {w W : World} (h : Below B w W) (n : Nat) : Below B w (W.drewN n) := ⟨h.os, h.tape, h.output, h.size, h.block⟩
theorem bD {B : Nat} {w W : World} (h : Below B w.drew W) : Below B w W := ⟨h.os, h.tape, h.output, h.size, h.block⟩

/-- All blocks but one are kept. -/
structure Keep (p : Nat) (w w' : World) : Prop where
  os : w'.os = w.os
  tape : w'.tape = w.tape
  output : w'.output = w.output
  size : w.heap.size ≤ w'.heap.size
  block : ∀ k, k < w.heap.size → k ≠ p → w'.heap[k]? = w.heap[k]?
theorem Keep.refl (p : Nat) (w : World) : Keep p w w := ⟨rfl, rfl, rfl, Nat.le_refl _, fun _ _ _ => rfl⟩
theorem Keep.trans {p : Nat} {a b c : World} (h : Keep p a b) (k : Keep p b c) : Keep p a c :=
  ⟨k.os.trans h.os, k.tape.trans h.tape, k.output.trans h.output, Nat.le_trans h.size k.size, fun i hi hne => (k.block i (Nat.lt_of_lt_of_le hi h.size) hne).trans (h.block i hi hne)⟩
theorem Keep.drew {p : Nat} {a w : World} (h : Keep p a w) : Keep p a w.drew := ⟨h.os, h.tape, h.output, h.size, h.block⟩
theorem Keep.drewN {p : Nat} {a w : World} (h : Keep p a w) (n : Nat) : Keep p a (w.drewN n) := ⟨h.os, h.tape, h.output, h.size, h.block⟩
theorem Keep.ofDrew {p : Nat} {a w : World} (h : Keep p a.drew w) : Keep p a w := ⟨h.os, h.tape, h.output, h.size, h.block⟩
theorem Keep.below {p : Nat} {a b : World} (h : Below a.heap.size a b) : Keep p a b := ⟨h.os, h.tape, h.output, h.size, fun k hk _ => h.block k hk⟩
theorem Keep.alloc {p : Nat} {a w : World} (h : Keep p a w) (o : Obj) : Keep p a (w.alloc o) := h.trans (Keep.below ((Below.refl _ _).alloc (Nat.le_refl _) o))
theorem Keep.set {p : Nat} {a w : World} (h : Keep p a w) (i : Nat) (v : Value) : Keep p a (w.setCell ⟨p, i, none⟩ v) :=
  ⟨h.os, h.tape, h.output, by simpa using h.size, fun k hk hne => by rw [Below.heap_setCell w ⟨p, i, none⟩ v k hne]; exact h.block k hk hne⟩
/-- A store into a block that is new. -/
theorem Keep.setNew {p : Nat} {a w : World} (h : Keep p a w) (b i : Nat) (hb : a.heap.size ≤ b) (v : Value) : Keep p a (w.setCell ⟨b, i, none⟩ v) :=
  ⟨h.os, h.tape, h.output, by simpa using h.size, fun k hk hne => by rw [Below.heap_setCell w ⟨b, i, none⟩ v k (by show k ≠ b; omega)]; exact h.block k hk hne⟩
theorem Keep.toBelow {p : Nat} {a w : World} (h : Keep p a w) {B : Nat} (h1 : B ≤ p) (h2 : B ≤ a.heap.size) : Below B a w := ⟨h.os, h.tape, h.output, h.size, fun k hk => h.block k (by omega) (by omega)⟩
theorem At.keep {p : Nat} {W W1 : World} {b : Nat} {c : Array Value} {t : TypeId} (h : At W b c t) (hk : Keep p W W1) (hne : b ≠ p) : At W1 b c t := ⟨by rw [hk.block b h.lt hne]; exact h.out⟩
theorem Keep.grown {p : Nat} {a w w' : World} {row : Option Nat} (h : Keep p a w) (hg : w.grownBy w' row) (hr : ∀ k, row = some k → a.heap.size ≤ k ∨ k = p) : Keep p a w' :=
  ⟨hg.os.trans h.os, hg.tape.trans h.tape, hg.output.trans h.output, Nat.le_trans h.size hg.size, fun k hk hne =>
    (hg.block k (Nat.lt_of_lt_of_le hk h.size) (fun e => by rcases hr k e.symm with h1 | h1 <;> omega)).trans (h.block k hk hne)⟩

theorem ret_int {k : IntKind} {a b : Int} (h : a = b) : Ending.returned (.int k a) = .returned (.int k b) := by rw [h]
theorem ret_bool {a b : Bool} (h : a = b) : Ending.returned (.bool a) = .returned (.bool b) := by rw [h]
theorem ret_str {a b : ByteArray} (h : a = b) : Ending.returned (.string a) = .returned (.string b) := by rw [h]
end Go.Proofs.Ytheblleadjbndaa

namespace Go.Proofs.Ytheblleadjbndaa
open Go.RowKit

/-- The parser in block p reads the string s; l is what lies ahead. -/
structure PS (W : World) (p : Nat) (s : ByteArray) (l : List UInt8) : Prop where
  le : l.length ≤ s.size
  rest : (bs s).drop (s.size - l.length) = l
  at_ : At W p #[.string s, .int .i64 ((s.size - l.length : Nat) : Int)] 62
theorem PS.keep {W W1 : World} {p : Nat} {s : ByteArray} {l : List UInt8} (h : PS W p s l) (h1 : At W1 p #[.string s, .int .i64 ((s.size - l.length : Nat) : Int)] 62) : PS W1 p s l := ⟨h.le, h.rest, h1⟩
theorem PS.get {W : World} {p : Nat} {s : ByteArray} {c : UInt8} {r : List UInt8} (h : PS W p s (c :: r)) (hlt : s.size - (c :: r).length < s.size) : s[s.size - (c :: r).length] = c := by
  have h1 := h.rest
  have h2 : (bs s)[s.size - (c :: r).length]'hlt = c := by
    have := congrArg (fun l => l[0]?) h1
    simp only [List.getElem?_drop, List.getElem?_cons_zero, Nat.add_zero] at this
    exact Option.some.inj ((List.getElem?_eq_getElem (l := bs s) hlt).symm.trans this)
  exact h2
theorem PS.next {W : World} {p : Nat} {s : ByteArray} {c : UInt8} {r : List UInt8} (h : PS W p s (c :: r)) : (bs s).drop (s.size - r.length) = r ∧ r.length ≤ s.size ∧ s.size - r.length = s.size - (c :: r).length + 1 := by
  have h1 := h.rest
  have h2 := h.le
  simp only [List.length_cons] at h1 h2 ⊢
  have e : s.size - r.length = s.size - (r.length + 1) + 1 := by omega
  refine ⟨?_, by omega, e⟩
  rw [e, ← List.drop_drop, h1]; rfl

theorem PS.end_ {W : World} {p : Nat} {s : ByteArray} (h : PS W p s []) : W.cell? ⟨p, 1, none⟩ = some (.int .i64 s.size) := by
  rw [h.at_.cell 1]; rfl

set_option maxHeartbeats 400000 in
theorem peek_end (W : World) (p : Nat) (s : ByteArray) (h : PS W p s []) :
    Calls Try.prog 58 #[.pointer (some ⟨p, 0, none⟩)] W fun e w' => e = .returned (.tuple #[.int .u8 0, .bool false]) ∧ ∃ n, w' = W.drewN n := by
  have c0 : W.cell? ⟨p, 0, none⟩ = some (.string s) := h.at_.cell 0
  have c1 := h.end_
  go_enter Try.func58, Try.ntmps58
  go_wp2_with fail
  go_quiet (fail)
  go_wp2_with fail
  go_ret2
  exact ⟨rfl, _, rfl⟩

set_option maxHeartbeats 400000 in
theorem peek_in (W : World) (p : Nat) (s : ByteArray) (c : UInt8) (r : List UInt8) (h : PS W p s (c :: r)) :
    Calls Try.prog 58 #[.pointer (some ⟨p, 0, none⟩)] W fun e w' => e = .returned (.tuple #[.int .u8 c.toNat, .bool true]) ∧ ∃ n, w' = W.drewN n := by
  have c0 : W.cell? ⟨p, 0, none⟩ = some (.string s) := h.at_.cell 0
  have c1 : W.cell? ⟨p, 1, none⟩ = some (.int .i64 ((s.size - (c :: r).length : Nat) : Int)) := h.at_.cell 1
  have hle := h.le
  have hlt : s.size - (c :: r).length < s.size := by simp only [List.length_cons] at hle ⊢; omega
  have hg := h.get hlt
  have d1 : ((((s.size - (c :: r).length : Nat) : Int)) == ((s.size : Nat) : Int)) = false := by rw [beq_eq_false_iff_ne]; omega
  clear h hle
  generalize s.size - (c :: r).length = k at *
  go_enter Try.func58, Try.ntmps58
  go_wp2_with fail
  go_quiet (fail)
  go_wp2_with fail
  go_quiet (fail)
  go_wp2_with fail
  go_ret2
  exact ⟨rfl, _, World.drewN_drewN _ _ _⟩

theorem PS.bump {W : World} {p : Nat} {s : ByteArray} {c : UInt8} {r : List UInt8} (h : PS W p s (c :: r)) (n : Nat) (k : Int) (hk : k = ((s.size - r.length : Nat) : Int)) : PS ((W.drewN n).setCell ⟨p, 1, none⟩ (.int .i64 k)) p s r := by
  subst hk
  exact ⟨h.next.2.1, h.next.1, (h.at_.drewN n).set 1 _⟩

set_option maxHeartbeats 400000 in
theorem skip_end (W : World) (p : Nat) (s : ByteArray) (k : Int) (h : PS W p s []) :
    Calls Try.prog 50 #[.pointer (some ⟨p, 0, none⟩), .int .u8 k] W fun e w' => e = .returned (.bool false) ∧ ∃ n, w' = W.drewN n := by
  have c0 : W.cell? ⟨p, 0, none⟩ = some (.string s) := h.at_.cell 0
  have c1 := h.end_
  go_enter Try.func50, Try.ntmps50
  go_wp2_with fail
  go_quiet (fail)
  go_wp2_with fail
  go_ret
  exact ⟨rfl, _, rfl⟩

set_option maxHeartbeats 400000 in
theorem skip_no (W : World) (p : Nat) (s : ByteArray) (k : Int) (c : UInt8) (r : List UInt8) (h : PS W p s (c :: r)) (hne : (c.toNat : Int) ≠ k) :
    Calls Try.prog 50 #[.pointer (some ⟨p, 0, none⟩), .int .u8 k] W fun e w' => e = .returned (.bool false) ∧ ∃ n, w' = W.drewN n := by
  have c0 : W.cell? ⟨p, 0, none⟩ = some (.string s) := h.at_.cell 0
  have c1 : W.cell? ⟨p, 1, none⟩ = some (.int .i64 ((s.size - (c :: r).length : Nat) : Int)) := h.at_.cell 1
  have hle := h.le
  have hlt : s.size - (c :: r).length < s.size := by simp only [List.length_cons] at hle ⊢; omega
  have hg := h.get hlt
  have d1 : ((((s.size - (c :: r).length : Nat) : Int)) == ((s.size : Nat) : Int)) = false := by rw [beq_eq_false_iff_ne]; omega
  have d2 : ((c.toNat : Int) != k) = true := bne_iff_ne.2 hne
  have d3 : ((c.toNat : Int) == k) = false := beq_eq_false_iff_ne.2 hne
  clear h hle hne
  generalize s.size - (c :: r).length = j at *
  go_enter Try.func50, Try.ntmps50
  go_wp2_with fail
  go_quiet (fail)
  go_wp2_with fail
  go_ret
  exact ⟨rfl, _, rfl⟩

set_option maxHeartbeats 400000 in
theorem skip_yes (W : World) (p : Nat) (s : ByteArray) (k : Int) (c : UInt8) (r : List UInt8) (hs : s.size ≤ 1000) (h : PS W p s (c :: r)) (he : (c.toNat : Int) = k) :
    Calls Try.prog 50 #[.pointer (some ⟨p, 0, none⟩), .int .u8 k] W fun e w' => e = .returned (.bool true) ∧ Keep p W w' ∧ PS w' p s r := by
  have c0 : W.cell? ⟨p, 0, none⟩ = some (.string s) := h.at_.cell 0
  have c1 : W.cell? ⟨p, 1, none⟩ = some (.int .i64 ((s.size - (c :: r).length : Nat) : Int)) := h.at_.cell 1
  have c2 := h.at_.free 1
  have hle := h.le
  have hlt : s.size - (c :: r).length < s.size := by simp only [List.length_cons] at hle ⊢; omega
  have hg := h.get hlt
  have d1 : ((((s.size - (c :: r).length : Nat) : Int)) == ((s.size : Nat) : Int)) = false := by rw [beq_eq_false_iff_ne]; omega
  have d2 : ((c.toNat : Int) != k) = false := bne_eq_false_iff_eq.2 he
  have d3 : ((c.toNat : Int) == k) = true := beq_iff_eq.2 he
  have hb : ((s.size - (c :: r).length : Nat) : Int) + 1 = ((s.size - r.length : Nat) : Int) := by rw [h.next.2.2]; omega
  have HB := Lib.hid hb
  have HP := Lib.hid h
  clear h hle he hb
  generalize s.size - (c :: r).length = j at *
  go_enter Try.func50, Try.ntmps50
  go_wp2_with fail
  go_quiet (fail)
  go_wp2_with fail
  go_ret
  exact ⟨rfl, ((Keep.refl p W).drewN _).set _ _, HP.out.bump _ _ HB.out⟩
end Go.Proofs.Ytheblleadjbndaa

namespace Go.Proofs.Ytheblleadjbndaa
open Go.RowKit

set_option maxHeartbeats 400000 in
theorem isDigit_any (c : UInt8) (w : World) : Calls Try.prog 77 #[.int .u8 c.toNat] w fun e w' => e = .returned (.bool (digB c)) ∧ w' = w := by
  have h : c.toNat ≤ 47 ∨ (48 ≤ c.toNat ∧ c.toNat ≤ 57) ∨ 58 ≤ c.toNat := by omega
  have HB : Hid (digB c = decide (48 ≤ c.toNat ∧ c.toNat ≤ 57)) := Lib.hid (by unfold digB; simp)
  rcases h with h | ⟨h, h2⟩ | h
  all_goals
    go_enter Try.func77, Try.ntmps77
    go_wp2_with fail
    go_ret
    exact ⟨ret_bool (by rw [HB.out]; rw [Bool.eq_iff_iff]; first | (simp; done) | (simp; omega)), rfl⟩

set_option maxHeartbeats 400000 in
theorem isLetter_any (c : UInt8) (w : World) : Calls Try.prog 79 #[.int .u8 c.toNat] w fun e w' => e = .returned (.bool (letB c)) ∧ w' = w := by
  have h : c.toNat ≤ 64 ∨ (65 ≤ c.toNat ∧ c.toNat ≤ 90) ∨ (91 ≤ c.toNat ∧ c.toNat ≤ 96) ∨ (97 ≤ c.toNat ∧ c.toNat ≤ 122) ∨ 123 ≤ c.toNat := by omega
  have HB : Hid (letB c = decide ((97 ≤ c.toNat ∧ c.toNat ≤ 122) ∨ (65 ≤ c.toNat ∧ c.toNat ≤ 90))) := Lib.hid (by unfold letB; simp)
  rcases h with h | ⟨h, h2⟩ | ⟨h, h2⟩ | ⟨h, h2⟩ | h
  all_goals
    go_enter Try.func79, Try.ntmps79
    go_wp2_with fail
    go_ret
    exact ⟨ret_bool (by rw [HB.out]; rw [Bool.eq_iff_iff]; first | (simp; done) | (simp; omega)), rfl⟩

set_option maxHeartbeats 400000 in
theorem word_any (c : UInt8) (w : World) : Calls Try.prog 78 #[.int .u8 c.toNat] w fun e w' => e = .returned (.bool (wordB c)) ∧ w' = w := by
  have HB : Hid (wordB c = ((letB c || digB c) || decide (c.toNat = 95))) := Lib.hid rfl
  rcases h1 : letB c
  · rcases h2 : digB c
    · by_cases h3 : c.toNat = 95
      · have d1 : ((c.toNat : Int) == 95) = true := by rw [h3]; rfl
        rw [h1, h2] at HB
        have H1 := Lib.hid h1
        have H2 := Lib.hid h2
        have H3 := Lib.hid h3
        clear h1 h2 h3
        go_enter Try.func78, Try.ntmps78
        go_wp2_with fail
        refine (isLetter_any _ _).mono ?_
        rintro e w' ⟨rfl, rfl⟩
        rw [H1.out]
        go_wp2_with fail
        refine (isDigit_any _ _).mono ?_
        rintro e w' ⟨rfl, rfl⟩
        rw [H2.out]
        go_wp2_with fail
        go_ret
        exact ⟨ret_bool (by rw [HB.out, H3.out]; rfl), rfl⟩
      · have d1 : ((c.toNat : Int) == 95) = false := by rw [beq_eq_false_iff_ne]; omega
        rw [h1, h2] at HB
        have H1 := Lib.hid h1
        have H2 := Lib.hid h2
        have H3 := Lib.hid h3
        clear h1 h2 h3
        go_enter Try.func78, Try.ntmps78
        go_wp2_with fail
        refine (isLetter_any _ _).mono ?_
        rintro e w' ⟨rfl, rfl⟩
        rw [H1.out]
        go_wp2_with fail
        refine (isDigit_any _ _).mono ?_
        rintro e w' ⟨rfl, rfl⟩
        rw [H2.out]
        go_wp2_with fail
        go_ret
        exact ⟨ret_bool (by rw [HB.out]; simp [H3.out]), rfl⟩
    · rw [h1, h2] at HB
      have H1 := Lib.hid h1
      have H2 := Lib.hid h2
      clear h1 h2
      go_enter Try.func78, Try.ntmps78
      go_wp2_with fail
      refine (isLetter_any _ _).mono ?_
      rintro e w' ⟨rfl, rfl⟩
      rw [H1.out]
      go_wp2_with fail
      refine (isDigit_any _ _).mono ?_
      rintro e w' ⟨rfl, rfl⟩
      rw [H2.out]
      go_wp2_with fail
      go_ret
      exact ⟨ret_bool (by rw [HB.out]; rfl), rfl⟩
  · rw [h1] at HB
    have H1 := Lib.hid h1
    clear h1
    go_enter Try.func78, Try.ntmps78
    go_wp2_with fail
    refine (isLetter_any _ _).mono ?_
    rintro e w' ⟨rfl, rfl⟩
    rw [H1.out]
    go_wp2_with fail
    go_ret
    exact ⟨ret_bool (by rw [HB.out]; simp), rfl⟩
theorem all_any (c : UInt8) (w : World) : Calls Try.prog 71 #[.int .u8 c.toNat] w fun e w' => e = .returned (.bool true) ∧ w' = w := by
  go_enter Try.func71, Try.ntmps71
  go_wp2_with fail
  go_ret
  exact ⟨rfl, rfl⟩

/-- An array of 256 bools, the first k of them filled. -/
def btab (f : UInt8 → Bool) (k : Nat) : Array Value := Array.ofFn (n := 256) fun i => .bool (if i.val < k then f (UInt8.ofNat i.val) else false)
theorem btab_size (f : UInt8 → Bool) (k : Nat) : (btab f k).size = 256 := by simp [btab]
theorem btab_get (f : UInt8 → Bool) (k i : Nat) (h : i < 256) : (btab f k)[i]? = some (.bool (if i < k then f (UInt8.ofNat i) else false)) := by
  unfold btab
  rw [Array.getElem?_ofFn, dif_pos h]
theorem btab_set (f : UInt8 → Bool) (k : Nat) (h : k < 256) : (btab f k).setIfInBounds k (.bool (f (UInt8.ofNat k))) = btab f (k + 1) := by
  apply Array.ext_getElem?
  intro i
  rw [Array.getElem?_setIfInBounds]
  by_cases e : k = i
  · subst e
    rw [if_pos rfl, if_pos (by rw [btab_size]; exact h), btab_get f _ k h, if_pos (by omega)]
  · rw [if_neg e]
    by_cases hi : i < 256
    · rw [btab_get f _ i hi, btab_get f _ i hi]
      by_cases h2 : i < k
      · rw [if_pos h2, if_pos (by omega)]
      · rw [if_neg h2, if_neg (by omega)]
    · rw [Array.getElem?_eq_none (by rw [btab_size]; omega), Array.getElem?_eq_none (by rw [btab_size]; omega)]
theorem btab_zero (f : UInt8 → Bool) : btab f 0 = Array.replicate 256 (.bool false) := by
  apply Array.ext_getElem?
  intro i
  by_cases h : i < 256
  · rw [btab_get f 0 i h, if_neg (by omega), Array.getElem?_replicate, if_pos h]
  · rw [Array.getElem?_eq_none (by rw [btab_size]; omega), Array.getElem?_eq_none (by simp; omega)]
attribute [irreducible] btab

theorem zero_class : Try.zeroCells102 = Array.replicate 256 (.bool false) := by kernel_rfl
set_option maxRecDepth 100000 in
set_option maxHeartbeats 400000 in
theorem where_any (k : Nat) (f : UInt8 → Bool) (w : World) (hcf : ∀ (c : Int) w1, (callFunc k #[.int .u8 c]).run Try.prog w1 = .ok (.enter k #[.int .u8 c]) w1) (hf : ∀ (c : UInt8) w1, Calls Try.prog k #[.int .u8 c.toNat] w1 fun e w' => e = .returned (.bool (f c)) ∧ w' = w1) :
    Calls Try.prog 70 #[.func (.func k) #[] #[]] w fun e w' => e = .returned (.pointer (some ⟨w.heap.size, 0, none⟩)) ∧ Below w.heap.size w w' ∧ At w' w.heap.size (btab f 256) 102 := by
  go_enter Try.func70, Try.ntmps70
  go_wp2_with fail
  go_loopw [5] (fun i wr => ∃ j : Nat, j ≤ 256 ∧ i = .int .i64 j ∧ At wr w.heap.size (btab f j) 102 ∧ Below w.heap.size w wr) (fun i _ => 256 - (intOf i).toNat)
  case atStart =>
    refine ⟨0, Nat.zero_le _, rfl, ?_, (Below.refl _ _).alloc (Nat.le_refl _) _⟩
    rw [btab_zero, ← zero_class]
    exact At.new w _ _
  case round =>
    obtain ⟨j, hj, rfl, hat, hbl⟩ := hrel
    by_cases hlt : j < 256
    · have hc : (UInt8.ofNat j).toNat = j := by rw [UInt8.toNat_ofNat']; omega
      have HC := Lib.hid hc
      have g0 := hat.cell j
      rw [btab_get f j j hlt, if_neg (Nat.lt_irrefl _)] at g0
      have g1 := hat.free j
      have HS := Lib.hid (btab_set f j hlt)
      have HA := Lib.hid (hat.set j (.bool (f (UInt8.ofNat j))))
      have HF := Lib.hid (hf (UInt8.ofNat j))
      have HL := Lib.hid hlt
      clear hc
      clear hf

      go_wp2_with fail
      rw [show (j : Int) = ((UInt8.ofNat j).toNat : Int) by rw [HC.out]]
      refine (HF.out wr).mono ?_
      rintro e w' ⟨rfl, rfl⟩
      rw [HC.out]
      go_wp2_with fail
      go_roundw
      case rel => exact ⟨j + 1, by omega, by go_num, by rw [← HS.out]; exact HA.out, hbl.setCell (Nat.le_refl _) _⟩
      case measure => simp [intOf]; omega
    · obtain rfl : j = 256 := by omega
      go_wp2_with fail
      go_ret
      exact ⟨rfl, hbl, hat⟩

theorem enter_f (k : Nat) (c : Int) (w1 : World) (hk : k = 77 ∨ k = 78 ∨ k = 71) : (callFunc k #[.int .u8 c]).run Try.prog w1 = .ok (.enter k #[.int .u8 c]) w1 := by
  rcases hk with rfl | rfl | rfl <;> kernel_rfl
end Go.Proofs.Ytheblleadjbndaa

namespace Go.Proofs.Ytheblleadjbndaa
open Go.RowKit

set_option maxHeartbeats 400000 in
theorem inClass_any (c : UInt8) (S I : Nat) (g : UInt8 → Bool) (inv : Bool) (w : World) (hS : At w S (btab g 256) 102) (hI : At w I #[.bool inv] 4) :
    Calls Try.prog 76 #[.int .u8 c.toNat, .pointer (some ⟨S, 0, none⟩), .pointer (some ⟨I, 0, none⟩)] w fun e w' => e = .returned (.bool (g c != inv)) ∧ ∃ n, w' = w.drewN n := by
  have hc := c.toNat_lt
  have g0 := hS.cell c.toNat
  rw [btab_get g 256 c.toNat hc, if_pos hc] at g0
  have e : UInt8.ofNat c.toNat = c := by simp
  rw [e] at g0
  clear e
  have g1 : w.cell? ⟨I, 0, none⟩ = some (.bool inv) := hI.cell 0
  generalize g c = y at *
  go_enter Try.func76, Try.ntmps76
  go_wp2_with fail
  go_quiet (fail)
  go_wp2_with fail
  go_ret
  exact ⟨rfl, _, rfl⟩

set_option maxRecDepth 100000 in
set_option maxHeartbeats 400000 in
theorem where_class (S I : Nat) (g : UInt8 → Bool) (inv : Bool) (w : World) (hS : At w S (btab g 256) 102) (hI : At w I #[.bool inv] 4) :
    Calls Try.prog 70 #[.func (.func 76) #[] #[.pointer (some ⟨S, 0, none⟩), .pointer (some ⟨I, 0, none⟩)]] w fun e w' => e = .returned (.pointer (some ⟨w.heap.size, 0, none⟩)) ∧ Below w.heap.size w w' ∧ At w' w.heap.size (btab (fun c => g c != inv) 256) 102 := by
  have hcl := fun (c : UInt8) w1 h1 h2 => Lib.hid (inClass_any c S I g inv w1 h1 h2)
  generalize hf : (fun c => g c != inv) = f at *
  have HF0 : Hid (∀ c, (g c != inv) = f c) := Lib.hid (fun c => by rw [← hf])
  clear hf
  go_enter Try.func70, Try.ntmps70
  go_wp2_with fail
  go_loopw [5] (fun i wr => ∃ j : Nat, j ≤ 256 ∧ i = .int .i64 j ∧ At wr w.heap.size (btab f j) 102 ∧ Below w.heap.size w wr) (fun i _ => 256 - (intOf i).toNat)
  case atStart =>
    refine ⟨0, Nat.zero_le _, rfl, ?_, (Below.refl _ _).alloc (Nat.le_refl _) _⟩
    rw [btab_zero, ← zero_class]
    exact At.new w _ _
  case round =>
    obtain ⟨j, hj, rfl, hat, hbl⟩ := hrel
    by_cases hlt : j < 256
    · have hc : (UInt8.ofNat j).toNat = j := by rw [UInt8.toNat_ofNat']; omega
      have HC := Lib.hid hc
      have g0 := hat.cell j
      rw [btab_get f j j hlt, if_neg (Nat.lt_irrefl _)] at g0
      have g1 := hat.free j
      have HS := Lib.hid (btab_set f j hlt)
      have HA := Lib.hid (hat.set j (.bool (f (UInt8.ofNat j))))
      have HF := hcl (UInt8.ofNat j) wr (hS.below hbl) (hI.below hbl)
      have HE := Lib.hid (HF0.out (UInt8.ofNat j))
      clear hc
      go_wp2_with fail
      rw [show (j : Int) = ((UInt8.ofNat j).toNat : Int) by rw [HC.out]]
      refine (HF.out).mono ?_
      rintro e w' ⟨rfl, n, rfl⟩
      rw [HC.out, HE.out]
      go_wp2_with fail
      go_roundw
      case rel => exact ⟨j + 1, by omega, by go_num, by rw [← HS.out]; exact HA.out.drewN n, bN (hbl.setCell (Nat.le_refl _) _) n⟩
      case measure => simp [intOf]; omega
    · obtain rfl : j = 256 := by omega
      go_wp2_with fail
      go_ret
      exact ⟨rfl, hbl, hat⟩

/-- The cells of a node of a tree. -/
def nd (kind : Int) (plain : Bool) (char : Int) (cl parts : Value) : Array Value := #[.int .i64 kind, .bool plain, .int .u8 char, cl, parts]
set_option maxHeartbeats 400000 in
theorem plainByte_any (c : Int) (w : World) :
    Calls Try.prog 73 #[.int .u8 c] w fun e w' => e = .returned (.pointer (some ⟨w.heap.size, 0, none⟩)) ∧ w' = w.alloc (.cells (nd 0 true c (.pointer none) (.slice none 0 0)) 54) := by
  go_enter Try.func73, Try.ntmps73
  go_wp2_with fail
  go_ret
  exact ⟨rfl, rfl⟩
end Go.Proofs.Ytheblleadjbndaa

namespace Go.Proofs.Ytheblleadjbndaa
open Go.RowKit Rx

def ptr (b : Nat) : Value := .pointer (some ⟨b, 0, none⟩)
/-- The blocks of S are the same in both worlds. -/
def Same (S : Nat → Prop) (W W' : World) : Prop := ∀ k, S k → W'.heap[k]? = W.heap[k]?
/-- The blocks that came. -/
def Fresh (W W' : World) (k : Nat) : Prop := W.heap.size ≤ k ∧ k < W'.heap.size
/-- A slice of trees. -/
def Parts (S : Nat → Prop) (W : World) (sv : Value) (xs : List Value) : Prop := W.ownsRow 0 37 1 sv xs.length xs ∧ ∀ g, sv.ownBlock = some g → S g
/-- A node with parts. -/
def Node (S : Nat → Prop) (W : World) (kind : Int) (v : Value) (P : List Value → Prop) : Prop := ∃ b sv xs, S b ∧ v = ptr b ∧ At W b (nd kind false 0 (.pointer none) sv) 54 ∧ Parts S W sv xs ∧ P xs
mutual
def IsU (S : Nat → Prop) (W : World) : U → Value → Prop
  | .byte c, v => ∃ b, S b ∧ v = ptr b ∧ At W b (nd 0 true c.toNat (.pointer none) (.slice none 0 0)) 54
  | .cls f, v => ∃ b k, S b ∧ S k ∧ v = ptr b ∧ At W b (nd 0 false 0 (ptr k) (.slice none 0 0)) 54 ∧ At W k (btab f 256) 102
  | .grp a, v => IsA S W a v
  | .star u, v => Node S W 3 v fun xs => ∃ x, xs = [x] ∧ IsU S W u x
  | .plus u, v => Node S W 4 v fun xs => ∃ x, xs = [x] ∧ IsU S W u x
  | .opt u, v => Node S W 5 v fun xs => ∃ x, xs = [x] ∧ IsU S W u x
def IsA (S : Nat → Prop) (W : World) : As → Value → Prop
  | .one s, v => Node S W 1 v fun xs => IsSl S W s xs
  | .more s a, v => Node S W 2 v fun xs => ∃ x ys, xs = x :: ys ∧ (Node S W 1 x fun zs => IsSl S W s zs) ∧ IsAl S W a ys
def IsAl (S : Nat → Prop) (W : World) : As → List Value → Prop
  | .one s, xs => ∃ x, xs = [x] ∧ Node S W 1 x fun zs => IsSl S W s zs
  | .more s a, xs => ∃ x ys, xs = x :: ys ∧ (Node S W 1 x fun zs => IsSl S W s zs) ∧ IsAl S W a ys
def IsSl (S : Nat → Prop) (W : World) : Ss → List Value → Prop
  | .nil, xs => xs = []
  | .cons u s, xs => ∃ x ys, xs = x :: ys ∧ IsU S W u x ∧ IsSl S W s ys
end

theorem At.same {S : Nat → Prop} {W W' : World} {b : Nat} {c : Array Value} {t : TypeId} (h : At W b c t) (hs : Same S W W') (hi : S b) : At W' b c t := ⟨by rw [hs b hi]; exact h.out⟩
theorem owns_same {S : Nat → Prop} {W W' : World} {e size n : Nat} {v : Value} {xs : List Value} (h : W.ownsRow 0 e size v n xs) (hc : ∀ g, v.ownBlock = some g → S g) (hs : Same S W W') : W'.ownsRow 0 e size v n xs := by
  obtain ⟨h1, h2 | ⟨g, cap, cur, h3, h4, h5, h6⟩⟩ := h
  · exact ⟨h1, .inl h2⟩
  · refine ⟨h1, .inr ⟨g, cap, cur, h3, h4, ?_, h6⟩⟩
    rw [hs g (hc g (by rw [h3]; rfl))]; exact h5
theorem Parts.same {S S' : Nat → Prop} {W W' : World} {sv : Value} {xs : List Value} (h : Parts S W sv xs) (hs : Same S W W') (hc : ∀ k, S k → S' k) : Parts S' W' sv xs :=
  ⟨owns_same h.1 h.2 hs, fun g hg => hc g (h.2 g hg)⟩
theorem Node.same {S S' : Nat → Prop} {W W' : World} {kind : Int} {v : Value} {P Q : List Value → Prop} (h : Node S W kind v P) (hs : Same S W W') (hc : ∀ k, S k → S' k) (hp : ∀ xs, P xs → Q xs) : Node S' W' kind v Q := by
  obtain ⟨b, sv, xs, h1, h2, h3, h4, h5⟩ := h
  exact ⟨b, sv, xs, hc b h1, h2, h3.same hs h1, h4.same hs hc, hp xs h5⟩
mutual
theorem IsU.same {S S' : Nat → Prop} {W W' : World} (hs : Same S W W') (hc : ∀ k, S k → S' k) : ∀ (u : U) (v : Value), IsU S W u v → IsU S' W' u v
  | .byte c, v, h => by
    unfold IsU at h ⊢
    obtain ⟨b, h1, h2, h3⟩ := h
    exact ⟨b, hc b h1, h2, h3.same hs h1⟩
  | .cls f, v, h => by
    unfold IsU at h ⊢
    obtain ⟨b, k, h1, h2, h3, h4, h5⟩ := h
    exact ⟨b, k, hc b h1, hc k h2, h3, h4.same hs h1, h5.same hs h2⟩
  | .grp a, v, h => by
    unfold IsU at h ⊢
    exact IsA.same hs hc a v h
  | .star u, v, h => by
    unfold IsU at h ⊢
    exact h.same hs hc fun xs ⟨x, e, hx⟩ => ⟨x, e, IsU.same hs hc u x hx⟩
  | .plus u, v, h => by
    unfold IsU at h ⊢
    exact h.same hs hc fun xs ⟨x, e, hx⟩ => ⟨x, e, IsU.same hs hc u x hx⟩
  | .opt u, v, h => by
    unfold IsU at h ⊢
    exact h.same hs hc fun xs ⟨x, e, hx⟩ => ⟨x, e, IsU.same hs hc u x hx⟩
theorem IsA.same {S S' : Nat → Prop} {W W' : World} (hs : Same S W W') (hc : ∀ k, S k → S' k) : ∀ (a : As) (v : Value), IsA S W a v → IsA S' W' a v
  | .one s, v, h => by
    unfold IsA at h ⊢
    exact h.same hs hc fun xs hx => IsSl.same hs hc s xs hx
  | .more s a, v, h => by
    unfold IsA at h ⊢
    exact h.same hs hc fun xs ⟨x, ys, e, h1, h2⟩ => ⟨x, ys, e, h1.same hs hc fun zs hz => IsSl.same hs hc s zs hz, IsAl.same hs hc a ys h2⟩
theorem IsAl.same {S S' : Nat → Prop} {W W' : World} (hs : Same S W W') (hc : ∀ k, S k → S' k) : ∀ (a : As) (xs : List Value), IsAl S W a xs → IsAl S' W' a xs
  | .one s, xs, h => by
    unfold IsAl at h ⊢
    obtain ⟨x, e, h1⟩ := h
    exact ⟨x, e, h1.same hs hc fun zs hz => IsSl.same hs hc s zs hz⟩
  | .more s a, xs, h => by
    unfold IsAl at h ⊢
    obtain ⟨x, ys, e, h1, h2⟩ := h
    exact ⟨x, ys, e, h1.same hs hc fun zs hz => IsSl.same hs hc s zs hz, IsAl.same hs hc a ys h2⟩
theorem IsSl.same {S S' : Nat → Prop} {W W' : World} (hs : Same S W W') (hc : ∀ k, S k → S' k) : ∀ (s : Ss) (xs : List Value), IsSl S W s xs → IsSl S' W' s xs
  | .nil, xs, h => by
    unfold IsSl at h ⊢
    exact h
  | .cons u s, xs, h => by
    unfold IsSl at h ⊢
    obtain ⟨x, ys, e, h1, h2⟩ := h
    exact ⟨x, ys, e, IsU.same hs hc u x h1, IsSl.same hs hc s ys h2⟩
end
theorem Same.keep {p : Nat} {S : Nat → Prop} {W W' : World} (h : Keep p W W') (hp : ∀ k, S k → k < W.heap.size ∧ k ≠ p) : Same S W W' := fun k h1 => h.block k (hp k h1).1 (hp k h1).2
theorem Same.below {S : Nat → Prop} {W W' : World} (h : Below W.heap.size W W') (hp : ∀ k, S k → k < W.heap.size) : Same S W W' := fun k h1 => h.block k (hp k h1)
theorem Same.refl (S : Nat → Prop) (W : World) : Same S W W := fun _ _ => rfl
/-- Trees that came in one call are kept in the next one. -/
theorem Fresh.keep {p : Nat} {W W1 W2 : World} (h : Keep p W1 W2) (hp : p < W.heap.size) : Same (Fresh W W1) W1 W2 ∧ ∀ k, Fresh W W1 k → Fresh W W2 k :=
  ⟨Same.keep h fun k ⟨h1, h2⟩ => ⟨h2, by omega⟩, fun k ⟨h1, h2⟩ => ⟨h1, Nat.lt_of_lt_of_le h2 h.size⟩⟩
end Go.Proofs.Ytheblleadjbndaa

namespace Go.Proofs.Ytheblleadjbndaa
open Go.RowKit Rx

/-- What a function of the parser hands back: a tree and whether there is one. -/
def UPost (p : Nat) (s : ByteArray) (W : World) (res : Option (U × List UInt8)) (e : Ending) (w' : World) : Prop :=
  Keep p W w' ∧ match res with
  | none => e = .returned (.tuple #[.pointer none, .bool false])
  | some (u, l') => ∃ v, e = .returned (.tuple #[v, .bool true]) ∧ IsU (Fresh W w') w' u v ∧ PS w' p s l'
theorem UPost.no {p : Nat} {s : ByteArray} {W w' : World} {res : Option (U × List UInt8)} (hr : res = none) (hk : Keep p W w') : UPost p s W res (.returned (.tuple #[.pointer none, .bool false])) w' := by
  subst hr; exact ⟨hk, rfl⟩
theorem UPost.yes {p : Nat} {s : ByteArray} {W w' : World} {res : Option (U × List UInt8)} {u : U} {l' : List UInt8} (v : Value) (hr : res = some (u, l')) (hk : Keep p W w') (hu : IsU (Fresh W w') w' u v) (hp : PS w' p s l') : UPost p s W res (.returned (.tuple #[v, .bool true])) w' := by
  subst hr; exact ⟨hk, v, rfl, hu, hp⟩
theorem alloc_size (w : World) (o : Obj) : (w.alloc o).heap.size = w.heap.size + 1 := by simp
theorem isU_byte {W w1 : World} {v : Value} (hp : W.heap.size ≤ w1.heap.size) (c : UInt8) (k : Int) (hk : k = c.toNat) (hv : v = ptr w1.heap.size) : IsU (Fresh W (w1.alloc (.cells (nd 0 true k (.pointer none) (.slice none 0 0)) 54))) (w1.alloc (.cells (nd 0 true k (.pointer none) (.slice none 0 0)) 54)) (.byte c) v := by
  unfold IsU
  subst hk hv
  exact ⟨_, ⟨hp, by rw [alloc_size]; exact Nat.lt_succ_self _⟩, rfl, At.new _ _ _⟩
theorem isU_cls {W w0 w1 : World} {v : Value} {x : Value} (hp : W.heap.size ≤ w0.heap.size) (f : UInt8 → Bool) (hb : Below w0.heap.size w0 w1) (hat : At w1 w0.heap.size (btab f 256) 102) (hv : v = ptr w1.heap.size) (hx : x = ptr w0.heap.size) : IsU (Fresh W (w1.alloc (.cells (nd 0 false 0 x (.slice none 0 0)) 54))) (w1.alloc (.cells (nd 0 false 0 x (.slice none 0 0)) 54)) (.cls f) v := by
  unfold IsU
  have h := hat.lt
  have h2 := hb.size
  subst hv hx
  exact ⟨_, _, ⟨by omega, by rw [alloc_size]; omega⟩, ⟨hp, by rw [alloc_size]; omega⟩, rfl, At.new _ _ _, hat.alloc _⟩
theorem PS.alloc {W : World} {p : Nat} {s : ByteArray} {l : List UInt8} (h : PS W p s l) (o : Obj) : PS (W.alloc o) p s l := h.keep (h.at_.alloc o)
theorem PS.below {W W1 : World} {p : Nat} {s : ByteArray} {l : List UInt8} (h : PS W p s l) (hb : Below W.heap.size W W1) : PS W1 p s l := h.keep (h.at_.below hb)
theorem PS.drewN {W : World} {p : Nat} {s : ByteArray} {l : List UInt8} (h : PS W p s l) (n : Nat) : PS (W.drewN n) p s l := h.keep (h.at_.drewN n)
theorem PS.lt {W : World} {p : Nat} {s : ByteArray} {l : List UInt8} (h : PS W p s l) : p < W.heap.size := h.at_.lt

/-- A test of a byte against a number. -/
theorem eq_no {c : UInt8} {k : Nat} (h : ¬ c.toNat = k) : ((c.toNat : Int) == (k : Int)) = false := by rw [beq_eq_false_iff_ne]; omega
theorem eq_yes {c : UInt8} {k : Nat} (h : c.toNat = k) : ((c.toNat : Int) == (k : Int)) = true := by rw [h]; exact beq_self_eq_true _
theorem u8_eq {c : UInt8} {k : Nat} (hk : k < 256) (h : c.toNat = k) : c = UInt8.ofNat k := by
  apply UInt8.toNat_inj.1; rw [h, UInt8.toNat_ofNat']; omega

set_option maxHeartbeats 400000 in
theorem escape_end (W : World) (p : Nat) (s : ByteArray) (h : PS W p s []) :
    Calls Try.prog 72 #[ptr p] W (UPost p s W none) := by
  unfold ptr
  go_enter Try.func72, Try.ntmps72
  go_wp2_with fail
  refine (peek_end W p s h).mono ?_
  rintro e w' ⟨rfl, n, rfl⟩
  go_wp2_with fail
  go_ret2
  exact UPost.no rfl ((Keep.refl _ _).drewN _)

/-- A byte read, and the node of a byte made. -/
theorem post_byte {p : Nat} {s : ByteArray} {W : World} {c d : UInt8} {r : List UInt8} {n : Nat} {k j : Int} {res : Option (U × List UInt8)} {v : Value} (h : PS W p s (c :: r)) (hk : k = ((s.size - r.length : Nat) : Int)) (hr : res = some (.byte d, r)) (hj : j = d.toNat) (hv : v = ptr W.heap.size) :
    UPost p s W res (.returned (.tuple #[v, .bool true])) (((W.drewN n).setCell ⟨p, 1, none⟩ (.int .i64 k)).alloc (.cells (nd 0 true j (.pointer none) (.slice none 0 0)) 54)) := by
  refine UPost.yes v hr ((((Keep.refl p W).drewN _).set _ _).alloc _) ?_ ((h.bump n k hk).alloc _)
  exact isU_byte (by simp) d j hj (by rw [hv]; simp)
/-- A byte read, and the node of a class made. -/
theorem post_cls {p : Nat} {s : ByteArray} {W w1 : World} {c : UInt8} {r : List UInt8} {n : Nat} {k : Int} {f : UInt8 → Bool} {res : Option (U × List UInt8)} {v x : Value} (h : PS W p s (c :: r)) (hk : k = ((s.size - r.length : Nat) : Int)) (hr : res = some (.cls f, r))
    (hb : Below ((W.drewN n).setCell ⟨p, 1, none⟩ (.int .i64 k)).heap.size ((W.drewN n).setCell ⟨p, 1, none⟩ (.int .i64 k)) w1) (hat : At w1 ((W.drewN n).setCell ⟨p, 1, none⟩ (.int .i64 k)).heap.size (btab f 256) 102) (hv : v = ptr w1.heap.size) (hx : x = ptr W.heap.size) :
    UPost p s W res (.returned (.tuple #[v, .bool true])) (w1.alloc (.cells (nd 0 false 0 x (.slice none 0 0)) 54)) := by
  have hb0 := h.bump n k hk
  refine UPost.yes v hr (((((Keep.refl p W).drewN _).set _ _).trans (Keep.below hb)).alloc _) ?_ ((hb0.below hb).alloc _)
  exact isU_cls (by simp) f hb hat hv (by rw [hx]; simp)

set_option maxHeartbeats 1000000 in
theorem escape_in (W : World) (p : Nat) (s : ByteArray) (c : UInt8) (r : List UInt8) (hs : s.size ≤ 1000) (h : PS W p s (c :: r)) :
    Calls Try.prog 72 #[ptr p] W (UPost p s W ((escU c).map fun u => (u, r))) := by
  have c1 : W.cell? ⟨p, 1, none⟩ = some (.int .i64 ((s.size - (c :: r).length : Nat) : Int)) := h.at_.cell 1
  have c2 := h.at_.free 1
  have hle : s.size - (c :: r).length ≤ 1000 := by omega
  have HB : Hid (((s.size - (c :: r).length : Nat) : Int) + 1 = ((s.size - r.length : Nat) : Int)) := Lib.hid (by rw [h.next.2.2]; omega)
  have HP := Lib.hid h
  clear h
  generalize s.size - (c :: r).length = k at *
  unfold ptr
  by_cases h1 : c.toNat = 110
  · have d1 := eq_yes h1
    have HC := Lib.hid (u8_eq (by decide) h1)
    clear h1
    go_enter Try.func72, Try.ntmps72
    go_wp2_with fail
    refine (peek_in W p s c r HP.out).mono ?_
    rintro e w' ⟨rfl, n, rfl⟩
    go_wp2_with fail
    refine (plainByte_any _ _).mono ?_
    rintro e w' ⟨rfl, rfl⟩
    go_wp2_with fail
    go_ret2
    exact post_byte HP.out HB.out (by rw [HC.out]; rfl) rfl rfl
  · have e1 := eq_no h1
    have g1 : ¬ c = 110 := fun h => h1 (by rw [h]; rfl)
    clear h1
    by_cases h2 : c.toNat = 116
    · have d1 := eq_yes h2
      have HC := Lib.hid (u8_eq (by decide) h2)
      clear h2 g1
      go_enter Try.func72, Try.ntmps72
      go_wp2_with fail
      refine (peek_in W p s c r HP.out).mono ?_
      rintro e w' ⟨rfl, n, rfl⟩
      go_wp2_with fail
      refine (plainByte_any _ _).mono ?_
      rintro e w' ⟨rfl, rfl⟩
      go_wp2_with fail
      go_ret2
      exact post_byte HP.out HB.out (by rw [HC.out]; rfl) rfl rfl
    · have e2 := eq_no h2
      have g2 : ¬ c = 116 := fun h => h2 (by rw [h]; rfl)
      clear h2
      by_cases h3 : c.toNat = 100
      · have d1 := eq_yes h3
        have HC := Lib.hid (u8_eq (by decide) h3)
        clear h3 g1 g2
        go_enter Try.func72, Try.ntmps72
        go_wp2_with fail
        refine (peek_in W p s c r HP.out).mono ?_
        rintro e w' ⟨rfl, n, rfl⟩
        go_wp2_with fail
        refine (where_any 77 digB _ (fun c w => enter_f _ c w (.inl rfl)) isDigit_any).mono ?_
        rintro e w' ⟨rfl, hb, hat⟩
        go_wp2_with fail
        go_ret2
        exact post_cls HP.out HB.out (by rw [HC.out]; rfl) hb hat rfl (by simp [ptr])
      · have e3 := eq_no h3
        have g3 : ¬ c = 100 := fun h => h3 (by rw [h]; rfl)
        clear h3
        by_cases h4 : c.toNat = 119
        · have d1 := eq_yes h4
          have HC := Lib.hid (u8_eq (by decide) h4)
          clear h4 g1 g2 g3
          go_enter Try.func72, Try.ntmps72
          go_wp2_with fail
          refine (peek_in W p s c r HP.out).mono ?_
          rintro e w' ⟨rfl, n, rfl⟩
          go_wp2_with fail
          refine (where_any 78 wordB _ (fun c w => enter_f _ c w (.inr (.inl rfl))) word_any).mono ?_
          rintro e w' ⟨rfl, hb, hat⟩
          go_wp2_with fail
          go_ret2
          exact post_cls HP.out HB.out (by rw [HC.out]; rfl) hb hat rfl (by simp [ptr])
        · have e4 := eq_no h4
          have g4 : ¬ c = 119 := fun h => h4 (by rw [h]; rfl)
          clear h4
          have HU : Hid (escU c = if letB c || digB c then none else some (.byte c)) := Lib.hid (by unfold escU; rw [if_neg g1, if_neg g2, if_neg g3, if_neg g4])
          clear g1 g2 g3 g4
          rcases hl : letB c
          · rcases hd : digB c
            · have H1 := Lib.hid hl
              have H2 := Lib.hid hd
              clear hl hd
              go_enter Try.func72, Try.ntmps72
              go_wp2_with fail
              refine (peek_in W p s c r HP.out).mono ?_
              rintro e w' ⟨rfl, n, rfl⟩
              go_wp2_with fail
              refine (isLetter_any _ _).mono ?_
              rintro e w' ⟨rfl, rfl⟩
              rw [H1.out]
              go_wp2_with fail
              refine (isDigit_any _ _).mono ?_
              rintro e w' ⟨rfl, rfl⟩
              rw [H2.out]
              go_wp2_with fail
              refine (plainByte_any _ _).mono ?_
              rintro e w' ⟨rfl, rfl⟩
              go_wp2_with fail
              go_ret2
              exact post_byte HP.out HB.out (by rw [HU.out, H1.out, H2.out]; rfl) rfl rfl
            · have H1 := Lib.hid hl
              have H2 := Lib.hid hd
              clear hl hd
              go_enter Try.func72, Try.ntmps72
              go_wp2_with fail
              refine (peek_in W p s c r HP.out).mono ?_
              rintro e w' ⟨rfl, n, rfl⟩
              go_wp2_with fail
              refine (isLetter_any _ _).mono ?_
              rintro e w' ⟨rfl, rfl⟩
              rw [H1.out]
              go_wp2_with fail
              refine (isDigit_any _ _).mono ?_
              rintro e w' ⟨rfl, rfl⟩
              rw [H2.out]
              go_wp2_with fail
              go_ret2
              exact UPost.no (by rw [HU.out, H1.out, H2.out]; rfl) (((Keep.refl p W).drewN _).set _ _)
          · have H1 := Lib.hid hl
            clear hl
            go_enter Try.func72, Try.ntmps72
            go_wp2_with fail
            refine (peek_in W p s c r HP.out).mono ?_
            rintro e w' ⟨rfl, n, rfl⟩
            go_wp2_with fail
            refine (isLetter_any _ _).mono ?_
            rintro e w' ⟨rfl, rfl⟩
            rw [H1.out]
            go_wp2_with fail
            go_ret2
            exact UPost.no (by rw [HU.out, H1.out]; rfl) (((Keep.refl p W).drewN _).set _ _)
end Go.Proofs.Ytheblleadjbndaa

namespace Go.Proofs.Ytheblleadjbndaa
open Go.RowKit Rx

/-- What item hands back. -/
def BPost (p : Nat) (s : ByteArray) (W : World) (res : Option (UInt8 × List UInt8)) (e : Ending) (w' : World) : Prop :=
  Keep p W w' ∧ match res with
  | none => e = .returned (.tuple #[.int .u8 0, .bool false])
  | some (b, l') => e = .returned (.tuple #[.int .u8 b.toNat, .bool true]) ∧ PS w' p s l'
theorem BPost.no {p : Nat} {s : ByteArray} {W w' : World} {res : Option (UInt8 × List UInt8)} (hr : res = none) (hk : Keep p W w') : BPost p s W res (.returned (.tuple #[.int .u8 0, .bool false])) w' := by
  subst hr; exact ⟨hk, rfl⟩
theorem BPost.yes {p : Nat} {s : ByteArray} {W w' : World} {res : Option (UInt8 × List UInt8)} {b : UInt8} {l' : List UInt8} (hr : res = some (b, l')) (hk : Keep p W w') (hp : PS w' p s l') : BPost p s W res (.returned (.tuple #[.int .u8 b.toNat, .bool true])) w' := by
  subst hr; exact ⟨hk, rfl, hp⟩
/-- What an escape can be. -/
theorem escU_some (d : UInt8) : (escU d = none ∧ escB d = none) ∨ (∃ b, escU d = some (.byte b) ∧ escB d = some b) ∨ (∃ f, escU d = some (.cls f) ∧ escB d = none) := by
  unfold escU escB
  by_cases h1 : d = 110
  · subst h1; exact .inr (.inl ⟨10, rfl, rfl⟩)
  · by_cases h2 : d = 116
    · subst h2; exact .inr (.inl ⟨9, rfl, rfl⟩)
    · rw [if_neg h1, if_neg h2, if_neg h1, if_neg h2]
      by_cases h3 : d = 100
      · subst h3; exact .inr (.inr ⟨_, rfl, by decide⟩)
      · by_cases h4 : d = 119
        · subst h4; exact .inr (.inr ⟨_, rfl, by decide⟩)
        · rw [if_neg h3, if_neg h4]
          rcases letB d || digB d
          · exact .inr (.inl ⟨d, rfl, rfl⟩)
          · exact .inl ⟨rfl, rfl⟩

set_option maxHeartbeats 400000 in
theorem item_end (W : World) (p : Nat) (s : ByteArray) (h : PS W p s []) :
    Calls Try.prog 74 #[ptr p] W (BPost p s W (item [])) := by
  unfold ptr
  go_enter Try.func74, Try.ntmps74
  go_wp2_with fail
  refine (peek_end W p s h).mono ?_
  rintro e w' ⟨rfl, n, rfl⟩
  go_wp2_with fail
  go_ret2
  exact BPost.no rfl ((Keep.refl _ _).drewN _)

set_option maxHeartbeats 1000000 in
theorem item_in (W : World) (p : Nat) (s : ByteArray) (c : UInt8) (r : List UInt8) (hs : s.size ≤ 1000) (h : PS W p s (c :: r)) :
    Calls Try.prog 74 #[ptr p] W (BPost p s W (item (c :: r))) := by
  have c1 : W.cell? ⟨p, 1, none⟩ = some (.int .i64 ((s.size - (c :: r).length : Nat) : Int)) := h.at_.cell 1
  have c2 := h.at_.free 1
  have hle : s.size - (c :: r).length ≤ 1000 := by omega
  have HB : Hid (((s.size - (c :: r).length : Nat) : Int) + 1 = ((s.size - r.length : Nat) : Int)) := Lib.hid (by rw [h.next.2.2]; omega)
  have HP := Lib.hid h
  clear h
  generalize s.size - (c :: r).length = k at *
  by_cases h1 : c.toNat = 93
  · have d1 := eq_yes h1
    have HC := Lib.hid (u8_eq (by decide) h1)
    clear h1
    unfold ptr
    go_enter Try.func74, Try.ntmps74
    go_wp2_with fail
    refine (peek_in W p s c r HP.out).mono ?_
    rintro e w' ⟨rfl, n, rfl⟩
    go_wp2_with fail
    go_ret2
    exact BPost.no (by rw [HC.out]; rfl) ((Keep.refl _ _).drewN _)
  · have e1 := eq_no h1
    have g1 : ¬ c = 93 := fun h => h1 (by rw [h]; rfl)
    clear h1
    by_cases h2 : c.toNat = 92
    · have d1 : ((c.toNat : Int) != 92) = false := by rw [h2]; rfl
      have HC := Lib.hid (u8_eq (by decide) h2)
      clear h2 g1
      rcases r with _ | ⟨d, r'⟩
      · unfold ptr
        go_enter Try.func74, Try.ntmps74
        go_wp2_with fail
        refine (peek_in W p s c _ HP.out).mono ?_
        rintro e w' ⟨rfl, n, rfl⟩
        go_wp2_with fail
        refine (escape_end _ p s (HP.out.bump n _ HB.out)).mono ?_
        rintro e w' ⟨hk, rfl⟩
        go_wp2_with fail
        go_ret2
        exact BPost.no (by rw [HC.out]; rfl) ((((Keep.refl p W).drewN _).set _ _).trans hk)
      · have HD := Lib.hid (escU_some d)
        unfold ptr
        go_enter Try.func74, Try.ntmps74
        go_wp2_with fail
        refine (peek_in W p s c _ HP.out).mono ?_
        rintro e w' ⟨rfl, n, rfl⟩
        go_wp2_with fail
        refine (escape_in _ p s d r' hs (HP.out.bump n _ HB.out)).mono ?_
        rcases HD.out with ⟨h3, h4⟩ | ⟨b, h3, h4⟩ | ⟨f, h3, h4⟩
        · rw [h3]
          have H4 := Lib.hid h4
          clear h3 h4
          rintro e w' ⟨hk, rfl⟩
          go_wp2_with fail
          go_ret2
          exact BPost.no (by rw [HC.out]; show (escB d).map _ = none; rw [H4.out]; rfl) ((((Keep.refl p W).drewN _).set _ _).trans hk)
        · rw [h3]
          have H4 := Lib.hid h4
          clear h3 h4
          rintro e w' ⟨hk, v, rfl, hu, hp⟩
          unfold IsU at hu
          obtain ⟨q, _, rfl, hq⟩ := hu
          have q1 : w'.cell? ⟨q, 1, none⟩ = some (.bool true) := hq.cell 1
          have q2 : w'.cell? ⟨q, 2, none⟩ = some (.int .u8 b.toNat) := hq.cell 2
          unfold ptr
          go_wp2_with fail
          go_ret2
          exact BPost.yes (by rw [HC.out]; show (escB d).map _ = _; rw [H4.out]; rfl) ((((Keep.refl p W).drewN _).set _ _).trans hk) hp
        · rw [h3]
          have H4 := Lib.hid h4
          clear h3 h4
          rintro e w' ⟨hk, v, rfl, hu, hp⟩
          unfold IsU at hu
          obtain ⟨q, _, _, _, rfl, hq, _⟩ := hu
          have q1 : w'.cell? ⟨q, 1, none⟩ = some (.bool false) := hq.cell 1
          unfold ptr
          go_wp2_with fail
          go_ret2
          exact BPost.no (by rw [HC.out]; show (escB d).map _ = _; rw [H4.out]; rfl) ((((Keep.refl p W).drewN _).set _ _).trans hk)
    · have d1 : ((c.toNat : Int) != 92) = true := by rw [bne_iff_ne]; omega
      have g2 : ¬ c = 92 := fun h => h2 (by rw [h]; rfl)
      have HC : Hid (item (c :: r) = some (c, r)) := Lib.hid (by simp only [item]; rw [if_neg g1, if_neg g2])
      clear h2 g1 g2
      unfold ptr
      go_enter Try.func74, Try.ntmps74
      go_wp2_with fail
      refine (peek_in W p s c r HP.out).mono ?_
      rintro e w' ⟨rfl, n, rfl⟩
      go_wp2_with fail
      go_ret2
      exact BPost.yes HC.out (((Keep.refl p W).drewN _).set _ _) (HP.out.bump n _ HB.out)

set_option maxHeartbeats 400000 in
theorem isRange_end (W : World) (p : Nat) (s : ByteArray) (hs : s.size ≤ 1000) (h : PS W p s []) :
    Calls Try.prog 75 #[ptr p] W fun e w' => e = .returned (.bool false) ∧ ∃ n, w' = W.drewN n := by
  have c0 : W.cell? ⟨p, 0, none⟩ = some (.string s) := h.at_.cell 0
  have c1 := h.end_
  have d1 : decide ((s.size : Int) + 1 < (s.size : Int)) = false := by rw [decide_eq_false_iff_not]; omega
  have v1 : IntKind.i64.wrap ((s.size : Int) + 1) = (s.size : Int) + 1 := IntWalk.i64_in _ (by omega)
  unfold ptr
  go_enter Try.func75, Try.ntmps75
  go_wp2_with fail
  go_quiet (fail)
  go_wp2_with fail
  go_ret
  exact ⟨rfl, _, rfl⟩

set_option maxHeartbeats 400000 in
theorem isRange_one (W : World) (p : Nat) (s : ByteArray) (c : UInt8) (hs : s.size ≤ 1000) (h : PS W p s [c]) :
    Calls Try.prog 75 #[ptr p] W fun e w' => e = .returned (.bool false) ∧ ∃ n, w' = W.drewN n := by
  have c0 : W.cell? ⟨p, 0, none⟩ = some (.string s) := h.at_.cell 0
  have c1 : W.cell? ⟨p, 1, none⟩ = some (.int .i64 ((s.size - 1 : Nat) : Int)) := h.at_.cell 1
  have hle : 1 ≤ s.size := h.le
  obtain ⟨k, hk⟩ : ∃ k, k = s.size - 1 := ⟨_, rfl⟩
  rw [← hk] at c1
  have hk1 : k ≤ 1000 := by omega
  have d1 : decide ((k : Int) + 1 < (s.size : Int)) = false := by rw [decide_eq_false_iff_not]; omega
  have v1 : IntKind.i64.wrap ((k : Int) + 1) = (k : Int) + 1 := IntWalk.i64_in _ (by omega)
  clear hk h
  unfold ptr
  go_enter Try.func75, Try.ntmps75
  go_wp2_with fail
  go_quiet (fail)
  go_wp2_with fail
  go_ret
  exact ⟨rfl, _, rfl⟩

set_option maxHeartbeats 400000 in
theorem isRange_two (W : World) (p : Nat) (s : ByteArray) (a b : UInt8) (r : List UInt8) (hs : s.size ≤ 1000) (h : PS W p s (a :: b :: r)) :
    Calls Try.prog 75 #[ptr p] W fun e w' => e = .returned (.bool (isRange (a :: b :: r))) ∧ ∃ n, w' = W.drewN n := by
  have c0 : W.cell? ⟨p, 0, none⟩ = some (.string s) := h.at_.cell 0
  have c1 : W.cell? ⟨p, 1, none⟩ = some (.int .i64 ((s.size - (a :: b :: r).length : Nat) : Int)) := h.at_.cell 1
  have hle := h.le
  have hlt : s.size - (a :: b :: r).length < s.size := by simp only [List.length_cons] at hle ⊢; omega
  have hg := h.get hlt
  have hlt2 : s.size - (a :: b :: r).length + 1 < s.size := by simp only [List.length_cons] at hle ⊢; omega
  have hg2 : s[s.size - (a :: b :: r).length + 1] = b := by
    have h1 := h.rest
    have := congrArg (fun l => l[1]?) h1
    simp only [List.getElem?_drop, List.getElem?_cons_succ, List.getElem?_cons_zero] at this
    exact Option.some.inj ((List.getElem?_eq_getElem (l := bs s) hlt2).symm.trans this)
  have HR : Hid (isRange (a :: b :: r) = (a == 45 && b != 93)) := Lib.hid rfl
  clear h hle
  generalize s.size - (a :: b :: r).length = k at *
  have hk1 : k ≤ 1000 := by omega
  have d1 : decide ((k : Int) + 1 < (s.size : Int)) = true := by rw [decide_eq_true_iff]; omega
  have t1 : ((k : Int) + 1).toNat = k + 1 := by omega
  have t2 : 0 ≤ (k : Int) + 1 := by omega
  have t3 : (k : Int) + 1 < (s.size : Int) := by omega
  have v1 : IntKind.i64.wrap ((k : Int) + 1) = (k : Int) + 1 := IntWalk.i64_in _ (by omega)
  by_cases ha : a.toNat = 45
  · have e1 : ((a.toNat : Int) == 45) = true := by rw [ha]; rfl
    have HA := Lib.hid (u8_eq (by decide) ha)
    clear ha
    by_cases hb : b.toNat = 93
    · have e2 : ((b.toNat : Int) != 93) = false := by rw [hb]; rfl
      have HB := Lib.hid (u8_eq (by decide) hb)
      clear hb
      unfold ptr
      go_enter Try.func75, Try.ntmps75
      go_wp2_with fail
      go_quiet (fail)
      go_wp2_with fail
      go_ret
      exact ⟨ret_bool (by rw [HR.out, HA.out, HB.out]; rfl), _, rfl⟩
    · have e2 : ((b.toNat : Int) != 93) = true := by rw [bne_iff_ne]; omega
      have HB : Hid ((b != 93) = true) := Lib.hid (by rw [bne_iff_ne]; intro h; exact hb (by rw [h]; rfl))
      clear hb
      unfold ptr
      go_enter Try.func75, Try.ntmps75
      go_wp2_with fail
      go_quiet (fail)
      go_wp2_with fail
      go_ret
      exact ⟨ret_bool (by rw [HR.out, HA.out, HB.out]; rfl), _, rfl⟩
  · have e1 : ((a.toNat : Int) == 45) = false := by rw [beq_eq_false_iff_ne]; omega
    have HA : Hid ((a == 45) = false) := Lib.hid (by rw [beq_eq_false_iff_ne]; intro h; exact ha (by rw [h]; rfl))
    clear ha
    unfold ptr
    go_enter Try.func75, Try.ntmps75
    go_wp2_with fail
    go_quiet (fail)
    go_wp2_with fail
    go_ret
    exact ⟨ret_bool (by rw [HR.out, HA.out]; rfl), _, rfl⟩
theorem isRange_any (W : World) (p : Nat) (s : ByteArray) (l : List UInt8) (hs : s.size ≤ 1000) (h : PS W p s l) :
    Calls Try.prog 75 #[ptr p] W fun e w' => e = .returned (.bool (isRange l)) ∧ ∃ n, w' = W.drewN n := by
  rcases l with _ | ⟨a, _ | ⟨b, r⟩⟩
  · exact isRange_end W p s hs h
  · exact isRange_one W p s a hs h
  · exact isRange_two W p s a b r hs h
theorem item_any (W : World) (p : Nat) (s : ByteArray) (l : List UInt8) (hs : s.size ≤ 1000) (h : PS W p s l) :
    Calls Try.prog 74 #[ptr p] W (BPost p s W (item l)) := by
  rcases l with _ | ⟨a, r⟩
  · exact item_end W p s h
  · exact item_in W p s a r hs h
end Go.Proofs.Ytheblleadjbndaa

namespace Go.Proofs.Ytheblleadjbndaa
open Go.RowKit Rx

/-- Whether a byte is skipped, and what follows. -/
def skipped (k : UInt8) (l : List UInt8) : Bool × List UInt8 := match l with | c :: r => if c = k then (true, r) else (false, c :: r) | [] => (false, [])
theorem PS.drewN' {W : World} {p : Nat} {s : ByteArray} {l : List UInt8} (h : PS W p s l) (n : Nat) : Keep p W (W.drewN n) ∧ PS (W.drewN n) p s l := ⟨(Keep.refl p W).drewN n, h.drewN n⟩
theorem skip_any (W : World) (p : Nat) (s : ByteArray) (kb : UInt8) (k : Int) (l : List UInt8) (hk : k = kb.toNat) (hs : s.size ≤ 1000) (h : PS W p s l) :
    Calls Try.prog 50 #[ptr p, .int .u8 k] W fun e w' => e = .returned (.bool (skipped kb l).1) ∧ Keep p W w' ∧ PS w' p s (skipped kb l).2 := by
  rcases l with _ | ⟨c, r⟩
  · refine (skip_end W p s k h).mono ?_
    rintro e w' ⟨rfl, n, rfl⟩
    exact ⟨rfl, h.drewN' n⟩
  · by_cases hc : c = kb
    · have e1 : skipped kb (c :: r) = (true, r) := by simp [skipped, hc]
      rw [e1]
      exact skip_yes W p s k c r hs h (by rw [hk, hc])
    · have e1 : skipped kb (c :: r) = (false, c :: r) := by simp [skipped, hc]
      rw [e1]
      refine (skip_no W p s k c r h (fun e => hc (UInt8.toNat_inj.1 (by omega)))).mono ?_
      rintro e w' ⟨rfl, n, rfl⟩
      exact ⟨rfl, h.drewN' n⟩

theorem item_short {l r : List UInt8} {a : UInt8} (h : item l = some (a, r)) : r.length < l.length := by
  rcases l with _ | ⟨c, l⟩
  · cases h
  · simp only [item] at h
    split at h
    · cases h
    · split at h
      · rcases l with _ | ⟨d, l⟩
        · cases h
        · simp only [Option.map_eq_some_iff, Prod.mk.injEq] at h
          obtain ⟨b, _, _, rfl⟩ := h
          simp; omega
      · simp only [Option.some.injEq, Prod.mk.injEq] at h
        obtain ⟨_, rfl⟩ := h
        simp
theorem isRange_some {r : List UInt8} (h : isRange r = true) : ∃ t, r = 45 :: t := by
  rcases r with _ | ⟨a, _ | ⟨b, t⟩⟩
  · cases h
  · cases h
  · simp [isRange] at h
    exact ⟨b :: t, by rw [h.1]⟩
/-- What a round of the class reads. -/
theorem items_succ (n : Nat) (g : UInt8 → Bool) (l : List UInt8) : items (n + 1) g l = (item l).bind fun (a, r) => (last a r).bind fun (b, r') => if (skipped 93 r').1 then some (add g a b, (skipped 93 r').2) else items n (add g a b) (skipped 93 r').2 := by
  rw [items]
  rcases item l with _ | ⟨a, r⟩
  · rfl
  simp only [Option.bind_some]
  rcases last a r with _ | ⟨b, r'⟩
  · rfl
  simp only [Option.bind_some]
  rcases r' with _ | ⟨c, t⟩
  · rfl
  · by_cases hc : c = 93
    · subst hc; rfl
    · simp only [skipped, if_neg hc]
      split
      · rename_i h
        exact absurd (List.cons.inj h).1 hc
      · rfl
theorem skipped_le (k : UInt8) (l : List UInt8) : (skipped k l).2.length ≤ l.length := by
  unfold skipped
  rcases l with _ | ⟨c, t⟩
  · exact Nat.le_refl _
  · simp only; split <;> simp
theorem bracket_eq (l : List UInt8) : bracket l = (items ((skipped 94 l).2.length + 1) (fun _ => false) (skipped 94 l).2).map fun (g, r') => (.cls (fun c => g c != (skipped 94 l).1), r') := by
  rcases l with _ | ⟨c, t⟩
  · rfl
  · by_cases hc : c = 94
    · subst hc; rfl
    · simp only [skipped, if_neg hc]
      unfold bracket
      split
      · rename_i h
        exact absurd (List.cons.inj h).1 hc
      · rfl
theorem btab_upd (f g : UInt8 → Bool) (k : Nat) (hk : k < 256) (h : ∀ i, i < 256 → g (UInt8.ofNat i) = if i = k then true else f (UInt8.ofNat i)) : (btab f 256).setIfInBounds k (.bool true) = btab g 256 := by
  apply Array.ext_getElem?
  intro i
  rw [Array.getElem?_setIfInBounds]
  by_cases e : k = i
  · subst e
    rw [if_pos rfl, if_pos (by rw [btab_size]; exact hk), btab_get g _ k hk, if_pos hk, h k hk, if_pos rfl]
  · rw [if_neg e]
    by_cases hi : i < 256
    · rw [btab_get f _ i hi, btab_get g _ i hi, if_pos hi, if_pos hi, h i hi, if_neg (fun x => e x.symm)]
    · rw [Array.getElem?_eq_none (by rw [btab_size]; omega), Array.getElem?_eq_none (by rw [btab_size]; omega)]
/-- The bytes from a on and below j added. -/
def addTo (g : UInt8 → Bool) (a j : Nat) : UInt8 → Bool := fun c => g c || (decide (a ≤ c.toNat) && decide (c.toNat < j))
theorem addTo_start (g : UInt8 → Bool) (a : Nat) : addTo g a a = g := by
  funext c
  unfold addTo
  have : (decide (a ≤ c.toNat) && decide (c.toNat < a)) = false := by
    rw [Bool.and_eq_false_iff]; simp; omega
  rw [this]; simp
theorem addTo_end (g : UInt8 → Bool) (a b : UInt8) : addTo g a.toNat (b.toNat + 1) = add g a b := by
  funext c
  unfold addTo add
  congr 2
  exact decide_eq_decide.2 (by omega)
theorem addTo_step (g : UInt8 → Bool) (a j : Nat) (ha : a ≤ j) (hj : j < 256) : (btab (addTo g a j) 256).setIfInBounds j (.bool true) = btab (addTo g a (j + 1)) 256 := by
  apply btab_upd _ _ j hj
  intro i hi
  have e : (UInt8.ofNat i).toNat = i := by rw [UInt8.toNat_ofNat']; omega
  unfold addTo
  rw [e]
  by_cases h : i = j
  · subst h; rw [if_pos rfl]; simp [ha]
  · rw [if_neg h]
    congr 2
    exact decide_eq_decide.2 (by omega)
/-- How much lies ahead, by the parser's own cell. -/
def ahead (s : ByteArray) (p : Nat) (W : World) : Nat := s.size - (intOf ((W.cell? ⟨p, 1, none⟩).getD undef)).toNat
theorem PS.ahead {W : World} {p : Nat} {s : ByteArray} {l : List UInt8} (h : PS W p s l) : Go.Proofs.Ytheblleadjbndaa.ahead s p W = l.length := by
  have c1 : W.cell? ⟨p, 1, none⟩ = some (.int .i64 ((s.size - l.length : Nat) : Int)) := h.at_.cell 1
  have := h.le
  unfold Go.Proofs.Ytheblleadjbndaa.ahead
  rw [c1]
  simp [intOf]
  omega
theorem PS.other {W : World} {p : Nat} {s : ByteArray} {l : List UInt8} (h : PS W p s l) (b i : Nat) (v : Value) (hne : p ≠ b) : PS (W.setCell ⟨b, i, none⟩ v) p s l := h.keep (h.at_.other v hne)
theorem PS.ofKeep {W W1 : World} {p q : Nat} {s : ByteArray} {l : List UInt8} (h : PS W p s l) (hk : Keep q W W1) (hne : p ≠ q) : PS W1 p s l := h.keep (h.at_.keep hk hne)

/-- What bracket has in memory: the set in block S, whether it is inverted in block I. -/
structure Br (W : World) (p : Nat) (s : ByteArray) (S I : Nat) (inv : Bool) (B : Nat) (g : UInt8 → Bool) (l : List UInt8) (wr : World) : Prop where
  ps : PS wr p s l
  set : At wr S (btab g 256) 102
  inv : At wr I #[.bool inv] 4
  keep : Keep p W wr
  size : B ≤ wr.heap.size
theorem Br.step {W : World} {p : Nat} {s : ByteArray} {S I : Nat} {inv : Bool} {B : Nat} {g : UInt8 → Bool} {l l' : List UInt8} {wr w2 : World} (h : Br W p s S I inv B g l wr) (hk : Keep p wr w2) (hp : PS w2 p s l') (hS : S ≠ p) (hI : I ≠ p) : Br W p s S I inv B g l' w2 :=
  ⟨hp, h.set.keep hk hS, h.inv.keep hk hI, h.keep.trans hk, Nat.le_trans h.size hk.size⟩
theorem Br.drewN {W : World} {p : Nat} {s : ByteArray} {S I : Nat} {inv : Bool} {B : Nat} {g : UInt8 → Bool} {l : List UInt8} {wr : World} (h : Br W p s S I inv B g l wr) (n : Nat) : Br W p s S I inv B g l (wr.drewN n) :=
  ⟨h.ps.drewN n, h.set.drewN n, h.inv.drewN n, h.keep.drewN n, h.size⟩

/-- Where the class's result stands. -/
def BrR (R : Option ((UInt8 → Bool) × List UInt8)) (en : Bool) (g : UInt8 → Bool) (l : List UInt8) : Prop := (en = true ∧ R = some (g, l)) ∨ (en = false ∧ ∃ m, l.length < m ∧ R = items m g l)
theorem BrR.none {R : Option ((UInt8 → Bool) × List UInt8)} {g : UInt8 → Bool} {l : List UInt8} (h : BrR R false g l) (hi : item l = .none) : R = .none := by
  rcases h with ⟨h, _⟩ | ⟨_, m, hm, rfl⟩
  · cases h
  · rcases m with _ | m
    · rfl
    · rw [items_succ, hi]; rfl
theorem BrR.lastNone {R : Option ((UInt8 → Bool) × List UInt8)} {g : UInt8 → Bool} {l r : List UInt8} {a : UInt8} (h : BrR R false g l) (hi : item l = some (a, r)) (hl : last a r = .none) : R = .none := by
  rcases h with ⟨h, _⟩ | ⟨_, m, hm, rfl⟩
  · cases h
  · rcases m with _ | m
    · rfl
    · rw [items_succ, hi]; simp only [Option.bind_some]; rw [hl]; rfl
theorem BrR.next {R : Option ((UInt8 → Bool) × List UInt8)} {g : UInt8 → Bool} {l r r' : List UInt8} {a b : UInt8} (h : BrR R false g l) (hi : item l = some (a, r)) (hl : last a r = some (b, r')) (hlen : r'.length < l.length) : BrR R (skipped 93 r').1 (add g a b) (skipped 93 r').2 := by
  rcases h with ⟨h, _⟩ | ⟨_, m, hm, rfl⟩
  · cases h
  · rcases m with _ | m
    · omega
    · have hs : (skipped 93 r').2.length ≤ r'.length := by
        unfold skipped
        rcases r' with _ | ⟨c, t⟩
        · exact Nat.le_refl _
        · simp only; split <;> simp
      rw [items_succ, hi]
      simp only [Option.bind_some]
      rw [hl]
      simp only [Option.bind_some]
      cases e : (skipped 93 r').1
      · exact .inr ⟨rfl, m, by omega, by simp⟩
      · exact .inl ⟨rfl, by simp⟩

set_option maxRecDepth 100000 in
set_option maxHeartbeats 2000000 in
theorem bracket_any (W : World) (p : Nat) (s : ByteArray) (l : List UInt8) (hs : s.size ≤ 1000) (h : PS W p s l) :
    Calls Try.prog 69 #[ptr p] W (UPost p s W (bracket l)) := by
  have HE := Lib.hid (bracket_eq l)
  have HS1 := Lib.hid (skip_any W p s 94 94 l rfl hs h)
  generalize hsk : skipped 94 l = sk at *
  obtain ⟨inv, l1⟩ := sk
  have hlt := h.lt
  clear hsk h
  have HR : ∃ R, R = items (l1.length + 1) (fun _ => false) l1 := ⟨_, rfl⟩
  obtain ⟨R, hR⟩ := HR
  have HRE := Lib.hid hR
  have HE2 : Hid (bracket l = R.map fun (g, r') => (.cls (fun c => g c != inv), r')) := Lib.hid (by rw [hR]; exact HE.out)
  clear hR HE
  unfold ptr
  go_enter Try.func69, Try.ntmps69
  go_wp2_with fail
  refine (HS1.out).mono ?_
  rintro e w1 ⟨rfl, hk1, hp1⟩
  have HK1 := Lib.hid hk1
  have HP1 := Lib.hid hp1
  have hlt1 : p < w1.heap.size := hp1.lt
  clear hk1 hp1
  go_wp2_with fail
  obtain ⟨I, hI⟩ : ∃ I, I = w1.heap.size := ⟨_, rfl⟩
  have hS : w1.heap.size + 1 = I + 1 := by rw [hI]
  have hbr : Br W p s (I + 1) I inv (I + 2) (fun _ => false) l1 ((w1.alloc (.cells #[.bool inv] 4)).alloc (.cells Try.zeroCells102 102)) := by
    subst hI
    refine ⟨(HP1.out.alloc _).alloc _, ?_, (At.new _ _ _).alloc _, (HK1.out.alloc _).alloc _, by simp⟩
    have e := At.new (w1.alloc (.cells #[.bool inv] 4)) Try.zeroCells102 102
    have e2 : btab (fun _ => false) 256 = Try.zeroCells102 := by
      rw [zero_class, ← btab_zero (fun _ => false)]
      apply Array.ext_getElem?
      intro i
      by_cases hi : i < 256
      · rw [btab_get _ _ i hi, btab_get _ _ i hi]; simp
      · rw [Array.getElem?_eq_none (by rw [btab_size]; omega), Array.getElem?_eq_none (by rw [btab_size]; omega)]
    rw [e2]
    simpa using e
  have hIp : p < I := by omega
  generalize ((w1.alloc (.cells #[.bool inv] 4)).alloc (.cells Try.zeroCells102 102)) = w2 at *
  rw [hS, ← hI]
  have hw0 : W.heap.size ≤ I := by rw [hI]; exact HK1.out.size
  clear hS hI hlt1 HS1 HK1 HP1
  go_loopw [6] (fun e6 wr => ∃ (en : Bool) (g : UInt8 → Bool) (lc : List UInt8), e6 = .bool en ∧ Br W p s (I + 1) I inv (I + 2) g lc wr ∧ BrR R en g lc) (fun _ wr => ahead s p wr)
  case atStart => exact ⟨false, _, _, rfl, hbr, .inr ⟨rfl, _, Nat.lt_succ_self _, HRE.out⟩⟩
  case round =>
    clear hbr
    obtain ⟨en, g, lc, rfl, hb, hrr⟩ := hrel
    cases en
    · have HB := Lib.hid hb
      have HRR := Lib.hid hrr
      have HI := Lib.hid (item_any wr p s lc hs hb.ps)
      clear hb hrr
      go_wp2_with fail
      refine (HI.out).mono ?_
      rintro e w3 ⟨hk3, h3⟩
      rcases hit : item lc with _ | ⟨a, r⟩
      · rw [hit] at h3
        simp only at h3
        subst h3
        have HIT := Lib.hid hit
        have HK3 := Lib.hid hk3
        clear hit hk3
        go_wp2_with fail
        go_ret2
        exact UPost.no (by rw [HE2.out, HRR.out.none HIT.out]; rfl) (HB.out.keep.trans HK3.out)
      · rw [hit] at h3
        simp only at h3
        obtain ⟨rfl, hp3⟩ := h3
        have HIT := Lib.hid hit
        have HB3 := Lib.hid (HB.out.step hk3 hp3 (by omega) (by omega))
        have HRG := Lib.hid (isRange_any w3 p s r hs hp3)
        clear hit hk3 hp3
        go_wp2_with fail
        refine (HRG.out).mono ?_
        rintro e w4 ⟨rfl, n4, rfl⟩
        have HLEN := Lib.hid (item_short HIT.out)
        have ha256 := a.toNat_lt
        cases hrg : isRange r
        · have HL : Hid (last a r = some (a, r)) := Lib.hid (by unfold last; rw [hrg]; rfl)
          have HB5 := Lib.hid (HB3.out.drewN n4)
          clear hrg
          generalize w3.drewN n4 = w5 at *
          go_wp2_with fail
          have HL5 := HL
          have HB6 := HB5
          have HN5 := HLEN
          go_loopw [10] (fun c wr => ∃ j : Nat, a.toNat ≤ j ∧ j ≤ a.toNat + 1 ∧ c = .int .i64 j ∧ Br W p s (I + 1) I inv (I + 2) (addTo g a.toNat j) r wr) (fun c _ => a.toNat + 1 - (intOf c).toNat)
          case atStart => exact ⟨a.toNat, Nat.le_refl _, by omega, rfl, by rw [addTo_start]; exact HB6.out⟩
          case round =>
            obtain ⟨j, hj1, hj2, rfl, hbj⟩ := hrel
            by_cases hlt : j ≤ a.toNat
            · have hj256 : j < 256 := by omega
              have g1 := hbj.set.free j
              have g0 : wr.cell? ⟨I + 1, j, none⟩ = some (.bool ((addTo g a.toNat j) (UInt8.ofNat j))) := by rw [hbj.set.cell j, btab_get _ 256 j hj256, if_pos hj256]
              have HJ := Lib.hid hbj
              have HST := Lib.hid (addTo_step g a.toNat j hj1 hj256)
              clear hbj
              go_wp2_with fail
              go_roundw
              case rel => exact ⟨j + 1, by omega, by omega, by go_num, ⟨HJ.out.ps.other _ _ _ (by omega), by rw [← HST.out]; exact HJ.out.set.set j _, HJ.out.inv.other _ (by show I ≠ I + 1; omega), HJ.out.keep.setNew _ _ (by omega) _, by simpa using HJ.out.size⟩⟩
              case measure => simp [intOf]; omega
            · obtain rfl : j = a.toNat + 1 := by omega
              have HJ := Lib.hid hbj
              have HSK := Lib.hid (skip_any wr p s 93 93 r rfl hs hbj.ps)
              have HNX := Lib.hid (HRR.out.next HIT.out HL5.out HN5.out)
              have HSL : Hid ((skipped 93 r).2.length ≤ (r).length) := Lib.hid (skipped_le 93 _)
              rw [addTo_end] at hbj
              have HJ2 := Lib.hid hbj
              clear hbj
              generalize skipped 93 r = sk at *
              obtain ⟨en', l'⟩ := sk
              go_wp2_with fail
              refine (HSK.out).mono ?_
              rintro e w8 ⟨rfl, hk8, hp8⟩
              have HB8 := Lib.hid (HJ2.out.step hk8 hp8 (by omega) (by omega))
              clear hk8 hp8
              go_wp2_with fail
              go_roundw
              case rel => exact ⟨en', _, l', rfl, HB8.out, HNX.out⟩
              case measure =>
                rw [HB8.out.ps.ahead, HB.out.ps.ahead]
                have h1 := HN5.out
                have h2 : l'.length ≤ _ := HSL.out
                omega
        · obtain ⟨t, rfl⟩ := isRange_some hrg
          have HRT := Lib.hid hrg
          have hp4 := HB3.out.ps
          have c1 : w3.cell? ⟨p, 1, none⟩ = some (.int .i64 ((s.size - (45 :: t).length : Nat) : Int)) := hp4.at_.cell 1
          have c2 := hp4.at_.free 1
          have hle : s.size - (45 :: t).length ≤ 1000 := by omega
          have HBM : Hid (((s.size - (45 :: t).length : Nat) : Int) + 1 = ((s.size - t.length : Nat) : Int)) := Lib.hid (by rw [hp4.next.2.2]; omega)
          have HP := Lib.hid hp4
          clear hrg hp4
          generalize s.size - (45 :: t).length = k at *
          have HP5 := Lib.hid (HP.out.bump n4 _ HBM.out)
          have HK5 : Hid (Keep p w3 ((w3.drewN n4).setCell ⟨p, 1, none⟩ (.int .i64 ((k : Int) + 1)))) := Lib.hid (((Keep.refl p w3).drewN n4).set _ _)
          go_wp2_with fail
          generalize ((w3.drewN n4).setCell ⟨p, 1, none⟩ (.int .i64 ((k : Int) + 1))) = w5 at *
          refine (item_any w5 p s t hs HP5.out).mono ?_
          rintro e w6 ⟨hk6, h6⟩
          rcases hit2 : item t with _ | ⟨b, r'⟩
          · rw [hit2] at h6
            simp only at h6
            subst h6
            have HIT2 := Lib.hid hit2
            have HK6 := Lib.hid hk6
            clear hit2 hk6
            go_wp2_with fail
            go_ret2
            exact UPost.no (by rw [HE2.out, HRR.out.lastNone HIT.out (by unfold last; rw [HRT.out]; simp [HIT2.out])]; rfl) ((HB3.out.keep.trans HK5.out).trans HK6.out)
          · rw [hit2] at h6
            simp only at h6
            obtain ⟨rfl, hp6⟩ := h6
            have HIT2 := Lib.hid hit2
            have HLEN2 := Lib.hid (item_short hit2)
            have HB6 := Lib.hid (HB3.out.step (HK5.out.trans hk6) hp6 (by omega) (by omega))
            clear hit2 hk6 hp6
            by_cases hba : b.toNat < a.toNat
            · have HL : Hid (last a (45 :: t) = none) := Lib.hid (by unfold last; rw [HRT.out]; simp [HIT2.out, hba])
              go_wp2_with fail
              go_ret2
              exact UPost.no (by rw [HE2.out, HRR.out.lastNone HIT.out HL.out]; rfl) HB6.out.keep
            · have HL5 : Hid (last a (45 :: t) = some (b, r')) := Lib.hid (by unfold last; rw [HRT.out]; simp [HIT2.out, hba])
              have hab : a.toNat ≤ b.toNat := by omega
              have hb256 := b.toNat_lt
              have HN5 : Hid (r'.length < lc.length) := Lib.hid (by have h1 := HLEN.out; have h2 := HLEN2.out; simp only [List.length_cons] at h1; omega)
              clear hba
              go_wp2_with fail
              go_loopw [10] (fun c wr => ∃ j : Nat, a.toNat ≤ j ∧ j ≤ b.toNat + 1 ∧ c = .int .i64 j ∧ Br W p s (I + 1) I inv (I + 2) (addTo g a.toNat j) r' wr) (fun c _ => b.toNat + 1 - (intOf c).toNat)
              case atStart => exact ⟨a.toNat, Nat.le_refl _, by omega, rfl, by rw [addTo_start]; exact HB6.out⟩
              case round =>
                obtain ⟨j, hj1, hj2, rfl, hbj⟩ := hrel
                by_cases hlt : j ≤ b.toNat
                · have hj256 : j < 256 := by omega
                  have g1 := hbj.set.free j
                  have g0 : wr.cell? ⟨I + 1, j, none⟩ = some (.bool ((addTo g a.toNat j) (UInt8.ofNat j))) := by rw [hbj.set.cell j, btab_get _ 256 j hj256, if_pos hj256]
                  have HJ := Lib.hid hbj
                  have HST := Lib.hid (addTo_step g a.toNat j hj1 hj256)
                  clear hbj
                  go_wp2_with fail
                  go_roundw
                  case rel => exact ⟨j + 1, by omega, by omega, by go_num, ⟨HJ.out.ps.other _ _ _ (by omega), by rw [← HST.out]; exact HJ.out.set.set j _, HJ.out.inv.other _ (by show I ≠ I + 1; omega), HJ.out.keep.setNew _ _ (by omega) _, by simpa using HJ.out.size⟩⟩
                  case measure => simp [intOf]; omega
                · obtain rfl : j = b.toNat + 1 := by omega
                  have HJ := Lib.hid hbj
                  have HSK := Lib.hid (skip_any wr p s 93 93 r' rfl hs hbj.ps)
                  have HNX := Lib.hid (HRR.out.next HIT.out HL5.out HN5.out)
                  have HSL : Hid ((skipped 93 r').2.length ≤ (r').length) := Lib.hid (skipped_le 93 _)
                  rw [addTo_end] at hbj
                  have HJ2 := Lib.hid hbj
                  clear hbj
                  generalize skipped 93 r' = sk at *
                  obtain ⟨en', l'⟩ := sk
                  go_wp2_with fail
                  refine (HSK.out).mono ?_
                  rintro e w8 ⟨rfl, hk8, hp8⟩
                  have HB8 := Lib.hid (HJ2.out.step hk8 hp8 (by omega) (by omega))
                  clear hk8 hp8
                  go_wp2_with fail
                  go_roundw
                  case rel => exact ⟨en', _, l', rfl, HB8.out, HNX.out⟩
                  case measure =>
                    rw [HB8.out.ps.ahead, HB.out.ps.ahead]
                    have h1 := HN5.out
                    have h2 : l'.length ≤ _ := HSL.out
                    omega
    · have HB := Lib.hid hb
      have hR : R = some (g, lc) := by
        rcases hrr with ⟨_, h⟩ | ⟨h, _⟩
        · exact h
        · cases h
      have HRS := Lib.hid hR
      have HW := Lib.hid (where_class (I + 1) I g inv wr hb.set hb.inv)
      clear hb hrr hR
      go_wp2_with fail
      refine (HW.out).mono ?_
      rintro e w5 ⟨rfl, hb5, hat5⟩
      have HB5 := Lib.hid hb5
      have HA5 := Lib.hid hat5
      clear hb5 hat5
      go_wp2_with fail
      go_ret2
      refine UPost.yes _ (by rw [HE2.out, HRS.out]; rfl) ((HB.out.keep.trans (Keep.below HB5.out)).alloc _) (isU_cls ?_ _ HB5.out HA5.out rfl rfl) ((HB.out.ps.below HB5.out).alloc _)
      exact HB.out.keep.size
end Go.Proofs.Ytheblleadjbndaa

namespace Go.Proofs.Ytheblleadjbndaa
open Go.RowKit

section
variable {P : Program} (w : World)
theorem run_append_where (t ty e : TypeId) (i : TypeInfo) (z : Value) (size bytes : Nat) (ht : P.underlying t = some (.slice e)) (hi : P.info? e = some i) (hz : i.zero = some z)
    (hsize : i.size = size) (hby : i.bytes = bytes) (hzs : z.cells.size = size) (hsz : 0 < size)
    (v : Value) (n : Nat) (xs : List Value) (hown : w.ownsRow 0 e size v n xs)
    (a : Addr) (m c : Nat) (news : List Value) (hm : 0 < m) (hl : news.length = m * size) (hnews : ∀ j u, news[j]? = some u → w.cell? (a.add j) = some u) (h1 : ∀ u ∈ news, u.oneCell' = true)
    (h63 : n + m ≤ maxLen) (hbytes : (n + m) * bytes ≤ 140737488355328) :
    ∃ v' w', (Builtin.append_ #[t, t] ty #[v, .slice (some a) m c]).run P w = .ok v' w' ∧ w'.ownsRow 0 e size v' (n + m) (xs ++ news) ∧ w.grownBy w' v.ownBlock ∧
      (v'.ownBlock = v.ownBlock ∨ v'.ownBlock = some w.heap.size) := by
  obtain ⟨v', w', hr, h2, h3, _⟩ := run_append_own (P := P) w 0 t ty e i z size bytes ht hi hz hsize hby hzs hsz v n xs hown a m c news hl hnews h1 h63 hbytes (Nat.zero_le _)
  refine ⟨v', w', hr, h2, h3, ?_⟩
  have hlim : n + m ≤ 9223372036854775807 := by simp only [maxLen] at h63; omega
  rcases hown.2 with ⟨rfl, rfl⟩ | ⟨g, cap, cur, rfl, _, hg, hnc, hcm, hcs, htake⟩
  · have hr2 := run_append_nil (P := P) w t ty e i z ht hi hz a m c news (by rw [hsize]; exact hl) hnews hm (by omega) (by rw [hby]; simp only [Nat.zero_add] at hbytes; omega)
    rw [hr2] at hr
    injection hr with e1 _
    subst e1
    exact .inr rfl
  · by_cases hroom : n + m ≤ cap
    · have hr2 := run_append_room (P := P) w t ty e i ht hi g n cap cur hg a m c news (by rw [hsize]; exact hl) hnews h1 hroom (by rw [hsize, hl, hcs, ← Nat.add_mul]; exact Nat.mul_le_mul_right _ hroom)
      rw [hr2] at hr
      injection hr with e1 _
      subst e1
      exact .inl rfl
    · have hr2 := run_append_grow (P := P) w t ty e i z ht hi hz ⟨g, 0, none⟩ n cap xs (by rw [hsize]; exact hown.1) (hown.cells (g := g) rfl) a m c news (by rw [hsize]; exact hl) hnews (by omega) (by omega) (by rw [hby]; exact growslice_fits (by omega) hbytes)
      rw [hr2] at hr
      injection hr with e1 _
      subst e1
      exact .inr rfl

theorem wpList_append_where {ops : Array Oper} {rest : List Oper} {o : Oper} {a : Act} {Q : Exit → Act → World → Prop} (hgd : o.guard = none) (s x : Operand) (t : TypeId)
    (ho : o.op = .call { callee := .builtin .append, args := #[s, x], argTypes := #[t, t] })
    (e : TypeId) (i : TypeInfo) (z : Value) (size bytes : Nat) (ht : P.underlying t = some (.slice e)) (hi : P.info? e = some i) (hz : i.zero = some z)
    (hsize : i.size = size) (hby : i.bytes = bytes) (hzs : z.cells.size = size) (hsz : 0 < size)
    (v : Value) (n : Nat) (xs : List Value) (hs : a.eval s = v) (hown : w.ownsRow 0 e size v n xs)
    (ad : Addr) (m c : Nat) (news : List Value) (hx : a.eval x = .slice (some ad) m c) (hm : 0 < m) (hl : news.length = m * size) (hnews : ∀ j u, news[j]? = some u → w.cell? (ad.add j) = some u) (h1 : ∀ u ∈ news, u.oneCell' = true)
    (h63 : n + m ≤ maxLen) (hbytes : (n + m) * bytes ≤ 140737488355328)
    (h : ∀ v' w', w'.ownsRow 0 e size v' (n + m) (xs ++ news) → w.grownBy w' v.ownBlock → (v'.ownBlock = v.ownBlock ∨ v'.ownBlock = some w.heap.size) → wpList P ops Q rest (a.put o.dst v') w') : wpList P ops Q (o :: rest) a w := by
  refine wpList_plain hgd fun K hK => ?_
  obtain ⟨v', w', hr, h2, h3, h4⟩ := run_append_where (P := P) w t o.type e i z size bytes ht hi hz hsize hby hzs hsz v n xs hown ad m c news hm hl hnews h1 h63 hbytes
  unfold Oper.wp execOp
  simp only [ho, resolve, invoke, builtin, Sem.run_bind, Sem.run_pure, Result.andThen_ok, List.map_toArray, List.map_cons, List.map_nil, hs, hx, hr]
  exact hK _ _ (h v' w' h2 h3 h4)
end
end Go.Proofs.Ytheblleadjbndaa

namespace Go.Proofs
open Go.Shelf
def Try.lays137_ren : Go.Shelf.Ren := ⟨fun | 137 => 34 | 217 => 45 | 266 => 55 | n => n, fun | 9 => 9 | 5 => 5 | 3 => 3 | n => n, fun | n => n⟩
theorem Try.lays137 : Go.Proofs.Lays.n137 Try.prog Try.lays137_ren := {
  mixed := by kernel_rfl
  f137 := Try.func34.trans (congrArg some (by kernel_rfl))
  f217 := Try.func45.trans (congrArg some (by kernel_rfl))
  f266 := Try.func55.trans (congrArg some (by kernel_rfl))
  t3 := Try.underlying3
  a3 := Try.isAgg3
  z3 := Try.sizeOf3
  v3 := Try.zeroValue3
  t5 := Try.underlying5
  a5 := Try.isAgg5
  z5 := Try.sizeOf5
  v5 := Try.zeroValue5
  t9 := Try.underlying9
  a9 := Try.isAgg9
  z9 := Try.sizeOf9
  v9 := Try.zeroValue9 }
open Go.RowKit in
/-- strings.IndexByte: "IndexByte returns the index of the first instance of c in s, or -1 if c is not present in s.": IT RETURNS 'Lib.indexByte s c'; the world is as it was. (LAID: no walk: one application.) -/
theorem Try.strings_IndexByte (s : ByteArray) (c : Int) (w : World) :
    Calls Try.prog 34 #[.string s, .int .u8 c] w fun e w' => e = .returned (.int .i64 (Lib.indexByte s.data.toList c.toNat.toUInt8)) ∧ w' = w := Any.strings_IndexByte Try.lays137 s c w
def Try.lays217_ren : Go.Shelf.Ren := ⟨fun | 217 => 45 | 266 => 55 | n => n, fun | 9 => 9 | 5 => 5 | 3 => 3 | n => n, fun | n => n⟩
theorem Try.lays217 : Go.Proofs.Lays.n217 Try.prog Try.lays217_ren := {
  mixed := by kernel_rfl
  f217 := Try.func45.trans (congrArg some (by kernel_rfl))
  f266 := Try.func55.trans (congrArg some (by kernel_rfl))
  t3 := Try.underlying3
  a3 := Try.isAgg3
  z3 := Try.sizeOf3
  v3 := Try.zeroValue3
  t5 := Try.underlying5
  a5 := Try.isAgg5
  z5 := Try.sizeOf5
  v5 := Try.zeroValue5
  t9 := Try.underlying9
  a9 := Try.isAgg9
  z9 := Try.sizeOf9
  v9 := Try.zeroValue9 }
open Go.RowKit Go.Lib in
/-- internal/stringslite.IndexByte (what strings.IndexByte calls): IT RETURNS 'Lib.indexByte s c'; the world is as it was. (LAID: no walk: one application.) -/
theorem Try.stringslite_IndexByte (s : ByteArray) (c : Int) (w : World) :
    Calls Try.prog 45 #[.string s, .int .u8 c] w fun e w' => e = .returned (.int .i64 (Lib.indexByte s.data.toList c.toNat.toUInt8)) ∧ w' = w := Any.stringslite_IndexByte Try.lays217 s c w
def Try.lays206_ren : Go.Shelf.Ren := ⟨fun | 206 => 33 | n => n, fun | 9 => 9 | 4 => 4 | 3 => 3 | n => n, fun | n => n⟩
theorem Try.lays206 : Go.Proofs.Lays.n206 Try.prog Try.lays206_ren := {
  mixed := by kernel_rfl
  f206 := Try.func33.trans (congrArg some (by kernel_rfl))
  t3 := Try.underlying3
  a3 := Try.isAgg3
  z3 := Try.sizeOf3
  v3 := Try.zeroValue3
  t4 := Try.underlying4
  a4 := Try.isAgg4
  z4 := Try.sizeOf4
  v4 := Try.zeroValue4
  t9 := Try.underlying9
  a9 := Try.isAgg9
  z9 := Try.sizeOf9
  v9 := Try.zeroValue9 }
open Go.RowKit Go.Lib in
/-- internal/stringslite.HasPrefix (what strings.HasPrefix calls). (LAID: no walk: one application.) -/
theorem Try.stringslite_HasPrefix (s p : ByteArray) (w : World) :
    Calls Try.prog 33 #[.string s, .string p] w fun e w' => e = .returned (.bool (Lib.hasPrefix s.data.toList p.data.toList)) ∧ w' = w := Any.stringslite_HasPrefix Try.lays206 s p w
def Try.lays99_ren : Go.Shelf.Ren := ⟨fun | 99 => 21 | 206 => 33 | n => n, fun | 9 => 9 | 4 => 4 | 3 => 3 | n => n, fun | n => n⟩
theorem Try.lays99 : Go.Proofs.Lays.n99 Try.prog Try.lays99_ren := {
  mixed := by kernel_rfl
  f99 := Try.func21.trans (congrArg some (by kernel_rfl))
  f206 := Try.func33.trans (congrArg some (by kernel_rfl))
  t3 := Try.underlying3
  a3 := Try.isAgg3
  z3 := Try.sizeOf3
  v3 := Try.zeroValue3
  t4 := Try.underlying4
  a4 := Try.isAgg4
  z4 := Try.sizeOf4
  v4 := Try.zeroValue4
  t9 := Try.underlying9
  a9 := Try.isAgg9
  z9 := Try.sizeOf9
  v9 := Try.zeroValue9 }
open Go.RowKit Go.Lib in
/-- strings.HasPrefix: "HasPrefix reports whether the string s begins with prefix.": IT RETURNS 'Lib.hasPrefix s prefix'; the world is as it was. (LAID: no walk: one application.) -/
theorem Try.strings_HasPrefix (s p : ByteArray) (w : World) :
    Calls Try.prog 21 #[.string s, .string p] w fun e w' => e = .returned (.bool (Lib.hasPrefix s.data.toList p.data.toList)) ∧ w' = w := Any.strings_HasPrefix Try.lays99 s p w
end Go.Proofs

namespace Go.Proofs.Ytheblleadjbndaa
open Go.RowKit Rx

/-- What choice hands back. -/
def APost (p : Nat) (s : ByteArray) (W : World) (res : Option (As × List UInt8)) (e : Ending) (w' : World) : Prop :=
  Keep p W w' ∧ match res with
  | none => e = .returned (.tuple #[.pointer none, .bool false])
  | some (a, l') => ∃ v, e = .returned (.tuple #[v, .bool true]) ∧ IsA (Fresh W w') w' a v ∧ PS w' p s l'
/-- What sequence hands back. -/
def SPost (p : Nat) (s : ByteArray) (W : World) (res : Option (Ss × List UInt8)) (e : Ending) (w' : World) : Prop :=
  Keep p W w' ∧ match res with
  | none => e = .returned (.tuple #[.pointer none, .bool false])
  | some (x, l') => ∃ v, e = .returned (.tuple #[v, .bool true]) ∧ Node (Fresh W w') w' 1 v (fun xs => IsSl (Fresh W w') w' x xs) ∧ PS w' p s l'
theorem Fresh.mono {W W1 w' : World} (h : W.heap.size ≤ W1.heap.size) {k : Nat} (hk : Fresh W1 w' k) : Fresh W w' k := ⟨Nat.le_trans h hk.1, hk.2⟩
theorem UPost.ofKeep {p : Nat} {s : ByteArray} {W W1 w' : World} {res : Option (U × List UInt8)} {e : Ending} (h : UPost p s W1 res e w') (hk : Keep p W W1) : UPost p s W res e w' := by
  obtain ⟨h1, h2⟩ := h
  refine ⟨hk.trans h1, ?_⟩
  rcases res with _ | ⟨u, l'⟩
  · exact h2
  · obtain ⟨v, h3, h4, h5⟩ := h2
    exact ⟨v, h3, IsU.same (Same.refl _ _) (fun k => Fresh.mono hk.size) u v h4, h5⟩

theorem special_no {c : UInt8} (h : special c = false) : Lib.indexByte [46, 91, 93, 40, 41, 124, 42, 43, 63, 92] c = -1 := by
  have h2 : c ∉ [46, 91, 93, 40, 41, 124, 42, 43, 63, 92] := fun hm => by
    unfold special at h
    rw [List.contains_iff_mem.2 hm] at h; cases h
  have g : ∀ (l : List UInt8), c ∉ l → Lib.indexByte l c = -1 := by
    intro l
    induction l with
    | nil => intro _; rfl
    | cons b l ih =>
      intro hm
      rw [List.mem_cons, not_or] at hm
      unfold Lib.indexByte
      rw [if_neg (by rw [beq_iff_eq]; exact fun e => hm.1 e.symm), ih hm.2]; rfl
  exact g _ h2
theorem special_yes {c : UInt8} (h : special c = true) : 0 ≤ Lib.indexByte [46, 91, 93, 40, 41, 124, 42, 43, 63, 92] c := by
  have h2 : c ∈ [46, 91, 93, 40, 41, 124, 42, 43, 63, 92] := by
    unfold special at h
    exact List.contains_iff_mem.1 h
  have g : ∀ (l : List UInt8), c ∈ l → 0 ≤ Lib.indexByte l c := by
    intro l
    induction l with
    | nil => intro hm; cases hm
    | cons b l ih =>
      intro hm
      unfold Lib.indexByte
      split
      · exact Int.le_refl _
      · rename_i hb
        have hcl : c ∈ l := by
          rcases List.mem_cons.1 hm with e | e
          · exact absurd (by rw [beq_iff_eq]; exact e.symm) hb
          · exact e
        have := ih hcl
        rw [if_neg (by rw [beq_iff_eq]; omega)]
        omega
  exact g _ h2
theorem byte_back (c : UInt8) : (c.toNat : Int).toNat.toUInt8 = c := by simp
theorem index_no (c : UInt8) (w : World) (h : special c = false) :
    Calls Try.prog 34 #[.string ⟨#[46, 91, 93, 40, 41, 124, 42, 43, 63, 92]⟩, .int .u8 c.toNat] w fun e w' => e = .returned (.int .i64 (-1)) ∧ w' = w := by
  refine (Try.strings_IndexByte _ _ w).mono ?_
  rintro e w' ⟨rfl, rfl⟩
  rw [byte_back]
  exact ⟨ret_int (special_no h), rfl⟩
theorem index_yes (c : UInt8) (w : World) (h : special c = true) :
    Calls Try.prog 34 #[.string ⟨#[46, 91, 93, 40, 41, 124, 42, 43, 63, 92]⟩, .int .u8 c.toNat] w fun e w' => (∃ n : Nat, e = .returned (.int .i64 n)) ∧ w' = w := by
  refine (Try.strings_IndexByte _ _ w).mono ?_
  rintro e w' ⟨rfl, rfl⟩
  rw [byte_back]
  have := special_yes h
  exact ⟨⟨(Lib.indexByte [46, 91, 93, 40, 41, 124, 42, 43, 63, 92] c).toNat, ret_int (by show Lib.indexByte [46, 91, 93, 40, 41, 124, 42, 43, 63, 92] c = _; omega)⟩, rfl⟩

/-- choice does what is told, with so many steps. -/
def AltOK (n : Nat) : Prop := ∀ (W : World) (p : Nat) (s : ByteArray) (l : List UInt8), s.size ≤ 1000 → PS W p s l → 4 * l.length + 3 ≤ n → Calls Try.prog 38 #[ptr p] W (APost p s W (alts n l))
def SeqOK (n : Nat) : Prop := ∀ (W : World) (p : Nat) (s : ByteArray) (l : List UInt8), s.size ≤ 1000 → PS W p s l → 4 * l.length + 2 ≤ n → Calls Try.prog 49 #[ptr p] W (SPost p s W (seqs n l))
def AtomOK (n : Nat) : Prop := ∀ (W : World) (p : Nat) (s : ByteArray) (l : List UInt8), s.size ≤ 1000 → PS W p s l → 4 * l.length + 1 ≤ n → Calls Try.prog 65 #[ptr p] W (UPost p s W (atom n l))
theorem AtomOK.mono {n : Nat} : AtomOK n → AtomOK n := id

theorem atom_grp (n : Nat) (r : List UInt8) : atom (n + 1) (40 :: r) = (alts n r).bind fun (a, r') => if (skipped 41 r').1 then some (.grp a, (skipped 41 r').2) else none := by
  simp only [atom]
  rw [if_pos trivial]
  rcases alts n r with _ | ⟨a, r'⟩
  · rfl
  simp only [Option.bind_some]
  rcases r' with _ | ⟨c, t⟩
  · rfl
  · by_cases hc : c = 41
    · subst hc; rfl
    · simp only [skipped, if_neg hc]
      split
      · rename_i h
        exact absurd (List.cons.inj h).1 hc
      · rfl

set_option maxHeartbeats 1000000 in
theorem atom_ok (n : Nat) (hA : AltOK n) : AtomOK (n + 1) := by
  intro W p s l hs h hn
  rcases l with _ | ⟨c, r⟩
  · unfold ptr
    go_enter Try.func65, Try.ntmps65
    go_wp2_with fail
    refine (peek_end W p s h).mono ?_
    rintro e w' ⟨rfl, n, rfl⟩
    go_wp2_with fail
    go_ret2
    exact UPost.no rfl ((Keep.refl _ _).drewN _)
  have c1 : W.cell? ⟨p, 1, none⟩ = some (.int .i64 ((s.size - (c :: r).length : Nat) : Int)) := h.at_.cell 1
  have c2 := h.at_.free 1
  have hle : s.size - (c :: r).length ≤ 1000 := by omega
  have HB : Hid (((s.size - (c :: r).length : Nat) : Int) + 1 = ((s.size - r.length : Nat) : Int)) := Lib.hid (by rw [h.next.2.2]; omega)
  have HP := Lib.hid h
  have HN : Hid (4 * r.length + 3 ≤ n) := Lib.hid (by simp only [List.length_cons] at hn; omega)
  have HA := Lib.hid hA
  clear h hn hA
  generalize s.size - (c :: r).length = k at *
  by_cases h1 : c.toNat = 40
  · have d1 : ((c.toNat : Int) == 40) = true := by rw [h1]; rfl
    have HE : Hid (atom (n + 1) (c :: r) = (alts n r).bind fun (a, r') => if (skipped 41 r').1 then some (.grp a, (skipped 41 r').2) else none) := Lib.hid (by rw [show c = 40 from u8_eq (by decide) h1]; exact atom_grp n r)
    clear h1
    unfold ptr
    go_enter Try.func65, Try.ntmps65
    go_wp2_with fail
    refine (peek_in W p s c r HP.out).mono ?_
    rintro e w' ⟨rfl, m, rfl⟩
    go_wp2_with fail
    have HP1 := Lib.hid (HP.out.bump m _ HB.out)
    have HK1 : Hid (Keep p W ((W.drewN m).setCell ⟨p, 1, none⟩ (.int .i64 ((k : Int) + 1)))) := Lib.hid (((Keep.refl p W).drewN m).set _ _)
    generalize ((W.drewN m).setCell ⟨p, 1, none⟩ (.int .i64 ((k : Int) + 1))) = W1 at *
    refine (HA.out W1 p s r hs HP1.out HN.out).mono ?_
    rintro e w2 ⟨hk2, h2⟩
    have HK2 := Lib.hid hk2
    clear hk2
    rcases hal : alts n r with _ | ⟨a, r'⟩
    · rw [hal] at h2
      simp only at h2
      subst h2
      have HAL := Lib.hid hal
      clear hal
      go_wp2_with fail
      go_ret2
      exact UPost.no (by rw [HE.out, HAL.out]; rfl) (HK1.out.trans HK2.out)
    · rw [hal] at h2
      simp only at h2
      obtain ⟨v, rfl, hia, hp2⟩ := h2
      have HAL := Lib.hid hal
      have HIA := Lib.hid hia
      have HSK := Lib.hid (skip_any w2 p s 41 41 r' rfl hs hp2)
      clear hal hia hp2
      generalize hsk : skipped 41 r' = sk at *
      obtain ⟨b, l'⟩ := sk
      have HSE := Lib.hid hsk
      clear hsk
      go_wp2_with fail
      refine (HSK.out).mono ?_
      rintro e w3 ⟨rfl, hk3, hp3⟩
      have HK3 := Lib.hid hk3
      have HP3 := Lib.hid hp3
      clear hk3 hp3
      cases b
      · go_wp2_with fail
        go_ret2
        exact UPost.no (by rw [HE.out, HAL.out]; simp [HSE.out]) ((HK1.out.trans HK2.out).trans HK3.out)
      · go_wp2_with fail
        go_ret2
        refine UPost.yes v (by rw [HE.out, HAL.out]; simp only [Option.bind_some]; rw [HSE.out]; rfl) ((HK1.out.trans HK2.out).trans HK3.out) ?_ HP3.out
        unfold IsU
        have hf := Fresh.keep (W := W1) HK3.out HP1.out.lt
        exact IsA.same hf.1 (fun k hk => Fresh.mono HK1.out.size (hf.2 k hk)) a v HIA.out
  have e1 : ((c.toNat : Int) == 40) = false := by rw [beq_eq_false_iff_ne]; omega
  have g1 : ¬ c = 40 := fun h => h1 (by rw [h]; rfl)
  clear h1 HA
  by_cases h2 : c.toNat = 91
  · have d1 : ((c.toNat : Int) == 91) = true := by rw [h2]; rfl
    have HE : Hid (atom (n + 1) (c :: r) = bracket r) := Lib.hid (by simp only [atom]; rw [if_neg g1, show c = 91 from u8_eq (by decide) h2]; rfl)
    clear h2 g1
    unfold ptr
    go_enter Try.func65, Try.ntmps65
    go_wp2_with fail
    refine (peek_in W p s c r HP.out).mono ?_
    rintro e w' ⟨rfl, m, rfl⟩
    go_wp2_with fail
    have HP1 := Lib.hid (HP.out.bump m _ HB.out)
    have HK1 : Hid (Keep p W ((W.drewN m).setCell ⟨p, 1, none⟩ (.int .i64 ((k : Int) + 1)))) := Lib.hid (((Keep.refl p W).drewN m).set _ _)
    generalize ((W.drewN m).setCell ⟨p, 1, none⟩ (.int .i64 ((k : Int) + 1))) = W1 at *
    refine (bracket_any W1 p s r hs HP1.out).mono ?_
    intro e w2 h2
    have H2 := Lib.hid (h2.ofKeep HK1.out)
    rcases hbr : bracket r with _ | ⟨u, l'⟩
    · rw [hbr] at h2
      obtain ⟨_, h2⟩ := h2
      simp only at h2
      subst h2
      clear hbr
      go_wp2_with fail
      go_ret2
      rw [HE.out]
      exact H2.out
    · rw [hbr] at h2
      obtain ⟨_, v, rfl, _, _⟩ := h2
      clear hbr
      go_wp2_with fail
      go_ret2
      rw [HE.out]
      exact H2.out
  have e2 : ((c.toNat : Int) == 91) = false := by rw [beq_eq_false_iff_ne]; omega
  have g2 : ¬ c = 91 := fun h => h2 (by rw [h]; rfl)
  clear h2
  by_cases h3 : c.toNat = 46
  · have d1 : ((c.toNat : Int) == 46) = true := by rw [h3]; rfl
    have HE : Hid (atom (n + 1) (c :: r) = some (.cls fun _ => true, r)) := Lib.hid (by simp only [atom]; rw [if_neg g1, if_neg g2, show c = 46 from u8_eq (by decide) h3]; rfl)
    clear h3 g1 g2
    unfold ptr
    go_enter Try.func65, Try.ntmps65
    go_wp2_with fail
    refine (peek_in W p s c r HP.out).mono ?_
    rintro e w' ⟨rfl, m, rfl⟩
    go_wp2_with fail
    refine (where_any 71 (fun _ => true) _ (fun c w => enter_f _ c w (.inr (.inr rfl))) all_any).mono ?_
    rintro e w' ⟨rfl, hb, hat⟩
    go_wp2_with fail
    go_ret2
    exact post_cls HP.out HB.out HE.out hb hat rfl (by simp [ptr])
  have e3 : ((c.toNat : Int) == 46) = false := by rw [beq_eq_false_iff_ne]; omega
  have g3 : ¬ c = 46 := fun h => h3 (by rw [h]; rfl)
  clear h3
  by_cases h4 : c.toNat = 92
  · have d1 : ((c.toNat : Int) == 92) = true := by rw [h4]; rfl
    rcases r with _ | ⟨d, r'⟩
    · have HE : Hid (atom (n + 1) [c] = none) := Lib.hid (by simp only [atom]; rw [if_neg g1, if_neg g2, if_neg g3, show c = 92 from u8_eq (by decide) h4]; rfl)
      clear h4 g1 g2 g3
      unfold ptr
      go_enter Try.func65, Try.ntmps65
      go_wp2_with fail
      refine (peek_in W p s c _ HP.out).mono ?_
      rintro e w' ⟨rfl, m, rfl⟩
      go_wp2_with fail
      have HP1 := Lib.hid (HP.out.bump m _ HB.out)
      have HK1 : Hid (Keep p W ((W.drewN m).setCell ⟨p, 1, none⟩ (.int .i64 ((k : Int) + 1)))) := Lib.hid (((Keep.refl p W).drewN m).set _ _)
      generalize ((W.drewN m).setCell ⟨p, 1, none⟩ (.int .i64 ((k : Int) + 1))) = W1 at *
      refine (escape_end W1 p s HP1.out).mono ?_
      rintro e w2 ⟨hk2, h2⟩
      simp only at h2
      subst h2
      have HK2 := Lib.hid hk2
      clear hk2
      go_wp2_with fail
      go_ret2
      exact UPost.no HE.out (HK1.out.trans HK2.out)
    · have HE : Hid (atom (n + 1) (c :: d :: r') = (escU d).map fun u => (u, r')) := Lib.hid (by simp only [atom]; rw [if_neg g1, if_neg g2, if_neg g3, show c = 92 from u8_eq (by decide) h4]; rfl)
      clear h4 g1 g2 g3
      unfold ptr
      go_enter Try.func65, Try.ntmps65
      go_wp2_with fail
      refine (peek_in W p s c _ HP.out).mono ?_
      rintro e w' ⟨rfl, m, rfl⟩
      go_wp2_with fail
      have HP1 := Lib.hid (HP.out.bump m _ HB.out)
      have HK1 : Hid (Keep p W ((W.drewN m).setCell ⟨p, 1, none⟩ (.int .i64 ((k : Int) + 1)))) := Lib.hid (((Keep.refl p W).drewN m).set _ _)
      generalize ((W.drewN m).setCell ⟨p, 1, none⟩ (.int .i64 ((k : Int) + 1))) = W1 at *
      refine (escape_in W1 p s d r' hs HP1.out).mono ?_
      intro e w2 h2
      have H2 := Lib.hid (h2.ofKeep HK1.out)
      rcases hbr : (escU d).map fun u => (u, r') with _ | ⟨u, l'⟩
      · rw [hbr] at h2
        obtain ⟨_, h2⟩ := h2
        simp only at h2
        subst h2
        clear hbr
        go_wp2_with fail
        go_ret2
        rw [HE.out]
        exact H2.out
      · rw [hbr] at h2
        obtain ⟨_, v, rfl, _, _⟩ := h2
        clear hbr
        go_wp2_with fail
        go_ret2
        rw [HE.out]
        exact H2.out
  have e4 : ((c.toNat : Int) == 92) = false := by rw [beq_eq_false_iff_ne]; omega
  have g4 : ¬ c = 92 := fun h => h4 (by rw [h]; rfl)
  clear h4
  have HE0 : Hid (atom (n + 1) (c :: r) = if special c then none else some (.byte c, r)) := Lib.hid (by simp only [atom]; rw [if_neg g1, if_neg g2, if_neg g3, if_neg g4])
  clear g1 g2 g3 g4
  cases hsp : special c
  · have HE : Hid (atom (n + 1) (c :: r) = some (.byte c, r)) := Lib.hid (by rw [HE0.out, hsp]; rfl)
    have HI := Lib.hid (fun w => index_no c w hsp)
    clear hsp HE0
    unfold ptr
    go_enter Try.func65, Try.ntmps65
    go_wp2_with fail
    refine (peek_in W p s c _ HP.out).mono ?_
    rintro e w' ⟨rfl, m, rfl⟩
    go_wp2_with fail
    refine (HI.out _).mono ?_
    rintro e w' ⟨rfl, rfl⟩
    go_wp2_with fail
    refine (plainByte_any _ _).mono ?_
    rintro e w' ⟨rfl, rfl⟩
    go_wp2_with fail
    go_ret2
    exact post_byte HP.out HB.out HE.out rfl rfl
  · have HE : Hid (atom (n + 1) (c :: r) = none) := Lib.hid (by rw [HE0.out, hsp]; rfl)
    have HI := Lib.hid (fun w => index_yes c w hsp)
    clear hsp HE0
    unfold ptr
    go_enter Try.func65, Try.ntmps65
    go_wp2_with fail
    refine (peek_in W p s c _ HP.out).mono ?_
    rintro e w' ⟨rfl, m, rfl⟩
    go_wp2_with fail
    refine (HI.out _).mono ?_
    rintro e w' ⟨⟨j, rfl⟩, rfl⟩
    go_wp2_with fail
    go_ret2
    exact UPost.no HE.out (((Keep.refl p W).drewN m).set _ _)
end Go.Proofs.Ytheblleadjbndaa

namespace Go.Proofs.Ytheblleadjbndaa
open Go.RowKit Rx

theorem skipped_no {k : UInt8} {l : List UInt8} (h : (skipped k l).1 = false) : (skipped k l).2 = l := by
  unfold skipped at h ⊢
  rcases l with _ | ⟨c, t⟩
  · rfl
  · simp only at h ⊢
    split
    · rename_i hc; rw [if_pos hc] at h; cases h
    · rfl
theorem quant_eq (u : U) (l : List UInt8) : quant u l = if (skipped 42 l).1 then (.star u, (skipped 42 l).2) else if (skipped 43 l).1 then (.plus u, (skipped 43 l).2) else if (skipped 63 l).1 then (.opt u, (skipped 63 l).2) else (u, l) := by
  rcases l with _ | ⟨c, t⟩
  · rfl
  · by_cases h1 : c = 42
    · subst h1; rfl
    · by_cases h2 : c = 43
      · subst h2; rfl
      · by_cases h3 : c = 63
        · subst h3; rfl
        · simp only [skipped, if_neg h1, if_neg h2, if_neg h3]
          unfold quant
          split
          · rename_i h; exact absurd (List.cons.inj h).1 h1
          · rename_i h; exact absurd (List.cons.inj h).1 h2
          · rename_i h; exact absurd (List.cons.inj h).1 h3
          · rfl
/-- A slice made with one element. -/
theorem owns_one (w : World) (x : Value) : (w.alloc (.cells #[x] 37)).ownsRow 0 37 1 (.slice (some ⟨w.heap.size, 0, none⟩) 1 1) 1 [x] :=
  ⟨rfl, .inr ⟨w.heap.size, 1, #[x], rfl, Nat.zero_le _, heap_alloc_new _ _, Nat.le_refl _, by decide, rfl, rfl⟩⟩
theorem node_one {W w3 : World} {u : U} {x v sv : Value} {kind : Int} (hW : W.heap.size ≤ w3.heap.size) (hu : IsU (Fresh W w3) w3 u x) (hsv : sv = .slice (some ⟨w3.heap.size, 0, none⟩) 1 1) (hv : v = ptr (w3.heap.size + 1)) :
    Node (Fresh W ((w3.alloc (.cells #[x] 37)).alloc (.cells (nd kind false 0 (.pointer none) sv) 54))) ((w3.alloc (.cells #[x] 37)).alloc (.cells (nd kind false 0 (.pointer none) sv) 54)) kind v fun xs => ∃ y, xs = [y] ∧ IsU (Fresh W ((w3.alloc (.cells #[x] 37)).alloc (.cells (nd kind false 0 (.pointer none) sv) 54))) ((w3.alloc (.cells #[x] 37)).alloc (.cells (nd kind false 0 (.pointer none) sv) 54)) u y := by
  subst hsv hv
  have hb : Below w3.heap.size w3 ((w3.alloc (.cells #[x] 37)).alloc (.cells (nd kind false 0 (.pointer none) (.slice (some ⟨w3.heap.size, 0, none⟩) 1 1)) 54)) := ((Below.refl _ _).alloc (Nat.le_refl _) _).alloc (by rw [alloc_size]; omega) _
  have hat := At.new (w3.alloc (.cells #[x] 37)) (nd kind false 0 (.pointer none) (.slice (some ⟨w3.heap.size, 0, none⟩) 1 1)) 54
  rw [alloc_size] at hat
  refine ⟨w3.heap.size + 1, .slice (some ⟨w3.heap.size, 0, none⟩) 1 1, [x], ⟨by omega, by rw [alloc_size, alloc_size]; omega⟩, rfl, hat, ⟨(owns_one w3 x).alloc _, ?_⟩, x, rfl, ?_⟩
  · intro g hg
    injection hg with hg
    subst hg
    exact ⟨hW, by rw [alloc_size, alloc_size]; show w3.heap.size < _; omega⟩
  · have hf : Same (Fresh W w3) w3 _ := Same.below hb fun k hk => hk.2
    exact IsU.same hf (fun k hk => ⟨hk.1, Nat.lt_of_lt_of_le hk.2 hb.size⟩) u x hu

theorem IsA.ptr {S : Nat → Prop} {W : World} (a : As) (v : Value) (h : IsA S W a v) : ∃ b, v = Go.Proofs.Ytheblleadjbndaa.ptr b := by
  rcases a with s | ⟨s, a⟩
  all_goals
    unfold IsA at h
    obtain ⟨b, _, _, _, rfl, _⟩ := h
    exact ⟨b, rfl⟩
theorem IsU.ptr {S : Nat → Prop} {W : World} (u : U) (v : Value) (h : IsU S W u v) : ∃ b, v = Go.Proofs.Ytheblleadjbndaa.ptr b := by
  rcases u with c | f | a | u | u | u
  · unfold IsU at h
    obtain ⟨b, _, rfl, _⟩ := h
    exact ⟨b, rfl⟩
  · unfold IsU at h
    obtain ⟨b, _, _, _, rfl, _⟩ := h
    exact ⟨b, rfl⟩
  · unfold IsU at h
    exact IsA.ptr a v h
  all_goals
    unfold IsU at h
    obtain ⟨b, _, _, _, rfl, _⟩ := h
    exact ⟨b, rfl⟩

set_option maxHeartbeats 1000000 in
theorem factor_ok (n : Nat) (hA : AtomOK n) (W : World) (p : Nat) (s : ByteArray) (l : List UInt8) (hs : s.size ≤ 1000) (h : PS W p s l) (hn : 4 * l.length + 1 ≤ n) :
    Calls Try.prog 59 #[ptr p] W (UPost p s W ((atom n l).map fun x => quant x.1 x.2)) := by
  have HA := Lib.hid (hA W p s l hs h hn)
  have hpl := h.lt
  clear h hn hA
  unfold ptr
  go_enter Try.func59, Try.ntmps59
  go_wp2_with fail
  refine (HA.out).mono ?_
  rintro e w1 ⟨hk1, h1⟩
  have HK1 := Lib.hid hk1
  clear hk1
  rcases hat : atom n l with _ | ⟨u, r⟩
  · rw [hat] at h1
    simp only at h1
    subst h1
    have HAT := Lib.hid hat
    clear hat
    go_wp2_with fail
    go_ret2
    exact UPost.no (by rw [HAT.out]; rfl) HK1.out
  · rw [hat] at h1
    simp only at h1
    obtain ⟨v, rfl, hu, hp1⟩ := h1
    obtain ⟨vb, rfl⟩ := IsU.ptr u v hu
    have HU := Lib.hid hu
    unfold ptr
    have HS1 := Lib.hid (skip_any w1 p s 42 42 r rfl hs hp1)
    have HQ : Hid ((atom n l).map (fun x => quant x.1 x.2) = some _) := Lib.hid (by rw [hat]; show some (quant u r) = _; rw [quant_eq])
    clear hat hu hp1 HA
    go_wp2_with fail
    refine (HS1.out).mono ?_
    rintro e w2 ⟨rfl, hk2, hp2⟩
    have hf2 := Fresh.keep (W := W) hk2 hpl
    have HU2 := Lib.hid (IsU.same hf2.1 hf2.2 u _ HU.out)
    have HK2 := Lib.hid (HK1.out.trans hk2)
    have HP2 := Lib.hid hp2
    clear hk2 hp2 hf2
    cases hb1 : (skipped 42 r).1
    · have hn1 := skipped_no hb1
      rw [hn1] at HP2
      have HB1 := Lib.hid hb1
      have HS2 := Lib.hid (skip_any w2 p s 43 43 r rfl hs HP2.out)
      clear hn1 hb1
      go_wp2_with fail
      refine (HS2.out).mono ?_
      rintro e w3 ⟨rfl, hk3, hp3⟩
      have hf3 := Fresh.keep (W := W) hk3 hpl
      have HU3 := Lib.hid (IsU.same hf3.1 hf3.2 u _ HU2.out)
      have HK3 := Lib.hid (HK2.out.trans hk3)
      have HP3 := Lib.hid hp3
      clear hk3 hp3 hf3
      cases hb2 : (skipped 43 r).1
      · have hn2 := skipped_no hb2
        rw [hn2] at HP3
        have HB2 := Lib.hid hb2
        have HS3 := Lib.hid (skip_any w3 p s 63 63 r rfl hs HP3.out)
        clear hn2 hb2
        go_wp2_with fail
        refine (HS3.out).mono ?_
        rintro e w4 ⟨rfl, hk4, hp4⟩
        have hf4 := Fresh.keep (W := W) hk4 hpl
        have HU4 := Lib.hid (IsU.same hf4.1 hf4.2 u _ HU3.out)
        have HK4 := Lib.hid (HK3.out.trans hk4)
        have HP4 := Lib.hid hp4
        clear hk4 hp4 hf4
        cases hb3 : (skipped 63 r).1
        · have hn3 := skipped_no hb3
          rw [hn3] at HP4
          have HB3 := Lib.hid hb3
          clear hn3 hb3
          go_wp2_with fail
          go_ret2
          exact UPost.yes _ (by rw [HQ.out, HB1.out, HB2.out, HB3.out]; rfl) HK4.out HU4.out HP4.out
        · have HB3 := Lib.hid hb3
          clear hb3
          go_wp2_with fail
          go_ret2
          refine UPost.yes _ (by rw [HQ.out, HB1.out, HB2.out, HB3.out]; rfl) ((HK4.out.alloc _).alloc _) ?_ ((HP4.out.alloc _).alloc _)
          unfold IsU
          exact node_one HK4.out.size HU4.out rfl rfl
      · have HB2 := Lib.hid hb2
        clear hb2
        go_wp2_with fail
        go_ret2
        refine UPost.yes _ (by rw [HQ.out, HB1.out, HB2.out]; rfl) ((HK3.out.alloc _).alloc _) ?_ ((HP3.out.alloc _).alloc _)
        unfold IsU
        exact node_one HK3.out.size HU3.out rfl rfl
    · have HB1 := Lib.hid hb1
      clear hb1
      go_wp2_with fail
      go_ret2
      refine UPost.yes _ (by rw [HQ.out, HB1.out]; rfl) ((HK2.out.alloc _).alloc _) ?_ ((HP2.out.alloc _).alloc _)
      unfold IsU
      exact node_one HK2.out.size HU2.out rfl rfl
end Go.Proofs.Ytheblleadjbndaa
