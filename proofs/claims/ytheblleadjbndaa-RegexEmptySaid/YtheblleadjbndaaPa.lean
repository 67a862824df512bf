/- The parser's walks: peek, skip. -/
import Derived.Test.YtheblleadjbndaaBase
namespace Go.Proofs.Ytheblleadjbndaa
open Go.RowKit

/-- The parser in block p reads the string s; l is what lies ahead. -/
structure PS (W : World) (p : Nat) (s : ByteArray) (l : List UInt8) : Prop where
  le : l.length ≤ s.size
  rest : (bs s).drop (s.size - l.length) = l
  at_ : At W p #[.string s, .int .i64 ((s.size - l.length : Nat) : Int)] 62
theorem PS.keep {W W1 : World} {p : Nat} {s : ByteArray} {l : List UInt8} (h : PS W p s l) (h1 : At W1 p #[.string s, .int .i64 ((s.size - l.length : Nat) : Int)] 62) : PS W1 p s l := ⟨h.le, h.rest, h1⟩
theorem PS.get {W : World} {p : Nat} {s : ByteArray} {c : UInt8} {r : List UInt8} (h : PS W p s (c :: r)) (hlt : s.size - (c :: r).length < s.size) : s[s.size - (c :: r).length] = c := by
  have h1 := h.rest
  have h2 : (bs s)[s.size - (c :: r).length]'hlt = c := by
    have := congrArg (fun l => l[0]?) h1
    simp only [List.getElem?_drop, List.getElem?_cons_zero, Nat.add_zero] at this
    exact Option.some.inj ((List.getElem?_eq_getElem (l := bs s) hlt).symm.trans this)
  exact h2
theorem PS.next {W : World} {p : Nat} {s : ByteArray} {c : UInt8} {r : List UInt8} (h : PS W p s (c :: r)) : (bs s).drop (s.size - r.length) = r ∧ r.length ≤ s.size ∧ s.size - r.length = s.size - (c :: r).length + 1 := by
  have h1 := h.rest
  have h2 := h.le
  simp only [List.length_cons] at h1 h2 ⊢
  have e : s.size - r.length = s.size - (r.length + 1) + 1 := by omega
  refine ⟨?_, by omega, e⟩
  rw [e, ← List.drop_drop, h1]; rfl

theorem PS.end_ {W : World} {p : Nat} {s : ByteArray} (h : PS W p s []) : W.cell? ⟨p, 1, none⟩ = some (.int .i64 s.size) := by
  rw [h.at_.cell 1]; rfl

set_option maxHeartbeats 400000 in
theorem peek_end (W : World) (p : Nat) (s : ByteArray) (h : PS W p s []) :
    Calls Try.prog 58 #[.pointer (some ⟨p, 0, none⟩)] W fun e w' => e = .returned (.tuple #[.int .u8 0, .bool false]) ∧ ∃ n, w' = W.drewN n := by
  have c0 : W.cell? ⟨p, 0, none⟩ = some (.string s) := h.at_.cell 0
  have c1 := h.end_
  go_enter Try.func58, Try.ntmps58
  go_wp2_with fail
  go_quiet (fail)
  go_wp2_with fail
  go_ret2
  exact ⟨rfl, _, rfl⟩

set_option maxHeartbeats 400000 in
theorem peek_in (W : World) (p : Nat) (s : ByteArray) (c : UInt8) (r : List UInt8) (h : PS W p s (c :: r)) :
    Calls Try.prog 58 #[.pointer (some ⟨p, 0, none⟩)] W fun e w' => e = .returned (.tuple #[.int .u8 c.toNat, .bool true]) ∧ ∃ n, w' = W.drewN n := by
  have c0 : W.cell? ⟨p, 0, none⟩ = some (.string s) := h.at_.cell 0
  have c1 : W.cell? ⟨p, 1, none⟩ = some (.int .i64 ((s.size - (c :: r).length : Nat) : Int)) := h.at_.cell 1
  have hle := h.le
  have hlt : s.size - (c :: r).length < s.size := by simp only [List.length_cons] at hle ⊢; omega
  have hg := h.get hlt
  have d1 : ((((s.size - (c :: r).length : Nat) : Int)) == ((s.size : Nat) : Int)) = false := by rw [beq_eq_false_iff_ne]; omega
  clear h hle
  generalize s.size - (c :: r).length = k at *
  go_enter Try.func58, Try.ntmps58
  go_wp2_with fail
  go_quiet (fail)
  go_wp2_with fail
  go_quiet (fail)
  go_wp2_with fail
  go_ret2
  exact ⟨rfl, _, World.drewN_drewN _ _ _⟩

theorem PS.bump {W : World} {p : Nat} {s : ByteArray} {c : UInt8} {r : List UInt8} (h : PS W p s (c :: r)) (n : Nat) (k : Int) (hk : k = ((s.size - r.length : Nat) : Int)) : PS ((W.drewN n).setCell ⟨p, 1, none⟩ (.int .i64 k)) p s r := by
  subst hk
  exact ⟨h.next.2.1, h.next.1, (h.at_.drewN n).set 1 _⟩

set_option maxHeartbeats 400000 in
theorem skip_end (W : World) (p : Nat) (s : ByteArray) (k : Int) (h : PS W p s []) :
    Calls Try.prog 50 #[.pointer (some ⟨p, 0, none⟩), .int .u8 k] W fun e w' => e = .returned (.bool false) ∧ ∃ n, w' = W.drewN n := by
  have c0 : W.cell? ⟨p, 0, none⟩ = some (.string s) := h.at_.cell 0
  have c1 := h.end_
  go_enter Try.func50, Try.ntmps50
  go_wp2_with fail
  go_quiet (fail)
  go_wp2_with fail
  go_ret
  exact ⟨rfl, _, rfl⟩

set_option maxHeartbeats 400000 in
theorem skip_no (W : World) (p : Nat) (s : ByteArray) (k : Int) (c : UInt8) (r : List UInt8) (h : PS W p s (c :: r)) (hne : (c.toNat : Int) ≠ k) :
    Calls Try.prog 50 #[.pointer (some ⟨p, 0, none⟩), .int .u8 k] W fun e w' => e = .returned (.bool false) ∧ ∃ n, w' = W.drewN n := by
  have c0 : W.cell? ⟨p, 0, none⟩ = some (.string s) := h.at_.cell 0
  have c1 : W.cell? ⟨p, 1, none⟩ = some (.int .i64 ((s.size - (c :: r).length : Nat) : Int)) := h.at_.cell 1
  have hle := h.le
  have hlt : s.size - (c :: r).length < s.size := by simp only [List.length_cons] at hle ⊢; omega
  have hg := h.get hlt
  have d1 : ((((s.size - (c :: r).length : Nat) : Int)) == ((s.size : Nat) : Int)) = false := by rw [beq_eq_false_iff_ne]; omega
  have d2 : ((c.toNat : Int) != k) = true := bne_iff_ne.2 hne
  have d3 : ((c.toNat : Int) == k) = false := beq_eq_false_iff_ne.2 hne
  clear h hle hne
  generalize s.size - (c :: r).length = j at *
  go_enter Try.func50, Try.ntmps50
  go_wp2_with fail
  go_quiet (fail)
  go_wp2_with fail
  go_ret
  exact ⟨rfl, _, rfl⟩

set_option maxHeartbeats 400000 in
theorem skip_yes (W : World) (p : Nat) (s : ByteArray) (k : Int) (c : UInt8) (r : List UInt8) (hs : s.size ≤ 1000) (h : PS W p s (c :: r)) (he : (c.toNat : Int) = k) :
    Calls Try.prog 50 #[.pointer (some ⟨p, 0, none⟩), .int .u8 k] W fun e w' => e = .returned (.bool true) ∧ Keep p W w' ∧ PS w' p s r := by
  have c0 : W.cell? ⟨p, 0, none⟩ = some (.string s) := h.at_.cell 0
  have c1 : W.cell? ⟨p, 1, none⟩ = some (.int .i64 ((s.size - (c :: r).length : Nat) : Int)) := h.at_.cell 1
  have c2 := h.at_.free 1
  have hle := h.le
  have hlt : s.size - (c :: r).length < s.size := by simp only [List.length_cons] at hle ⊢; omega
  have hg := h.get hlt
  have d1 : ((((s.size - (c :: r).length : Nat) : Int)) == ((s.size : Nat) : Int)) = false := by rw [beq_eq_false_iff_ne]; omega
  have d2 : ((c.toNat : Int) != k) = false := bne_eq_false_iff_eq.2 he
  have d3 : ((c.toNat : Int) == k) = true := beq_iff_eq.2 he
  have hb : ((s.size - (c :: r).length : Nat) : Int) + 1 = ((s.size - r.length : Nat) : Int) := by rw [h.next.2.2]; omega
  have HB := Lib.hid hb
  have HP := Lib.hid h
  clear h hle he hb
  generalize s.size - (c :: r).length = j at *
  go_enter Try.func50, Try.ntmps50
  go_wp2_with fail
  go_quiet (fail)
  go_wp2_with fail
  go_ret
  exact ⟨rfl, ((Keep.refl p W).drewN _).set _ _, HP.out.bump _ _ HB.out⟩
end Go.Proofs.Ytheblleadjbndaa
