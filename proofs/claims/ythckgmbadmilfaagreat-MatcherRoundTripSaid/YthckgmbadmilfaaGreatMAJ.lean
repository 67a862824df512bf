/- The parser's walks: peek, skip. The parser's walks: the classes of bytes, where. The parser's walks: the closure of a class, where over it, plainByte. How a tree lies in memory. -/
import Derived.Test.YthckgmbadmilfaaGreatMAG
import Derived.Test.YthckgmbadmilfaaGreatMAA
namespace Go.Proofs.YthckgmbadmilfaaGreat
open Go.RowKit

/-- The parser in block p reads the string s; l is what lies ahead. -/
structure PS (W : World) (p : Nat) (s : ByteArray) (l : List UInt8) : Prop where
  le : l.length ≤ s.size
  rest : (bs s).drop (s.size - l.length) = l
  at_ : At W p #[.string s, .int .i64 ((s.size - l.length : Nat) : Int)] 154
theorem PS.keep {W W1 : World} {p : Nat} {s : ByteArray} {l : List UInt8} (h : PS W p s l) (h1 : At W1 p #[.string s, .int .i64 ((s.size - l.length : Nat) : Int)] 154) : PS W1 p s l := ⟨h.le, h.rest, h1⟩
theorem PS.get {W : World} {p : Nat} {s : ByteArray} {c : UInt8} {r : List UInt8} (h : PS W p s (c :: r)) (hlt : s.size - (c :: r).length < s.size) : s[s.size - (c :: r).length] = c := by
  have h1 := h.rest
  have h2 : (bs s)[s.size - (c :: r).length]'hlt = c := by
    have := congrArg (fun l => l[0]?) h1
    simp only [List.getElem?_drop, List.getElem?_cons_zero, Nat.add_zero] at this
    exact Option.some.inj ((List.getElem?_eq_getElem (l := bs s) hlt).symm.trans this)
  exact h2
theorem PS.next {W : World} {p : Nat} {s : ByteArray} {c : UInt8} {r : List UInt8} (h : PS W p s (c :: r)) : (bs s).drop (s.size - r.length) = r ∧ r.length ≤ s.size ∧ s.size - r.length = s.size - (c :: r).length + 1 := by
  have h1 := h.rest
  have h2 := h.le
  simp only [List.length_cons] at h1 h2 ⊢
  have e : s.size - r.length = s.size - (r.length + 1) + 1 := by omega
  refine ⟨?_, by omega, e⟩
  rw [e, ← List.drop_drop, h1]; rfl

theorem PS.end_ {W : World} {p : Nat} {s : ByteArray} (h : PS W p s []) : W.cell? ⟨p, 1, none⟩ = some (.int .i64 s.size) := by
  rw [h.at_.cell 1]; rfl

set_option maxHeartbeats 400000 in
theorem peek_end (W : World) (p : Nat) (s : ByteArray) (h : PS W p s []) :
    Calls Tryz.prog 167 #[.pointer (some ⟨p, 0, none⟩)] W fun e w' => e = .returned (.tuple #[.int .u8 0, .bool false]) ∧ ∃ n, w' = W.drewN n := by
  have c0 : W.cell? ⟨p, 0, none⟩ = some (.string s) := h.at_.cell 0
  have c1 := h.end_
  go_enter Tryz.func167, Tryz.ntmps167
  go_wp2_with fail
  go_quiet (fail)
  go_wp2_with fail
  go_ret2
  exact ⟨rfl, _, rfl⟩

set_option maxHeartbeats 400000 in
theorem peek_in (W : World) (p : Nat) (s : ByteArray) (c : UInt8) (r : List UInt8) (h : PS W p s (c :: r)) :
    Calls Tryz.prog 167 #[.pointer (some ⟨p, 0, none⟩)] W fun e w' => e = .returned (.tuple #[.int .u8 c.toNat, .bool true]) ∧ ∃ n, w' = W.drewN n := by
  have c0 : W.cell? ⟨p, 0, none⟩ = some (.string s) := h.at_.cell 0
  have c1 : W.cell? ⟨p, 1, none⟩ = some (.int .i64 ((s.size - (c :: r).length : Nat) : Int)) := h.at_.cell 1
  have hle := h.le
  have hlt : s.size - (c :: r).length < s.size := by simp only [List.length_cons] at hle ⊢; omega
  have hg := h.get hlt
  have d1 : ((((s.size - (c :: r).length : Nat) : Int)) == ((s.size : Nat) : Int)) = false := by rw [beq_eq_false_iff_ne]; omega
  clear h hle
  generalize s.size - (c :: r).length = k at *
  go_enter Tryz.func167, Tryz.ntmps167
  go_wp2_with fail
  go_quiet (fail)
  go_wp2_with fail
  go_quiet (fail)
  go_wp2_with fail
  go_ret2
  exact ⟨rfl, _, World.drewN_drewN _ _ _⟩

theorem PS.bump {W : World} {p : Nat} {s : ByteArray} {c : UInt8} {r : List UInt8} (h : PS W p s (c :: r)) (n : Nat) (k : Int) (hk : k = ((s.size - r.length : Nat) : Int)) : PS ((W.drewN n).setCell ⟨p, 1, none⟩ (.int .i64 k)) p s r := by
  subst hk
  exact ⟨h.next.2.1, h.next.1, (h.at_.drewN n).set 1 _⟩

set_option maxHeartbeats 400000 in
theorem skip_end (W : World) (p : Nat) (s : ByteArray) (k : Int) (h : PS W p s []) :
    Calls Tryz.prog 156 #[.pointer (some ⟨p, 0, none⟩), .int .u8 k] W fun e w' => e = .returned (.bool false) ∧ ∃ n, w' = W.drewN n := by
  have c0 : W.cell? ⟨p, 0, none⟩ = some (.string s) := h.at_.cell 0
  have c1 := h.end_
  go_enter Tryz.func156, Tryz.ntmps156
  go_wp2_with fail
  go_quiet (fail)
  go_wp2_with fail
  go_ret
  exact ⟨rfl, _, rfl⟩

set_option maxHeartbeats 400000 in
theorem skip_no6 (W : World) (p : Nat) (s : ByteArray) (k : Int) (c : UInt8) (r : List UInt8) (h : PS W p s (c :: r)) (hne : (c.toNat : Int) ≠ k) :
    Calls Tryz.prog 156 #[.pointer (some ⟨p, 0, none⟩), .int .u8 k] W fun e w' => e = .returned (.bool false) ∧ ∃ n, w' = W.drewN n := by
  have c0 : W.cell? ⟨p, 0, none⟩ = some (.string s) := h.at_.cell 0
  have c1 : W.cell? ⟨p, 1, none⟩ = some (.int .i64 ((s.size - (c :: r).length : Nat) : Int)) := h.at_.cell 1
  have hle := h.le
  have hlt : s.size - (c :: r).length < s.size := by simp only [List.length_cons] at hle ⊢; omega
  have hg := h.get hlt
  have d1 : ((((s.size - (c :: r).length : Nat) : Int)) == ((s.size : Nat) : Int)) = false := by rw [beq_eq_false_iff_ne]; omega
  have d2 : ((c.toNat : Int) != k) = true := bne_iff_ne.2 hne
  have d3 : ((c.toNat : Int) == k) = false := beq_eq_false_iff_ne.2 hne
  clear h hle hne
  generalize s.size - (c :: r).length = j at *
  go_enter Tryz.func156, Tryz.ntmps156
  go_wp2_with fail
  go_quiet (fail)
  go_wp2_with fail
  go_ret
  exact ⟨rfl, _, rfl⟩

set_option maxHeartbeats 400000 in
theorem skip_yes6 (W : World) (p : Nat) (s : ByteArray) (k : Int) (c : UInt8) (r : List UInt8) (hs : s.size ≤ 1000) (h : PS W p s (c :: r)) (he : (c.toNat : Int) = k) :
    Calls Tryz.prog 156 #[.pointer (some ⟨p, 0, none⟩), .int .u8 k] W fun e w' => e = .returned (.bool true) ∧ Keep p W w' ∧ PS w' p s r := by
  have c0 : W.cell? ⟨p, 0, none⟩ = some (.string s) := h.at_.cell 0
  have c1 : W.cell? ⟨p, 1, none⟩ = some (.int .i64 ((s.size - (c :: r).length : Nat) : Int)) := h.at_.cell 1
  have c2 := h.at_.free 1
  have hle := h.le
  have hlt : s.size - (c :: r).length < s.size := by simp only [List.length_cons] at hle ⊢; omega
  have hg := h.get hlt
  have d1 : ((((s.size - (c :: r).length : Nat) : Int)) == ((s.size : Nat) : Int)) = false := by rw [beq_eq_false_iff_ne]; omega
  have d2 : ((c.toNat : Int) != k) = false := bne_eq_false_iff_eq.2 he
  have d3 : ((c.toNat : Int) == k) = true := beq_iff_eq.2 he
  have hb : ((s.size - (c :: r).length : Nat) : Int) + 1 = ((s.size - r.length : Nat) : Int) := by rw [h.next.2.2]; omega
  have HB := Lib.hid hb
  have HP := Lib.hid h
  clear h hle he hb
  generalize s.size - (c :: r).length = j at *
  go_enter Tryz.func156, Tryz.ntmps156
  go_wp2_with fail
  go_quiet (fail)
  go_wp2_with fail
  go_ret
  exact ⟨rfl, ((Keep.refl p W).drewN _).set _ _, HP.out.bump _ _ HB.out⟩
end Go.Proofs.YthckgmbadmilfaaGreat

namespace Go.Proofs.YthckgmbadmilfaaGreat
open Go.RowKit

set_option maxHeartbeats 400000 in
theorem isDigit_any (c : UInt8) (w : World) : Calls Tryz.prog 184 #[.int .u8 c.toNat] w fun e w' => e = .returned (.bool (digB c)) ∧ w' = w := by
  have h : c.toNat ≤ 47 ∨ (48 ≤ c.toNat ∧ c.toNat ≤ 57) ∨ 58 ≤ c.toNat := by omega
  have HB : Hid (digB c = decide (48 ≤ c.toNat ∧ c.toNat ≤ 57)) := Lib.hid (by unfold digB; simp)
  rcases h with h | ⟨h, h2⟩ | h
  all_goals
    go_enter Tryz.func184, Tryz.ntmps184
    go_wp2_with fail
    go_ret
    exact ⟨ret_bool (by rw [HB.out]; rw [Bool.eq_iff_iff]; first | (simp; done) | (simp; omega)), rfl⟩

set_option maxHeartbeats 400000 in
theorem isLetter_any (c : UInt8) (w : World) : Calls Tryz.prog 186 #[.int .u8 c.toNat] w fun e w' => e = .returned (.bool (letB c)) ∧ w' = w := by
  have h : c.toNat ≤ 64 ∨ (65 ≤ c.toNat ∧ c.toNat ≤ 90) ∨ (91 ≤ c.toNat ∧ c.toNat ≤ 96) ∨ (97 ≤ c.toNat ∧ c.toNat ≤ 122) ∨ 123 ≤ c.toNat := by omega
  have HB : Hid (letB c = decide ((97 ≤ c.toNat ∧ c.toNat ≤ 122) ∨ (65 ≤ c.toNat ∧ c.toNat ≤ 90))) := Lib.hid (by unfold letB; simp)
  rcases h with h | ⟨h, h2⟩ | ⟨h, h2⟩ | ⟨h, h2⟩ | h
  all_goals
    go_enter Tryz.func186, Tryz.ntmps186
    go_wp2_with fail
    go_ret
    exact ⟨ret_bool (by rw [HB.out]; rw [Bool.eq_iff_iff]; first | (simp; done) | (simp; omega)), rfl⟩

set_option maxHeartbeats 400000 in
theorem word_any (c : UInt8) (w : World) : Calls Tryz.prog 185 #[.int .u8 c.toNat] w fun e w' => e = .returned (.bool (wordB c)) ∧ w' = w := by
  have HB : Hid (wordB c = ((letB c || digB c) || decide (c.toNat = 95))) := Lib.hid rfl
  rcases h1 : letB c
  · rcases h2 : digB c
    · by_cases h3 : c.toNat = 95
      · have d1 : ((c.toNat : Int) == 95) = true := by rw [h3]; rfl
        rw [h1, h2] at HB
        have H1 := Lib.hid h1
        have H2 := Lib.hid h2
        have H3 := Lib.hid h3
        clear h1 h2 h3
        go_enter Tryz.func185, Tryz.ntmps185
        go_wp2_with fail
        refine (isLetter_any _ _).mono ?_
        rintro e w' ⟨rfl, rfl⟩
        rw [H1.out]
        go_wp2_with fail
        refine (isDigit_any _ _).mono ?_
        rintro e w' ⟨rfl, rfl⟩
        rw [H2.out]
        go_wp2_with fail
        go_ret
        exact ⟨ret_bool (by rw [HB.out, H3.out]; rfl), rfl⟩
      · have d1 : ((c.toNat : Int) == 95) = false := by rw [beq_eq_false_iff_ne]; omega
        rw [h1, h2] at HB
        have H1 := Lib.hid h1
        have H2 := Lib.hid h2
        have H3 := Lib.hid h3
        clear h1 h2 h3
        go_enter Tryz.func185, Tryz.ntmps185
        go_wp2_with fail
        refine (isLetter_any _ _).mono ?_
        rintro e w' ⟨rfl, rfl⟩
        rw [H1.out]
        go_wp2_with fail
        refine (isDigit_any _ _).mono ?_
        rintro e w' ⟨rfl, rfl⟩
        rw [H2.out]
        go_wp2_with fail
        go_ret
        exact ⟨ret_bool (by rw [HB.out]; simp [H3.out]), rfl⟩
    · rw [h1, h2] at HB
      have H1 := Lib.hid h1
      have H2 := Lib.hid h2
      clear h1 h2
      go_enter Tryz.func185, Tryz.ntmps185
      go_wp2_with fail
      refine (isLetter_any _ _).mono ?_
      rintro e w' ⟨rfl, rfl⟩
      rw [H1.out]
      go_wp2_with fail
      refine (isDigit_any _ _).mono ?_
      rintro e w' ⟨rfl, rfl⟩
      rw [H2.out]
      go_wp2_with fail
      go_ret
      exact ⟨ret_bool (by rw [HB.out]; rfl), rfl⟩
  · rw [h1] at HB
    have H1 := Lib.hid h1
    clear h1
    go_enter Tryz.func185, Tryz.ntmps185
    go_wp2_with fail
    refine (isLetter_any _ _).mono ?_
    rintro e w' ⟨rfl, rfl⟩
    rw [H1.out]
    go_wp2_with fail
    go_ret
    exact ⟨ret_bool (by rw [HB.out]; simp), rfl⟩
theorem all_any (c : UInt8) (w : World) : Calls Tryz.prog 177 #[.int .u8 c.toNat] w fun e w' => e = .returned (.bool true) ∧ w' = w := by
  go_enter Tryz.func177, Tryz.ntmps177
  go_wp2_with fail
  go_ret
  exact ⟨rfl, rfl⟩

/-- An array of 256 bools, the first k of them filled. -/
def btab (f : UInt8 → Bool) (k : Nat) : Array Value := Array.ofFn (n := 256) fun i => .bool (if i.val < k then f (UInt8.ofNat i.val) else false)
theorem btab_size (f : UInt8 → Bool) (k : Nat) : (btab f k).size = 256 := by simp [btab]
theorem btab_get (f : UInt8 → Bool) (k i : Nat) (h : i < 256) : (btab f k)[i]? = some (.bool (if i < k then f (UInt8.ofNat i) else false)) := by
  unfold btab
  rw [Array.getElem?_ofFn, dif_pos h]
theorem btab_set (f : UInt8 → Bool) (k : Nat) (h : k < 256) : (btab f k).setIfInBounds k (.bool (f (UInt8.ofNat k))) = btab f (k + 1) := by
  apply Array.ext_getElem?
  intro i
  rw [Array.getElem?_setIfInBounds]
  by_cases e : k = i
  · subst e
    rw [if_pos rfl, if_pos (by rw [btab_size]; exact h), btab_get f _ k h, if_pos (by omega)]
  · rw [if_neg e]
    by_cases hi : i < 256
    · rw [btab_get f _ i hi, btab_get f _ i hi]
      by_cases h2 : i < k
      · rw [if_pos h2, if_pos (by omega)]
      · rw [if_neg h2, if_neg (by omega)]
    · rw [Array.getElem?_eq_none (by rw [btab_size]; omega), Array.getElem?_eq_none (by rw [btab_size]; omega)]
theorem btab_zero (f : UInt8 → Bool) : btab f 0 = Array.replicate 256 (.bool false) := by
  apply Array.ext_getElem?
  intro i
  by_cases h : i < 256
  · rw [btab_get f 0 i h, if_neg (by omega), Array.getElem?_replicate, if_pos h]
  · rw [Array.getElem?_eq_none (by rw [btab_size]; omega), Array.getElem?_eq_none (by simp; omega)]
attribute [irreducible] btab

theorem zero_class : Tryz.zeroCells202 = Array.replicate 256 (.bool false) := by kernel_rfl
set_option maxRecDepth 100000 in
set_option maxHeartbeats 400000 in
theorem where_any (k : Nat) (f : UInt8 → Bool) (w : World) (hcf : ∀ (c : Int) w1, (callFunc k #[.int .u8 c]).run Tryz.prog w1 = .ok (.enter k #[.int .u8 c]) w1) (hf : ∀ (c : UInt8) w1, Calls Tryz.prog k #[.int .u8 c.toNat] w1 fun e w' => e = .returned (.bool (f c)) ∧ w' = w1) :
    Calls Tryz.prog 176 #[.func (.func k) #[] #[]] w fun e w' => e = .returned (.pointer (some ⟨w.heap.size, 0, none⟩)) ∧ Below w.heap.size w w' ∧ At w' w.heap.size (btab f 256) 202 := by
  go_enter Tryz.func176, Tryz.ntmps176
  go_wp2_with fail
  go_loopw [5] (fun i wr => ∃ j : Nat, j ≤ 256 ∧ i = .int .i64 j ∧ At wr w.heap.size (btab f j) 202 ∧ Below w.heap.size w wr) (fun i _ => 256 - (intOf i).toNat)
  case atStart =>
    refine ⟨0, Nat.zero_le _, rfl, ?_, (Below.refl _ _).alloc (Nat.le_refl _) _⟩
    rw [btab_zero, ← zero_class]
    exact At.new w _ _
  case round =>
    obtain ⟨j, hj, rfl, hat, hbl⟩ := hrel
    by_cases hlt : j < 256
    · have hc : (UInt8.ofNat j).toNat = j := by rw [UInt8.toNat_ofNat']; omega
      have HC := Lib.hid hc
      have g0 := hat.cell j
      rw [btab_get f j j hlt, if_neg (Nat.lt_irrefl _)] at g0
      have g1 := hat.free j
      have HS := Lib.hid (btab_set f j hlt)
      have HA := Lib.hid (hat.set j (.bool (f (UInt8.ofNat j))))
      have HF := Lib.hid (hf (UInt8.ofNat j))
      have HL := Lib.hid hlt
      clear hc
      clear hf

      go_wp2_with fail
      rw [show (j : Int) = ((UInt8.ofNat j).toNat : Int) by rw [HC.out]]
      refine (HF.out wr).mono ?_
      rintro e w' ⟨rfl, rfl⟩
      rw [HC.out]
      go_wp2_with fail
      go_roundw
      case rel => exact ⟨j + 1, by omega, by go_num, by rw [← HS.out]; exact HA.out, hbl.setCell (Nat.le_refl _) _⟩
      case measure => simp [intOf]; omega
    · obtain rfl : j = 256 := by omega
      go_wp2_with fail
      go_ret
      exact ⟨rfl, hbl, hat⟩

theorem enter_f (k : Nat) (c : Int) (w1 : World) (hk : k = 184 ∨ k = 185 ∨ k = 177) : (callFunc k #[.int .u8 c]).run Tryz.prog w1 = .ok (.enter k #[.int .u8 c]) w1 := by
  rcases hk with rfl | rfl | rfl <;> kernel_rfl
end Go.Proofs.YthckgmbadmilfaaGreat

namespace Go.Proofs.YthckgmbadmilfaaGreat
open Go.RowKit

set_option maxHeartbeats 400000 in
theorem inClass_any (c : UInt8) (S I : Nat) (g : UInt8 → Bool) (inv : Bool) (w : World) (hS : At w S (btab g 256) 202) (hI : At w I #[.bool inv] 4) :
    Calls Tryz.prog 183 #[.int .u8 c.toNat, .pointer (some ⟨S, 0, none⟩), .pointer (some ⟨I, 0, none⟩)] w fun e w' => e = .returned (.bool (g c != inv)) ∧ ∃ n, w' = w.drewN n := by
  have hc := c.toNat_lt
  have g0 := hS.cell c.toNat
  rw [btab_get g 256 c.toNat hc, if_pos hc] at g0
  have e : UInt8.ofNat c.toNat = c := by simp
  rw [e] at g0
  clear e
  have g1 : w.cell? ⟨I, 0, none⟩ = some (.bool inv) := hI.cell 0
  generalize g c = y at *
  go_enter Tryz.func183, Tryz.ntmps183
  go_wp2_with fail
  go_quiet (fail)
  go_wp2_with fail
  go_ret
  exact ⟨rfl, _, rfl⟩

set_option maxRecDepth 100000 in
set_option maxHeartbeats 400000 in
theorem where_class (S I : Nat) (g : UInt8 → Bool) (inv : Bool) (w : World) (hS : At w S (btab g 256) 202) (hI : At w I #[.bool inv] 4) :
    Calls Tryz.prog 176 #[.func (.func 183) #[] #[.pointer (some ⟨S, 0, none⟩), .pointer (some ⟨I, 0, none⟩)]] w fun e w' => e = .returned (.pointer (some ⟨w.heap.size, 0, none⟩)) ∧ Below w.heap.size w w' ∧ At w' w.heap.size (btab (fun c => g c != inv) 256) 202 := by
  have hcl := fun (c : UInt8) w1 h1 h2 => Lib.hid (inClass_any c S I g inv w1 h1 h2)
  generalize hf : (fun c => g c != inv) = f at *
  have HF0 : Hid (∀ c, (g c != inv) = f c) := Lib.hid (fun c => by rw [← hf])
  clear hf
  go_enter Tryz.func176, Tryz.ntmps176
  go_wp2_with fail
  go_loopw [5] (fun i wr => ∃ j : Nat, j ≤ 256 ∧ i = .int .i64 j ∧ At wr w.heap.size (btab f j) 202 ∧ Below w.heap.size w wr) (fun i _ => 256 - (intOf i).toNat)
  case atStart =>
    refine ⟨0, Nat.zero_le _, rfl, ?_, (Below.refl _ _).alloc (Nat.le_refl _) _⟩
    rw [btab_zero, ← zero_class]
    exact At.new w _ _
  case round =>
    obtain ⟨j, hj, rfl, hat, hbl⟩ := hrel
    by_cases hlt : j < 256
    · have hc : (UInt8.ofNat j).toNat = j := by rw [UInt8.toNat_ofNat']; omega
      have HC := Lib.hid hc
      have g0 := hat.cell j
      rw [btab_get f j j hlt, if_neg (Nat.lt_irrefl _)] at g0
      have g1 := hat.free j
      have HS := Lib.hid (btab_set f j hlt)
      have HA := Lib.hid (hat.set j (.bool (f (UInt8.ofNat j))))
      have HF := hcl (UInt8.ofNat j) wr (hS.below hbl) (hI.below hbl)
      have HE := Lib.hid (HF0.out (UInt8.ofNat j))
      clear hc
      go_wp2_with fail
      rw [show (j : Int) = ((UInt8.ofNat j).toNat : Int) by rw [HC.out]]
      refine (HF.out).mono ?_
      rintro e w' ⟨rfl, n, rfl⟩
      rw [HC.out, HE.out]
      go_wp2_with fail
      go_roundw
      case rel => exact ⟨j + 1, by omega, by go_num, by rw [← HS.out]; exact HA.out.drewN n, bN (hbl.setCell (Nat.le_refl _) _) n⟩
      case measure => simp [intOf]; omega
    · obtain rfl : j = 256 := by omega
      go_wp2_with fail
      go_ret
      exact ⟨rfl, hbl, hat⟩

/-- The cells of a node of a tree. -/
def nd (kind : Int) (plain : Bool) (char : Int) (cl parts : Value) : Array Value := #[.int .i64 kind, .bool plain, .int .u8 char, cl, parts]
set_option maxHeartbeats 400000 in
theorem plainByte_any (c : Int) (w : World) :
    Calls Tryz.prog 180 #[.int .u8 c] w fun e w' => e = .returned (.pointer (some ⟨w.heap.size, 0, none⟩)) ∧ w' = w.alloc (.cells (nd 0 true c (.pointer none) (.slice none 0 0)) 121) := by
  go_enter Tryz.func180, Tryz.ntmps180
  go_wp2_with fail
  go_ret
  exact ⟨rfl, rfl⟩
end Go.Proofs.YthckgmbadmilfaaGreat

namespace Go.Proofs.YthckgmbadmilfaaGreat
open Go.RowKit Rx

def ptr (b : Nat) : Value := .pointer (some ⟨b, 0, none⟩)
/-- The blocks of S are the same in both worlds. -/
def Same (S : Nat → Prop) (W W' : World) : Prop := ∀ k, S k → W'.heap[k]? = W.heap[k]?
/-- The blocks that came. -/
def Fresh (W W' : World) (k : Nat) : Prop := W.heap.size ≤ k ∧ k < W'.heap.size
/-- A slice of trees. -/
def Parts (S : Nat → Prop) (W : World) (sv : Value) (xs : List Value) : Prop := W.ownsRow 0 115 1 sv xs.length xs ∧ ∀ g, sv.ownBlock = some g → S g
/-- A node with parts. -/
def Node (S : Nat → Prop) (W : World) (kind : Int) (v : Value) (P : List Value → Prop) : Prop := ∃ b sv xs, S b ∧ v = ptr b ∧ At W b (nd kind false 0 (.pointer none) sv) 121 ∧ Parts S W sv xs ∧ P xs
mutual
def IsU (S : Nat → Prop) (W : World) : U → Value → Prop
  | .byte c, v => ∃ b, S b ∧ v = ptr b ∧ At W b (nd 0 true c.toNat (.pointer none) (.slice none 0 0)) 121
  | .cls f, v => ∃ b k, S b ∧ S k ∧ v = ptr b ∧ At W b (nd 0 false 0 (ptr k) (.slice none 0 0)) 121 ∧ At W k (btab f 256) 202
  | .grp a, v => IsA S W a v
  | .star u, v => Node S W 3 v fun xs => ∃ x, xs = [x] ∧ IsU S W u x
  | .plus u, v => Node S W 4 v fun xs => ∃ x, xs = [x] ∧ IsU S W u x
  | .opt u, v => Node S W 5 v fun xs => ∃ x, xs = [x] ∧ IsU S W u x
def IsA (S : Nat → Prop) (W : World) : As → Value → Prop
  | .one s, v => Node S W 1 v fun xs => IsSl S W s xs
  | .more s a, v => Node S W 2 v fun xs => ∃ x ys, xs = x :: ys ∧ (Node S W 1 x fun zs => IsSl S W s zs) ∧ IsAl S W a ys
def IsAl (S : Nat → Prop) (W : World) : As → List Value → Prop
  | .one s, xs => ∃ x, xs = [x] ∧ Node S W 1 x fun zs => IsSl S W s zs
  | .more s a, xs => ∃ x ys, xs = x :: ys ∧ (Node S W 1 x fun zs => IsSl S W s zs) ∧ IsAl S W a ys
def IsSl (S : Nat → Prop) (W : World) : Ss → List Value → Prop
  | .nil, xs => xs = []
  | .cons u s, xs => ∃ x ys, xs = x :: ys ∧ IsU S W u x ∧ IsSl S W s ys
end

theorem At.same {S : Nat → Prop} {W W' : World} {b : Nat} {c : Array Value} {t : TypeId} (h : At W b c t) (hs : Same S W W') (hi : S b) : At W' b c t := ⟨by rw [hs b hi]; exact h.out⟩
theorem owns_same {S : Nat → Prop} {W W' : World} {e size n : Nat} {v : Value} {xs : List Value} (h : W.ownsRow 0 e size v n xs) (hc : ∀ g, v.ownBlock = some g → S g) (hs : Same S W W') : W'.ownsRow 0 e size v n xs := by
  obtain ⟨h1, h2 | ⟨g, cap, cur, h3, h4, h5, h6⟩⟩ := h
  · exact ⟨h1, .inl h2⟩
  · refine ⟨h1, .inr ⟨g, cap, cur, h3, h4, ?_, h6⟩⟩
    rw [hs g (hc g (by rw [h3]; rfl))]; exact h5
theorem Parts.same {S S' : Nat → Prop} {W W' : World} {sv : Value} {xs : List Value} (h : Parts S W sv xs) (hs : Same S W W') (hc : ∀ k, S k → S' k) : Parts S' W' sv xs :=
  ⟨owns_same h.1 h.2 hs, fun g hg => hc g (h.2 g hg)⟩
theorem Node.same {S S' : Nat → Prop} {W W' : World} {kind : Int} {v : Value} {P Q : List Value → Prop} (h : Node S W kind v P) (hs : Same S W W') (hc : ∀ k, S k → S' k) (hp : ∀ xs, P xs → Q xs) : Node S' W' kind v Q := by
  obtain ⟨b, sv, xs, h1, h2, h3, h4, h5⟩ := h
  exact ⟨b, sv, xs, hc b h1, h2, h3.same hs h1, h4.same hs hc, hp xs h5⟩
mutual
theorem IsU.same {S S' : Nat → Prop} {W W' : World} (hs : Same S W W') (hc : ∀ k, S k → S' k) : ∀ (u : U) (v : Value), IsU S W u v → IsU S' W' u v
  | .byte c, v, h => by
    unfold IsU at h ⊢
    obtain ⟨b, h1, h2, h3⟩ := h
    exact ⟨b, hc b h1, h2, h3.same hs h1⟩
  | .cls f, v, h => by
    unfold IsU at h ⊢
    obtain ⟨b, k, h1, h2, h3, h4, h5⟩ := h
    exact ⟨b, k, hc b h1, hc k h2, h3, h4.same hs h1, h5.same hs h2⟩
  | .grp a, v, h => by
    unfold IsU at h ⊢
    exact IsA.same hs hc a v h
  | .star u, v, h => by
    unfold IsU at h ⊢
    exact h.same hs hc fun xs ⟨x, e, hx⟩ => ⟨x, e, IsU.same hs hc u x hx⟩
  | .plus u, v, h => by
    unfold IsU at h ⊢
    exact h.same hs hc fun xs ⟨x, e, hx⟩ => ⟨x, e, IsU.same hs hc u x hx⟩
  | .opt u, v, h => by
    unfold IsU at h ⊢
    exact h.same hs hc fun xs ⟨x, e, hx⟩ => ⟨x, e, IsU.same hs hc u x hx⟩
theorem IsA.same {S S' : Nat → Prop} {W W' : World} (hs : Same S W W') (hc : ∀ k, S k → S' k) : ∀ (a : As) (v : Value), IsA S W a v → IsA S' W' a v
  | .one s, v, h => by
    unfold IsA at h ⊢
    exact h.same hs hc fun xs hx => IsSl.same hs hc s xs hx
  | .more s a, v, h => by
    unfold IsA at h ⊢
    exact h.same hs hc fun xs ⟨x, ys, e, h1, h2⟩ => ⟨x, ys, e, h1.same hs hc fun zs hz => IsSl.same hs hc s zs hz, IsAl.same hs hc a ys h2⟩
theorem IsAl.same {S S' : Nat → Prop} {W W' : World} (hs : Same S W W') (hc : ∀ k, S k → S' k) : ∀ (a : As) (xs : List Value), IsAl S W a xs → IsAl S' W' a xs
  | .one s, xs, h => by
    unfold IsAl at h ⊢
    obtain ⟨x, e, h1⟩ := h
    exact ⟨x, e, h1.same hs hc fun zs hz => IsSl.same hs hc s zs hz⟩
  | .more s a, xs, h => by
    unfold IsAl at h ⊢
    obtain ⟨x, ys, e, h1, h2⟩ := h
    exact ⟨x, ys, e, h1.same hs hc fun zs hz => IsSl.same hs hc s zs hz, IsAl.same hs hc a ys h2⟩
theorem IsSl.same {S S' : Nat → Prop} {W W' : World} (hs : Same S W W') (hc : ∀ k, S k → S' k) : ∀ (s : Ss) (xs : List Value), IsSl S W s xs → IsSl S' W' s xs
  | .nil, xs, h => by
    unfold IsSl at h ⊢
    exact h
  | .cons u s, xs, h => by
    unfold IsSl at h ⊢
    obtain ⟨x, ys, e, h1, h2⟩ := h
    exact ⟨x, ys, e, IsU.same hs hc u x h1, IsSl.same hs hc s ys h2⟩
end
theorem Same.keep {p : Nat} {S : Nat → Prop} {W W' : World} (h : Keep p W W') (hp : ∀ k, S k → k < W.heap.size ∧ k ≠ p) : Same S W W' := fun k h1 => h.block k (hp k h1).1 (hp k h1).2
theorem Same.below {S : Nat → Prop} {W W' : World} (h : Below W.heap.size W W') (hp : ∀ k, S k → k < W.heap.size) : Same S W W' := fun k h1 => h.block k (hp k h1)
theorem Same.refl (S : Nat → Prop) (W : World) : Same S W W := fun _ _ => rfl
/-- Trees that came in one call are kept in the next one. -/
theorem Fresh.keep {p : Nat} {W W1 W2 : World} (h : Keep p W1 W2) (hp : p < W.heap.size) : Same (Fresh W W1) W1 W2 ∧ ∀ k, Fresh W W1 k → Fresh W W2 k :=
  ⟨Same.keep h fun k ⟨h1, h2⟩ => ⟨h2, by omega⟩, fun k ⟨h1, h2⟩ => ⟨h1, Nat.lt_of_lt_of_le h2 h.size⟩⟩
end Go.Proofs.YthckgmbadmilfaaGreat
