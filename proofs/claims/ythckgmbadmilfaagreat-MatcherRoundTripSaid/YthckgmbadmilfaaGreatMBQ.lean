/- Walks: the reference's Same; great. Walks: a quoted value (the program's and the reference's). Walks: the text of labels (the program's). Texts of labels that are read: plain Lean. -/
import Derived.Test.YthckgmbadmilfaaGreatMBP
import Derived.Test.YthckgmbadmilfaaGreatMAZ
import Derived.Deep.QuietTactic
import Derived.BigQuiet
import Derived.Test.YthckgmbadmilfaaGreatMAH
import Derived.Test.YthckgmbadmilfaaGreatMAI
import Derived.Lib.SlBytesConst
import Derived.Test.YthckgmbadmilfaaGreatMAG
namespace Go.Proofs.YthckgmbadmilfaaGreat
open Go.RowKit

theorem list_same {a b : List Mt} (hl : a.length = b.length) (h : ∀ j, j < a.length → a[j]? = b[j]?) : a = b := List.ext_getElem? fun j => by
  by_cases hj : j < a.length
  · exact h j hj
  · rw [List.getElem?_eq_none (by omega), List.getElem?_eq_none (by omega)]
set_option maxRecDepth 100000 in
set_option maxHeartbeats 4000000 in
theorem sameMs_any (A1 A2 : Option Addr) (c1 c2 : Nat) (a b : List Mt) (w : World) (ha : MtsIn w.heap.size w A1 a) (hb : MtsIn w.heap.size w A2 b) (hl : a.length ≤ 100000) :
    Calls Tryz.prog 18 #[.slice A1 a.length c1, .slice A2 b.length c2] w fun e w' => e = .returned (.bool (decide (a = b))) ∧ ∃ n, w' = w.drewN n := by
  have HA := Lib.hid ha
  have HB := Lib.hid hb
  clear ha hb
  by_cases hne : a.length = b.length
  · have HL := Lib.hid hne
    have hnb : ((a.length : Int) != (b.length : Int)) = false := by simp [hne]
    go_enter Tryz.func18, Tryz.ntmps18
    go_wp2_with fail
    clear hnb
    go_loopw [5] (fun i wr => ∃ k : Nat, k ≤ a.length ∧ i = .int .i64 k ∧ Hid (∀ j, j < k → a[j]? = b[j]?) ∧ Hid (∃ n, wr = w.drewN n)) (fun i _ => a.length - (intOf i).toNat)
    case atStart => exact ⟨0, Nat.zero_le _, rfl, Lib.hid (fun j hj => by omega), Lib.hid ⟨0, rfl⟩⟩
    case round =>
      obtain ⟨k, hk, rfl, HK, HW⟩ := hrel
      obtain ⟨n0, hn0⟩ := HW.out
      have HW0 := Lib.hid hn0
      by_cases hlt : k < a.length
      · have hlt2 : k < b.length := by omega
        obtain ⟨g1, o1, e1, _, c0, cc1, c2⟩ := (HA.out.drewN n0).at_ k hlt
        obtain ⟨g2, o2, e2, _, d0, d1, d2⟩ := (HB.out.drewN n0).at_ k hlt2
        subst e1 e2
        rw [← hn0] at c0 cc1 c2 d0 d1 d2
        have HX : Hid (a[k]? = some a[k]) := Lib.hid (List.getElem?_eq_getElem hlt)
        have HY : Hid (b[k]? = some b[k]) := Lib.hid (List.getElem?_eq_getElem hlt2)
        obtain ⟨x, hx⟩ : ∃ x, a[k] = x := ⟨_, rfl⟩
        obtain ⟨y, hy⟩ : ∃ y, b[k] = y := ⟨_, rfl⟩
        rw [hx] at c0 cc1 c2 HX
        rw [hy] at d0 d1 d2 HY
        clear hx hy hn0
        by_cases hxy : x = y
        · subst hxy
          have HK2 : Hid (∀ j, j < k + 1 → a[j]? = b[j]?) := Lib.hid (fun j hj => by
            by_cases e : j = k
            · rw [e, HX.out, HY.out]
            · exact HK.out j (by omega))
          go_wp2_with fail
          go_quiet (fail)
          go_wp2_with fail
          refine ⟨⟨k + 1, by omega, rfl, HK2, Lib.hid ⟨_, by rw [HW0.out, World.drewN_drewN]⟩⟩, by simp only [intOf]; omega⟩
        · have HEQ := Lib.hid (eqM x y)
          have HE2 := HEQ.out
          rw [decide_eq_false hxy] at HE2
          obtain ⟨q1, hq1⟩ : ∃ b, (x.kind == y.kind) = b := ⟨_, rfl⟩
          obtain ⟨q2, hq2⟩ : ∃ b, (x.name.toList == y.name.toList) = b := ⟨_, rfl⟩
          obtain ⟨q3, hq3⟩ : ∃ b, (x.value.toList == y.value.toList) = b := ⟨_, rfl⟩
          rw [hq1, hq2, hq3] at HE2
          have HE3 := Lib.hid HE2
          clear HE2 HEQ
          have HR : Hid (decide (a = b) = false) := Lib.hid (decide_eq_false (fun e => hxy (by
            have h1 := HX.out
            rw [e, HY.out] at h1
            exact (Option.some.inj h1).symm)))
          cases q1 <;> cases q2 <;> cases q3
          case true.true.true => exact absurd HE3.out (by decide)
          all_goals
            clear HE3
            go_wp2_with fail
            go_quiet (fail)
            go_wp2_with fail
            go_ret
            exact ⟨ret_bool HR.out.symm, _, by rw [HW0.out, World.drewN_drewN]⟩
      · have HR : Hid (decide (a = b) = true) := Lib.hid (decide_eq_true (list_same HL.out (fun j hj => HK.out j (by omega))))
        clear hn0
        go_wp2_with fail
        go_ret
        exact ⟨ret_bool HR.out.symm, n0, HW0.out⟩
  · have HR : Hid (decide (a = b) = false) := Lib.hid (decide_eq_false (fun e => hne (by rw [e])))
    have hnb : ((a.length : Int) != (b.length : Int)) = true := by simp; omega
    go_enter Tryz.func18, Tryz.ntmps18
    go_wp2_with fail
    go_ret
    exact ⟨ret_bool HR.out.symm, 0, rfl⟩
/-- A list of matchers that is read, with its address. -/
def GA (w : World) := {x : Option Addr × Nat × List Mt // MtsIn w.heap.size w x.1 x.2.2 ∧ x.2.2.length ≤ 9223372036854775807}
instance (w : World) : Inhabited (GA w) := ⟨⟨(none, 0, []), MtsIn.nil _ _ _, Nat.zero_le _⟩⟩
def GA.of {w : World} (A : Option Addr) (c : Nat) (ms : List Mt) (hm : MtsIn w.heap.size w A ms) (hl : ms.length ≤ 9223372036854775807) : GA w := ⟨(A, c, ms), hm, hl⟩
def GA.enc {w : World} (x : GA w) : Value := .slice x.1.1 x.1.2.2.length x.1.2.1
def GA.great {w : World} (x : GA w) : Bool := greatM x.1.2.2
theorem great_at (w : World) : PredAt Tryz.prog 35 #[] (GA.enc (w := w)) GA.great w := fun W x hb => by
  show Calls Tryz.prog 35 (#[x.enc] ++ #[]) W _
  rw [Array.append_empty]
  refine (greatM_any x.1.1 x.1.2.1 x.1.2.2 W ((x.2.1.below hb).mono hb.size) x.2.2).mono ?_
  rintro e w' ⟨rfl, rfl⟩
  exact ⟨rfl, 0, rfl⟩
set_option maxRecDepth 100000 in
set_option maxHeartbeats 1000000 in
theorem greats_any (X : Nat) (w : World) (zs : List (GA w)) (hl : zs.length ≤ 100) (hc : ∀ j, j < zs.length → w.cell? ⟨X, j, none⟩ = some (zs[j]!).enc) :
    Calls Tryz.prog 12 #[.slice (some ⟨X, 0, none⟩) zs.length zs.length] w fun e w' => e = .returned (.bool (zs.any GA.great)) ∧ ∃ q, w' = w.drewN q := by
  have eg : ∀ args w, (callFunc 35 args).run Tryz.prog w = .ok (.enter 35 args) w := enters_of Tryz.func35 (by kernel_rfl) rfl
  have h := AnyE.slices_ContainsFunc Tryz.cfMM GA.enc GA.great 35 #[] eg X 0 zs.length zs.length zs w (great_at w) (Nat.le_refl _) (by omega) (fun j hj => by rw [Nat.zero_add]; exact hc j hj)
  rw [List.take_length] at h
  have HH := Lib.hid h
  clear h eg hc
  generalize zs.any GA.great = r at *
  generalize zs.length = n at *
  go_enter Tryz.func12, Tryz.ntmps12
  go_wp2_with fail
  refine HH.out.mono ?_
  rintro e w' ⟨rfl, q, rfl⟩
  go_wp2_with fail
  go_ret
  exact ⟨rfl, q, rfl⟩
theorem great1_any (X : Nat) (A : Option Addr) (c : Nat) (ms : List Mt) (w : World) (hX : w.cell? ⟨X, 0, none⟩ = some (.slice A ms.length c)) (hm : MtsIn w.heap.size w A ms) (hl : ms.length ≤ 9223372036854775807) :
    Calls Tryz.prog 12 #[.slice (some ⟨X, 0, none⟩) 1 1] w fun e w' => e = .returned (.bool (greatM ms)) ∧ ∃ q, w' = w.drewN q := by
  have h := greats_any X w [GA.of A c ms hm hl] (show 1 ≤ 100 by decide) (fun j hj => by
    have : j = 0 := Nat.lt_one_iff.1 hj
    subst this
    exact hX)
  rw [show ([GA.of A c ms hm hl] : List (GA w)).any GA.great = greatM ms from (show (greatM ms || false) = greatM ms from Bool.or_false _)] at h
  exact h
theorem great2_any (X : Nat) (A A2 : Option Addr) (c c2 : Nat) (ms ns : List Mt) (w : World) (hX : w.cell? ⟨X, 0, none⟩ = some (.slice A ms.length c)) (hX2 : w.cell? ⟨X, 1, none⟩ = some (.slice A2 ns.length c2)) (hm : MtsIn w.heap.size w A ms) (hm2 : MtsIn w.heap.size w A2 ns) (hl : ms.length ≤ 9223372036854775807) (hl2 : ns.length ≤ 9223372036854775807) :
    Calls Tryz.prog 12 #[.slice (some ⟨X, 0, none⟩) 2 2] w fun e w' => e = .returned (.bool (greatM ms || greatM ns)) ∧ ∃ q, w' = w.drewN q := by
  have h := greats_any X w [GA.of A c ms hm hl, GA.of A2 c2 ns hm2 hl2] (show 2 ≤ 100 by decide) (fun j hj => by
    have hj2 : j < 2 := hj
    have : j = 0 ∨ j = 1 := by omega
    rcases this with rfl | rfl
    · exact hX
    · exact hX2)
  rw [show ([GA.of A c ms hm hl, GA.of A2 c2 ns hm2 hl2] : List (GA w)).any GA.great = (greatM ms || greatM ns) from (show (greatM ms || (greatM ns || false)) = (greatM ms || greatM ns) from by rw [Bool.or_false])] at h
  exact h
end Go.Proofs.YthckgmbadmilfaaGreat

namespace Go.Proofs.YthckgmbadmilfaaGreat
open Go.RowKit

def quo1 (c : UInt8) : List UInt8 := if c = 92 ∨ c = 34 then [92, c] else if c = 10 then [92, 110] else [c]
theorem quoB_cons (c : UInt8) (r : List UInt8) : quoB (c :: r) = quo1 c ++ quoB r := rfl
theorem quoB_append (a b : List UInt8) : quoB (a ++ b) = quoB a ++ quoB b := by
  induction a with
  | nil => rfl
  | cons c r ih => rw [List.cons_append, quoB_cons, quoB_cons, ih, List.append_assoc]
theorem quo1_len (c : UInt8) : (quo1 c).length ≤ 2 := by
  unfold quo1
  split
  · simp
  · split <;> simp
theorem quoB_len (l : List UInt8) : (quoB l).length ≤ 2 * l.length := by
  induction l with
  | nil => simp [quoB]
  | cons c r ih =>
    have := quo1_len c
    rw [quoB_cons, List.length_append, List.length_cons]
    omega
theorem take_byte {s : ByteArray} {k : Nat} (h : k < s.size) : (bs s).take (k + 1) = (bs s).take k ++ [s[k]] := by
  rw [List.take_succ_eq_append_getElem (by rw [bs_length]; exact h)]
  rfl
theorem take_end {s : ByteArray} {k : Nat} (h : s.size ≤ k) : (bs s).take k = bs s := List.take_of_length_le (by rw [bs_length]; exact h)
theorem quo_step {s : ByteArray} {k : Nat} (h : k < s.size) : quoB ((bs s).take (k + 1)) = quoB ((bs s).take k) ++ quo1 s[k] := by
  rw [take_byte h, quoB_append]
  show _ ++ (quo1 s[k] ++ []) = _
  rw [List.append_nil]
theorem quo_take_len (s : ByteArray) (k : Nat) : (quoB ((bs s).take k)).length ≤ 2 * s.size := by
  have := quoB_len ((bs s).take k)
  rw [List.length_take, bs_length] at this
  omega
theorem byte_ne {c d : UInt8} (h : c ≠ d) : ((c.toNat : Int) == (d.toNat : Int)) = false := by
  rw [beq_eq_false_iff_ne]
  intro e
  exact h (UInt8.toNat_inj.1 (by omega))

end Go.Proofs.YthckgmbadmilfaaGreat

namespace Go.Proofs.YthckgmbadmilfaaGreat
open Go.RowKit

theorem fmtMore_snoc (a : List Lab) (x : Lab) : fmtMore (a ++ [x]) = fmtMore a ++ (44 :: fmtX x) := by
  induction a with
  | nil => simp [fmtMore]
  | cons y r ih => simp [fmtMore, ih]
theorem fmtIn_snoc (a : List Lab) (x : Lab) : fmtIn (a ++ [x]) = fmtIn a ++ ((if a.length = 0 then [] else [44]) ++ fmtX x) := by
  cases a with
  | nil => simp [fmtIn, fmtMore]
  | cons y r => simp [fmtIn, fmtMore_snoc]
theorem fmtX_len {x : Lab} (h1 : x.name.size ≤ 10000) (h2 : x.value.size ≤ 10000) : (fmtX x).length ≤ 30003 := by
  have h3 := quoB_len (bs x.value)
  rw [bs_length] at h3
  unfold fmtX
  simp only [List.length_append, List.length_cons, List.length_nil, bs_length]
  omega
theorem fmtMore_len : ∀ (ls : List Lab), (∀ x ∈ ls, x.name.size ≤ 10000 ∧ x.value.size ≤ 10000) → (fmtMore ls).length ≤ 30004 * ls.length
  | [], _ => by simp [fmtMore]
  | x :: r, h => by
    have h1 := fmtX_len (h x (by simp)).1 (h x (by simp)).2
    have h2 := fmtMore_len r (fun y hy => h y (by simp [hy]))
    simp only [fmtMore, List.length_cons, List.length_append]
    omega
theorem fmtIn_len (ls : List Lab) (h : ∀ x ∈ ls, x.name.size ≤ 10000 ∧ x.value.size ≤ 10000) : (fmtIn ls).length ≤ 30004 * ls.length := by
  cases ls with
  | nil => simp [fmtIn]
  | cons x r =>
    have h1 := fmtX_len (h x (by simp)).1 (h x (by simp)).2
    have h2 := fmtMore_len r (fun y hy => h y (by simp [hy]))
    simp only [fmtIn, List.length_cons, List.length_append]
    omega
/-- What stands before the label k. -/
def fmtTo (ls : List Lab) (k : Nat) : List UInt8 := 123 :: fmtIn (ls.take k)
theorem fmtTo_step0 {ls : List Lab} (h : 0 < ls.length) : fmtTo ls 1 = ((fmtTo ls 0 ++ bs (ls[0]).name) ++ ([61, 34] : List UInt8) ++ quoB (bs (ls[0]).value)) ++ ([34] : List UInt8) := by
  unfold fmtTo
  rw [List.take_succ_eq_append_getElem h, fmtIn_snoc]
  simp [fmtX, fmtIn]
theorem fmtTo_step {ls : List Lab} {k : Nat} (h : k + 1 < ls.length) : fmtTo ls (k + 1 + 1) = (((fmtTo ls (k + 1) ++ ([44] : List UInt8)) ++ bs (ls[k + 1]).name) ++ ([61, 34] : List UInt8) ++ quoB (bs (ls[k + 1]).value)) ++ ([34] : List UInt8) := by
  unfold fmtTo
  rw [List.take_succ_eq_append_getElem h, fmtIn_snoc, if_neg (by rw [List.length_take]; omega)]
  simp [fmtX]
theorem fmtTo_end (ls : List Lab) : fmtTo ls ls.length ++ [125] = fmtL ls := by
  unfold fmtTo fmtL
  rw [List.take_length]
  simp
theorem fmtTo_len {ls : List Lab} (k : Nat) (h : ∀ x ∈ ls, x.name.size ≤ 10000 ∧ x.value.size ≤ 10000) (hl : ls.length ≤ 100) : (fmtTo ls k).length ≤ 4000000 := by
  have h1 := fmtIn_len (ls.take k) (fun x hx => h x (List.mem_of_mem_take hx))
  have h2 : (ls.take k).length ≤ ls.length := by rw [List.length_take]; omega
  unfold fmtTo
  rw [List.length_cons]
  have h3 : 30004 * (ls.take k).length ≤ 30004 * 100 := Nat.mul_le_mul_left _ (by omega)
  omega

/-- A block that is not the row's. -/
structure Box (w : World) (A : Option Addr) (B : Nat) (cs : Array Value) (t : TypeId) : Prop where
  at_ : At w B cs t
  ne : A.map (·.block) ≠ some B
theorem Box.gro {w w' : World} {A A' : Option Addr} {B : Nat} {cs : Array Value} {t : TypeId} (h : Box w A B cs t) (hg : Gro w w' A A') : Box w' A' B cs t := by
  refine ⟨hg.at_ h.at_ h.ne, ?_⟩
  have hlt := h.at_.lt
  rcases hg.own with e | ⟨g, e, hge⟩
  · rw [e]; exact h.ne
  · rw [e]
    intro e2
    injection e2 with e2
    omega
theorem Box.new {W w : World} {A : Option Addr} {n c : Nat} {l : List UInt8} (h : BR W A n c l w) (cs : Array Value) (t : TypeId) : Box (w.alloc (.cells cs t)) A w.heap.size cs t := by
  refine ⟨At.new w cs t, fun e => ?_⟩
  have := (h.lt w.heap.size e).2
  omega
theorem Box.alloc {w : World} {A : Option Addr} {B : Nat} {cs : Array Value} {t : TypeId} (h : Box w A B cs t) (o : Obj) : Box (w.alloc o) A B cs t := ⟨h.at_.alloc o, h.ne⟩

end Go.Proofs.YthckgmbadmilfaaGreat

namespace Go.Proofs.YthckgmbadmilfaaGreat

def unescB (c : UInt8) : Option UInt8 := if c = 92 ∨ c = 34 then some c else if c = 110 then some 10 else none
/-- A value behind its first quotation mark, and the bytes up to and with the second one. -/
def unqL : List UInt8 → Option (List UInt8 × Nat)
  | [] => none
  | [c] => if c = 34 then some ([], 1) else none
  | c :: d :: q => if c = 34 then some ([], 1) else if c = 10 then none else if c = 92 then ((unescB d).bind fun e => (unqL q).map fun p => (e :: p.1, p.2 + 2)) else (unqL (d :: q)).map fun p => (c :: p.1, p.2 + 1)
theorem unqL_end : unqL [] = none := rfl
theorem unqL_quote (r : List UInt8) : unqL (34 :: r) = some ([], 1) := by cases r <;> simp [unqL]
theorem unqL_line (r : List UInt8) : unqL (10 :: r) = none := by cases r <;> simp [unqL]
theorem unqL_back_end : unqL [92] = none := by simp [unqL]
theorem unqL_back (d : UInt8) (q : List UInt8) : unqL (92 :: d :: q) = (unescB d).bind fun e => (unqL q).map fun p => (e :: p.1, p.2 + 2) := by simp [unqL]
theorem unqL_other (c : UInt8) (r : List UInt8) (h1 : c ≠ 34) (h2 : c ≠ 10) (h3 : c ≠ 92) : unqL (c :: r) = (unqL r).map fun p => (c :: p.1, p.2 + 1) := by
  cases r with
  | nil => simp [unqL, h1]
  | cons d q => simp [unqL, h1, h2, h3]
theorem quoB_consP (c : UInt8) (r : List UInt8) : quoB (c :: r) = (if c = 92 ∨ c = 34 then [92, c] else if c = 10 then [92, 110] else [c]) ++ quoB r := rfl
/-- What is quoted is read. -/
theorem unqL_quo : ∀ (v t : List UInt8), unqL (quoB v ++ 34 :: t) = some (v, (quoB v).length + 1)
  | [], t => by simp [quoB, unqL_quote]
  | c :: r, t => by
    have ih := unqL_quo r t
    rw [quoB_consP]
    by_cases h1 : c = 92 ∨ c = 34
    · rw [if_pos h1]
      show unqL (92 :: c :: (quoB r ++ 34 :: t)) = _
      rw [unqL_back, ih]
      simp [unescB, h1]
    · rw [if_neg h1]
      by_cases h2 : c = 10
      · rw [if_pos h2]
        show unqL (92 :: 110 :: (quoB r ++ 34 :: t)) = _
        rw [unqL_back, ih]
        simp [unescB, h2]
      · rw [if_neg h2]
        show unqL (c :: (quoB r ++ 34 :: t)) = _
        rw [unqL_other c _ (fun e => h1 (.inr e)) h2 (fun e => h1 (.inl e)), ih]
        simp
/-- What is read was quoted. -/
theorem unqL_some : ∀ (n : Nat) (l : List UInt8), l.length ≤ n → ∀ (v : List UInt8) (k : Nat), unqL l = some (v, k) → ∃ t, l = quoB v ++ 34 :: t ∧ k = (quoB v).length + 1
  | _, [], _, v, k, h => by simp [unqL] at h
  | 0, c :: r, hn, _, _, _ => by simp at hn
  | n + 1, c :: r, hn, v, k, h => by
    by_cases h1 : c = 34
    · subst h1
      rw [unqL_quote] at h
      cases h
      exact ⟨r, rfl, rfl⟩
    · by_cases h2 : c = 10
      · subst h2; rw [unqL_line] at h; cases h
      · by_cases h3 : c = 92
        · subst h3
          cases r with
          | nil => rw [unqL_back_end] at h; cases h
          | cons d q =>
            rw [unqL_back] at h
            cases hd : unescB d with
            | none => rw [hd] at h; cases h
            | some e =>
              rw [hd] at h
              cases hq : unqL q with
              | none => rw [hq] at h; cases h
              | some p =>
                rw [hq] at h
                obtain ⟨t, h4, h5⟩ := unqL_some n q (by simp at hn; omega) p.1 p.2 hq
                simp only [Option.bind_some, Option.map_some, Option.some.injEq, Prod.mk.injEq] at h
                obtain ⟨rfl, rfl⟩ := h
                refine ⟨t, ?_, ?_⟩
                · rw [quoB_consP]
                  unfold unescB at hd
                  split at hd
                  · rename_i hx
                    injection hd with hd
                    subst hd
                    rw [if_pos hx, h4]
                    rfl
                  · split at hd
                    · rename_i hx hy
                      injection hd with hd
                      subst hd
                      rw [if_neg (by decide), if_pos rfl, h4, hy]
                      rfl
                    · cases hd
                · rw [quoB_consP, List.length_append, h5]
                  have : (if e = 92 ∨ e = 34 then [92, e] else if e = 10 then [92, 110] else [e]).length = 2 := by
                    unfold unescB at hd
                    split at hd
                    · rename_i hx; injection hd with hd; subst hd; rw [if_pos hx]; rfl
                    · split at hd
                      · injection hd with hd; subst hd; rfl
                      · cases hd
                  omega
        · rw [unqL_other c r h1 h2 h3] at h
          cases hq : unqL r with
          | none => rw [hq] at h; cases h
          | some p =>
            rw [hq] at h
            obtain ⟨t, h4, h5⟩ := unqL_some n r (by simp at hn; omega) p.1 p.2 hq
            simp only [Option.map_some, Option.some.injEq, Prod.mk.injEq] at h
            obtain ⟨rfl, rfl⟩ := h
            refine ⟨t, ?_, ?_⟩
            · rw [quoB_consP, if_neg (by rintro (e | e); exact h3 e; exact h1 e), if_neg h2, h4]; rfl
            · rw [quoB_consP, if_neg (by rintro (e | e); exact h3 e; exact h1 e), if_neg h2, h5]; simp

/-! ### Lists -/
def lab1 (l : List UInt8) : Option (Lab × List UInt8) :=
  if l.takeWhile letB5 = [] then none
  else match l.dropWhile letB5 with
  | a :: b :: r => if a = 61 ∧ b = 34 then (unqL r).map fun p => (⟨str (l.takeWhile letB5), str p.1⟩, r.drop p.2) else none
  | _ => none
def labsF : Nat → List UInt8 → Option (List Lab)
  | 0, _ => none
  | f + 1, l => (lab1 l).bind fun p => match p.2 with
    | [] => none
    | c :: q => if c = 44 then (labsF f q).map (p.1 :: ·) else if c = 125 ∧ q = [] then some [p.1] else none
def parL (l : List UInt8) : Option (List Lab) := if l = [123, 125] then some [] else match l with
  | [] => none
  | c :: r => if c = 123 then labsF (r.length + 1) r else none
/-- A name as the text reader takes it. -/
def letN (x : Lab) : Prop := bs x.name ≠ [] ∧ ∀ c ∈ bs x.name, letB5 c = true
theorem takeWhile_name : ∀ (n t : List UInt8), (∀ c ∈ n, letB5 c = true) → (n ++ 61 :: t).takeWhile letB5 = n ∧ (n ++ 61 :: t).dropWhile letB5 = 61 :: t
  | [], t, _ => by
    have : letB5 61 = false := by decide
    simp [this]
  | c :: r, t, h => by
    have h1 := h c List.mem_cons_self
    have h2 := takeWhile_name r t (fun d hd => h d (List.mem_cons_of_mem _ hd))
    rw [List.cons_append, List.takeWhile_cons_of_pos h1, List.dropWhile_cons_of_pos h1, h2.1, h2.2]
    exact ⟨rfl, rfl⟩
theorem lab1_fmt (x : Lab) (t : List UInt8) (h : letN x) : lab1 (fmtX x ++ t) = some (x, t) := by
  have e : fmtX x ++ t = bs x.name ++ 61 :: (34 :: (quoB (bs x.value) ++ 34 :: t)) := by unfold fmtX; simp
  obtain ⟨h1, h2⟩ := takeWhile_name (bs x.name) (34 :: (quoB (bs x.value) ++ 34 :: t)) h.2
  unfold lab1
  rw [e, h1, h2, if_neg h.1]
  simp only [and_self, if_true]
  rw [unqL_quo]
  have e2 : List.drop ((quoB (bs x.value)).length + 1) (quoB (bs x.value) ++ 34 :: t) = t := by
    rw [List.drop_append, List.drop_of_length_le (by omega)]
    simp
  simp only [Option.map_some, e2]
  rfl
theorem lab1_some (l : List UInt8) (x : Lab) (t : List UInt8) (h : lab1 l = some (x, t)) : l = fmtX x ++ t ∧ letN x := by
  unfold lab1 at h
  split at h
  · cases h
  · rename_i hn
    split at h
    · rename_i a b r hd
      split at h
      · rename_i hab
        obtain ⟨rfl, rfl⟩ := hab
        cases hq : unqL r with
        | none => rw [hq] at h; cases h
        | some p =>
          rw [hq] at h
          simp only [Option.map_some, Option.some.injEq, Prod.mk.injEq] at h
          obtain ⟨rfl, rfl⟩ := h
          obtain ⟨t2, h4, h5⟩ := unqL_some _ r (Nat.le_refl _) p.1 p.2 hq
          refine ⟨?_, hn, fun c hc => ?_⟩
          · have e := (List.takeWhile_append_dropWhile (p := letB5) (l := l)).symm
            rw [hd] at e
            rw [e]
            unfold fmtX
            simp only [bs_str]
            have e2 : r.drop p.2 = t2 := by
              rw [h4, h5, List.drop_append, List.drop_of_length_le (by omega)]
              simp
            rw [e2]
            have e3 : l.takeWhile letB5 ++ 61 :: 34 :: r = l := by rw [← hd]; exact List.takeWhile_append_dropWhile
            rw [e3]
            simp only [List.append_assoc, List.cons_append, List.nil_append]
            rw [← h4]
            exact e
          · simp only [bs_str] at hc
            exact List.all_eq_true.1 List.all_takeWhile c hc
      · cases h
    · cases h
theorem labsF_fmt : ∀ (ls : List Lab) (x : Lab) (f : Nat), ls.length < f → letN x → (∀ y ∈ ls, letN y) → labsF f (fmtX x ++ (fmtMore ls ++ [125])) = some (x :: ls)
  | [], x, f, hf, hx, _ => by
    obtain ⟨f, rfl⟩ : ∃ g, f = g + 1 := ⟨f - 1, by simp at hf; omega⟩
    unfold labsF
    rw [lab1_fmt x _ hx]
    simp [fmtMore]
  | y :: r, x, f, hf, hx, h => by
    obtain ⟨f, rfl⟩ : ∃ g, f = g + 1 := ⟨f - 1, by simp at hf; omega⟩
    have ih := labsF_fmt r y f (by simp at hf; omega) (h y List.mem_cons_self) (fun z hz => h z (List.mem_cons_of_mem _ hz))
    unfold labsF
    rw [lab1_fmt x _ hx]
    have e : fmtMore (y :: r) ++ [125] = 44 :: (fmtX y ++ (fmtMore r ++ [125])) := by rw [show fmtMore (y :: r) = 44 :: (fmtX y ++ fmtMore r) from rfl]; simp
    simp only [Option.bind_some, e, if_true, ih, Option.map_some]
theorem labsF_some : ∀ (f : Nat) (l : List UInt8) (ls : List Lab), labsF f l = some ls → ∃ x r, ls = x :: r ∧ l = fmtX x ++ (fmtMore r ++ [125]) ∧ letN x ∧ ∀ y ∈ r, letN y
  | 0, _, _, h => by cases h
  | f + 1, l, ls, h => by
    unfold labsF at h
    cases hl : lab1 l with
    | none => rw [hl] at h; cases h
    | some p =>
      rw [hl] at h
      obtain ⟨x, t⟩ := p
      obtain ⟨h1, h2⟩ := lab1_some l x t hl
      simp only [Option.bind_some] at h
      cases t with
      | nil => cases h
      | cons c q =>
        simp only at h
        split at h
        · rename_i hc
          subst hc
          cases hq : labsF f q with
          | none => rw [hq] at h; cases h
          | some qs =>
            rw [hq] at h
            simp only [Option.map_some, Option.some.injEq] at h
            subst h
            obtain ⟨y, r, rfl, h4, h5, h6⟩ := labsF_some f q qs hq
            refine ⟨x, y :: r, rfl, ?_, h2, fun z hz => ?_⟩
            · rw [h1, h4, show fmtMore (y :: r) = 44 :: (fmtX y ++ fmtMore r) from rfl]
              simp
            · rcases List.mem_cons.1 hz with rfl | hz
              · exact h5
              · exact h6 z hz
        · split at h
          · rename_i hc
            obtain ⟨rfl, rfl⟩ := hc
            injection h with h
            subst h
            exact ⟨x, [], rfl, by rw [h1]; rfl, h2, fun y hy => by simp at hy⟩
          · cases h
theorem fmtMore_lenP : ∀ r : List Lab, r.length ≤ (fmtMore r).length
  | [] => Nat.le_refl _
  | x :: r => by
    have := fmtMore_lenP r
    rw [show fmtMore (x :: r) = 44 :: (fmtX x ++ fmtMore r) from rfl]
    simp only [List.length_cons, List.length_append]
    omega
theorem fmtX_posP (x : Lab) : 3 ≤ (fmtX x).length := by unfold fmtX; simp only [List.length_append, List.length_cons, List.length_nil]; omega
theorem parL_fmt (ls : List Lab) (h : ∀ x ∈ ls, letN x) : parL (fmtL ls) = some ls := by
  unfold parL
  cases ls with
  | nil => exact if_pos rfl
  | cons x r =>
    have e : fmtL (x :: r) = 123 :: (fmtX x ++ (fmtMore r ++ [125])) := by unfold fmtL fmtIn; simp
    have hp := fmtX_posP x
    rw [if_neg, e]
    · simp only [if_true]
      refine labsF_fmt r x _ ?_ (h x List.mem_cons_self) (fun y hy => h y (List.mem_cons_of_mem _ hy))
      have := fmtMore_lenP r
      simp only [List.length_append, List.length_cons, List.length_nil]
      omega
    · rw [e]
      intro h2
      have := congrArg List.length h2
      simp only [List.length_append, List.length_cons, List.length_nil] at this
      omega
theorem parL_some (l : List UInt8) (ls : List Lab) (h : parL l = some ls) : l = fmtL ls ∧ ∀ x ∈ ls, letN x := by
  unfold parL at h
  split at h
  · rename_i he
    injection h with h
    subst h
    exact ⟨by rw [he]; rfl, fun x hx => by simp at hx⟩
  · split at h
    · cases h
    · rename_i c r
      split at h
      · rename_i hc
        subst hc
        obtain ⟨x, q, rfl, h1, h2, h3⟩ := labsF_some _ _ _ h
        refine ⟨by rw [h1]; unfold fmtL fmtIn; simp, fun y hy => ?_⟩
        rcases List.mem_cons.1 hy with rfl | hy
        · exact h2
        · exact h3 y hy
      · cases h
theorem nameB_letN (x : Lab) (h : nameB x.name = true) : letN x := by
  unfold nameB at h
  simp only [Bool.and_eq_true, List.all_eq_true, decide_eq_true_eq] at h
  refine ⟨fun e => ?_, h.1.1⟩
  have := h.1.2.1
  rw [← bs_length, e] at this
  simp at this
theorem chkFrom_names : ∀ (p : Option ByteArray) (ls : List Lab), chkFrom p ls = 0 → ∀ x ∈ ls, nameB x.name = true
  | _, [], _, x, hx => by simp at hx
  | p, y :: r, h, x, hx => by
    unfold chkFrom at h
    split at h
    · rename_i hn
      split at h
      · cases h
      · split at h
        · cases h
        · split at h
          · cases h
          · rcases List.mem_cons.1 hx with rfl | hx
            · exact hn
            · exact chkFrom_names _ r h x hx
    · cases h
/-- What Parse answers: the list and the error. -/
def parE (s : ByteArray) : List Lab × Int := match parL (bs s) with
  | none => ([], 3)
  | some ls => if chkL ls = 0 then (ls, 0) else ([], chkL ls)
theorem parE_fmt (s : ByteArray) (ls : List Lab) (h : bs s = fmtL ls) (hc : chkL ls = 0) : parE s = (ls, 0) := by
  have hn : ∀ x ∈ ls, letN x := fun x hx => nameB_letN x (chkFrom_names none ls (by unfold chkL at hc; split at hc; cases hc; exact hc) x hx)
  unfold parE
  rw [h, parL_fmt ls hn]
  simp only [if_pos hc]
theorem parE_ok (s : ByteArray) (ls : List Lab) (h : parE s = (ls, 0)) : bs s = fmtL ls ∧ chkL ls = 0 := by
  unfold parE at h
  split at h
  · cases h
  · rename_i l hl
    split at h
    · rename_i hc
      injection h with h _
      subst h
      exact ⟨(parL_some _ _ hl).1, hc⟩
    · rename_i hc
      injection h with _ h
      exact absurd h hc
end Go.Proofs.YthckgmbadmilfaaGreat
