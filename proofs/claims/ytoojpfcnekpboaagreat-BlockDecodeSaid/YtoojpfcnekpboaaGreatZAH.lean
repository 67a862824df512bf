/- Walks: a quoted value (the program's and the reference's). Walks: the text of labels (the program's). -/
import Derived.Test.YtoojpfcnekpboaaGreatZAD
import Derived.Test.YtoojpfcnekpboaaGreatZAB
import Derived.Lib.SlBytesConst
namespace Go.Proofs.YtoojpfcnekpboaaGreat
open Go.RowKit

def quo1 (c : UInt8) : List UInt8 := if c = 92 ∨ c = 34 then [92, c] else if c = 10 then [92, 110] else [c]
theorem quoB_cons (c : UInt8) (r : List UInt8) : quoB (c :: r) = quo1 c ++ quoB r := rfl
theorem quoB_append (a b : List UInt8) : quoB (a ++ b) = quoB a ++ quoB b := by
  induction a with
  | nil => rfl
  | cons c r ih => rw [List.cons_append, quoB_cons, quoB_cons, ih, List.append_assoc]
theorem quo1_len (c : UInt8) : (quo1 c).length ≤ 2 := by
  unfold quo1
  split
  · simp
  · split <;> simp
theorem quoB_len (l : List UInt8) : (quoB l).length ≤ 2 * l.length := by
  induction l with
  | nil => simp [quoB]
  | cons c r ih =>
    have := quo1_len c
    rw [quoB_cons, List.length_append, List.length_cons]
    omega
theorem take_byte {s : ByteArray} {k : Nat} (h : k < s.size) : (bs s).take (k + 1) = (bs s).take k ++ [s[k]] := by
  rw [List.take_succ_eq_append_getElem (by rw [bs_length]; exact h)]
  rfl
theorem take_end {s : ByteArray} {k : Nat} (h : s.size ≤ k) : (bs s).take k = bs s := List.take_of_length_le (by rw [bs_length]; exact h)
theorem quo_step {s : ByteArray} {k : Nat} (h : k < s.size) : quoB ((bs s).take (k + 1)) = quoB ((bs s).take k) ++ quo1 s[k] := by
  rw [take_byte h, quoB_append]
  show _ ++ (quo1 s[k] ++ []) = _
  rw [List.append_nil]
theorem quo_take_len (s : ByteArray) (k : Nat) : (quoB ((bs s).take k)).length ≤ 2 * s.size := by
  have := quoB_len ((bs s).take k)
  rw [List.length_take, bs_length] at this
  omega
theorem byte_ne {c d : UInt8} (h : c ≠ d) : ((c.toNat : Int) == (d.toNat : Int)) = false := by
  rw [beq_eq_false_iff_ne]
  intro e
  exact h (UInt8.toNat_inj.1 (by omega))

set_option maxHeartbeats 2000000 in
theorem appendQuoted_any (W w : World) (A : Option Addr) (n c : Nat) (l : List UInt8) (s : ByteArray) (hr : BR W A n c l w) (hl : l.length ≤ 100000000) (hs : s.size ≤ 100000000) :
    Calls Tryz.prog 122 #[.slice A n c, .string s] w fun e w' => ∃ A' n' c' l', e = .returned (.slice A' n' c') ∧ Hid (l' = l ++ quoB (bs s)) ∧ BR W A' n' c' l' w' ∧ Gro w w' A A' := by
  have HS0 : Hid (BR W A n c (l ++ quoB ((bs s).take 0)) w) := Lib.hid (by simpa [quoB] using hr)
  have HSL := Lib.hid hs
  have HLL := Lib.hid hl
  clear hr hs hl
  go_enter Tryz.func122, Tryz.ntmps122
  go_wp2_with fail
  go_loopg [0, 5] (s.size + 1) (fun g v i wr => ∃ (k : Nat) (A1 : Option Addr) (n1 c1 : Nat), g = s.size + 1 - k ∧ k ≤ s.size ∧ v = .slice A1 n1 c1 ∧ i = .int .i64 k ∧ BR W A1 n1 c1 (l ++ quoB ((bs s).take k)) wr ∧ Gro w wr A A1)
  case atStart => exact ⟨0, A, n, c, rfl, Nat.zero_le _, rfl, rfl, HS0.out, Gro.refl _ _⟩
  case round =>
    obtain ⟨k, A1, n1, c1, hg, hk, rfl, rfl, hbr, hgr⟩ := hrel
    have HBR := Lib.hid hbr
    have HGR := Lib.hid hgr
    have hkl : (k : Int) ≤ 100000000 := by have := HSL.out; omega
    clear hbr hgr HS0
    by_cases hlt : k < s.size
    · have HQ := Lib.hid (quo_step hlt)
      have HLN : Hid (n1 + 2 ≤ 1000000000000) := Lib.hid (by
        have h0 := HBR.out.len
        have h1 := quo_take_len s k
        have h2 := HSL.out
        have h3 := HLL.out
        rw [List.length_append] at h0
        omega)
      have HMO : Hid (s.size + 1 - (k + 1) < gk) := Lib.hid (by omega)
      clear hg
      obtain ⟨b, hb⟩ : ∃ b, s[k] = b := ⟨_, rfl⟩
      rw [hb] at HQ
      by_cases h92 : b = 92
      · subst h92
        generalize hL : l ++ quoB ((bs s).take k) = L at *
        have HL := Lib.hid hL
        clear hL
        go_wp2_with (at_builtin; (refine wpList_bytes rfl (.tmp 24) (.tmp 28) rfl HBR.out [92, 92] (by decide) rfl rfl HLN.out ?_))
        intro A' n' c' l' w' HE hq hg2
        have HQR : Hid (BR W A' n' c' (l ++ quoB ((bs s).take (k + 1))) w') := Lib.hid (by rw [HQ.out, ← List.append_assoc, HL.out]; rw [HE.out] at hq; exact hq)
        have HGQ := Lib.hid (HGR.out.trans hg2)
        clear hq hg2
        go_wp2_with fail
        go_roundg (s.size + 1 - (k + 1))
        case measure => exact HMO.out
        case rel => exact ⟨k + 1, A', n', c', rfl, by omega, rfl, rfl, HQR.out, HGQ.out⟩
      by_cases h34 : b = 34
      · subst h34
        generalize hL : l ++ quoB ((bs s).take k) = L at *
        have HL := Lib.hid hL
        clear hL h92
        go_wp2_with (at_builtin; (refine wpList_bytes rfl (.tmp 24) (.tmp 28) rfl HBR.out [92, 34] (by decide) rfl rfl HLN.out ?_))
        intro A' n' c' l' w' HE hq hg2
        have HQR : Hid (BR W A' n' c' (l ++ quoB ((bs s).take (k + 1))) w') := Lib.hid (by rw [HQ.out, ← List.append_assoc, HL.out]; rw [HE.out] at hq; exact hq)
        have HGQ := Lib.hid (HGR.out.trans hg2)
        clear hq hg2
        go_wp2_with fail
        go_roundg (s.size + 1 - (k + 1))
        case measure => exact HMO.out
        case rel => exact ⟨k + 1, A', n', c', rfl, by omega, rfl, rfl, HQR.out, HGQ.out⟩
      by_cases h10 : b = 10
      · subst h10
        generalize hL : l ++ quoB ((bs s).take k) = L at *
        have HL := Lib.hid hL
        clear hL h92 h34
        go_wp2_with (at_builtin; (refine wpList_bytes rfl (.tmp 32) (.tmp 33) rfl HBR.out [92, 110] (by decide) rfl rfl HLN.out ?_))
        intro A' n' c' l' w' HE hq hg2
        have HQR : Hid (BR W A' n' c' (l ++ quoB ((bs s).take (k + 1))) w') := Lib.hid (by rw [HQ.out, ← List.append_assoc, HL.out]; rw [HE.out] at hq; exact hq)
        have HGQ := Lib.hid (HGR.out.trans hg2)
        clear hq hg2
        go_wp2_with fail
        go_roundg (s.size + 1 - (k + 1))
        case measure => exact HMO.out
        case rel => exact ⟨k + 1, A', n', c', rfl, by omega, rfl, rfl, HQR.out, HGQ.out⟩
      · have d1 : ((b.toNat : Int) == 92) = false := byte_ne h92
        have d2 : ((b.toNat : Int) == 34) = false := byte_ne h34
        have d3 : ((b.toNat : Int) == 10) = false := byte_ne h10
        have hq1 : quo1 b = [b] := by unfold quo1; rw [if_neg (by rintro (h | h); exact h92 h; exact h34 h), if_neg h10]
        rw [hq1] at HQ
        generalize hL : l ++ quoB ((bs s).take k) = L at *
        have HL := Lib.hid hL
        clear hL h92 h34 h10 hq1
        go_wp2_with (at_builtin; (refine wpList_bytes rfl (.tmp 15) (.tmp 19) rfl HBR.out [b] (by simp) rfl rfl (by have := HLN.out; simp; omega) ?_))
        intro A' n' c' l' w' HE hq hg2
        have HQR : Hid (BR W A' n' c' (l ++ quoB ((bs s).take (k + 1))) w') := Lib.hid (by rw [HQ.out, ← List.append_assoc, HL.out]; rw [HE.out] at hq; exact hq)
        have HGQ := Lib.hid (HGR.out.trans hg2)
        clear hq hg2
        go_wp2_with fail
        go_roundg (s.size + 1 - (k + 1))
        case measure => exact HMO.out
        case rel => exact ⟨k + 1, A', n', c', rfl, by omega, rfl, rfl, HQR.out, HGQ.out⟩
    · have HT := Lib.hid (take_end (Nat.le_of_not_lt hlt))
      rw [HT.out] at HBR
      go_wp2_with fail
      go_ret
      exact ⟨A1, n1, c1, _, rfl, Lib.hid rfl, HBR.out, HGR.out⟩
end Go.Proofs.YtoojpfcnekpboaaGreat

namespace Go.Proofs.YtoojpfcnekpboaaGreat
open Go.RowKit

theorem fmtMore_snoc (a : List Lab) (x : Lab) : fmtMore (a ++ [x]) = fmtMore a ++ (44 :: fmtX x) := by
  induction a with
  | nil => simp [fmtMore]
  | cons y r ih => simp [fmtMore, ih]
theorem fmtIn_snoc (a : List Lab) (x : Lab) : fmtIn (a ++ [x]) = fmtIn a ++ ((if a.length = 0 then [] else [44]) ++ fmtX x) := by
  cases a with
  | nil => simp [fmtIn, fmtMore]
  | cons y r => simp [fmtIn, fmtMore_snoc]
theorem fmtX_len {x : Lab} (h1 : x.name.size ≤ 10000) (h2 : x.value.size ≤ 10000) : (fmtX x).length ≤ 30003 := by
  have h3 := quoB_len (bs x.value)
  rw [bs_length] at h3
  unfold fmtX
  simp only [List.length_append, List.length_cons, List.length_nil, bs_length]
  omega
theorem fmtMore_len : ∀ (ls : List Lab), (∀ x ∈ ls, x.name.size ≤ 10000 ∧ x.value.size ≤ 10000) → (fmtMore ls).length ≤ 30004 * ls.length
  | [], _ => by simp [fmtMore]
  | x :: r, h => by
    have h1 := fmtX_len (h x (by simp)).1 (h x (by simp)).2
    have h2 := fmtMore_len r (fun y hy => h y (by simp [hy]))
    simp only [fmtMore, List.length_cons, List.length_append]
    omega
theorem fmtIn_len (ls : List Lab) (h : ∀ x ∈ ls, x.name.size ≤ 10000 ∧ x.value.size ≤ 10000) : (fmtIn ls).length ≤ 30004 * ls.length := by
  cases ls with
  | nil => simp [fmtIn]
  | cons x r =>
    have h1 := fmtX_len (h x (by simp)).1 (h x (by simp)).2
    have h2 := fmtMore_len r (fun y hy => h y (by simp [hy]))
    simp only [fmtIn, List.length_cons, List.length_append]
    omega
/-- What stands before the label k. -/
def fmtTo (ls : List Lab) (k : Nat) : List UInt8 := 123 :: fmtIn (ls.take k)
theorem fmtTo_step0 {ls : List Lab} (h : 0 < ls.length) : fmtTo ls 1 = ((fmtTo ls 0 ++ bs (ls[0]).name) ++ ([61, 34] : List UInt8) ++ quoB (bs (ls[0]).value)) ++ ([34] : List UInt8) := by
  unfold fmtTo
  rw [List.take_succ_eq_append_getElem h, fmtIn_snoc]
  simp [fmtX, fmtIn]
theorem fmtTo_step {ls : List Lab} {k : Nat} (h : k + 1 < ls.length) : fmtTo ls (k + 1 + 1) = (((fmtTo ls (k + 1) ++ ([44] : List UInt8)) ++ bs (ls[k + 1]).name) ++ ([61, 34] : List UInt8) ++ quoB (bs (ls[k + 1]).value)) ++ ([34] : List UInt8) := by
  unfold fmtTo
  rw [List.take_succ_eq_append_getElem h, fmtIn_snoc, if_neg (by rw [List.length_take]; omega)]
  simp [fmtX]
theorem fmtTo_end (ls : List Lab) : fmtTo ls ls.length ++ [125] = fmtL ls := by
  unfold fmtTo fmtL
  rw [List.take_length]
  simp
theorem fmtTo_len {ls : List Lab} (k : Nat) (h : ∀ x ∈ ls, x.name.size ≤ 10000 ∧ x.value.size ≤ 10000) (hl : ls.length ≤ 100) : (fmtTo ls k).length ≤ 4000000 := by
  have h1 := fmtIn_len (ls.take k) (fun x hx => h x (List.mem_of_mem_take hx))
  have h2 : (ls.take k).length ≤ ls.length := by rw [List.length_take]; omega
  unfold fmtTo
  rw [List.length_cons]
  have h3 : 30004 * (ls.take k).length ≤ 30004 * 100 := Nat.mul_le_mul_left _ (by omega)
  omega

/-- A block that is not the row's. -/
structure Box (w : World) (A : Option Addr) (B : Nat) (cs : Array Value) (t : TypeId) : Prop where
  at_ : At w B cs t
  ne : A.map (·.block) ≠ some B
theorem Box.gro {w w' : World} {A A' : Option Addr} {B : Nat} {cs : Array Value} {t : TypeId} (h : Box w A B cs t) (hg : Gro w w' A A') : Box w' A' B cs t := by
  refine ⟨hg.at_ h.at_ h.ne, ?_⟩
  have hlt := h.at_.lt
  rcases hg.own with e | ⟨g, e, hge⟩
  · rw [e]; exact h.ne
  · rw [e]
    intro e2
    injection e2 with e2
    omega
theorem Box.new {W w : World} {A : Option Addr} {n c : Nat} {l : List UInt8} (h : BR W A n c l w) (cs : Array Value) (t : TypeId) : Box (w.alloc (.cells cs t)) A w.heap.size cs t := by
  refine ⟨At.new w cs t, fun e => ?_⟩
  have := (h.lt w.heap.size e).2
  omega
theorem Box.alloc {w : World} {A : Option Addr} {B : Nat} {cs : Array Value} {t : TypeId} (h : Box w A B cs t) (o : Obj) : Box (w.alloc o) A B cs t := ⟨h.at_.alloc o, h.ne⟩

set_option maxRecDepth 100000 in
set_option maxHeartbeats 4000000 in
theorem formatL_any (A : Option Addr) (c : Nat) (ls : List Lab) (w : World) (hr : LabsIn w.heap.size w A ls) (hc : ls.length ≤ c) (hl : ls.length ≤ 100) (hsz : ∀ x ∈ ls, x.name.size ≤ 10000 ∧ x.value.size ≤ 10000) :
    Calls Tryz.prog 91 #[.slice A ls.length c] w fun e w' => e = .returned (.string (str (fmtL ls))) ∧ Below w.heap.size w w' := by
  have HC := Lib.hid hc
  have HRD := Lib.hid hr
  have HSZ := Lib.hid hsz
  have HB0 : Hid (BR w (some ⟨w.heap.size, 0, none⟩) 1 1 (fmtTo ls 0) (w.alloc (.cells #[.int .u8 123] 5 (1, 2)))) := Lib.hid (BR.const (Below.refl _ _) [123] (1, 2))
  have kc := fun (w : World) (C : Array Value) (n c : Nat) => Lib.run_convert_bytes_const (P := Tryz.prog) w 104 5 C n c Tryz.underlying104 Tryz.underlying5
  clear hc hr hsz
  go_enter Tryz.func91, Tryz.ntmps91
  go_wp2_with fail
  clear kc
  go_loopg [3, 10] (ls.length + 1) (fun g v i wr => ∃ (k : Nat) (A1 : Option Addr) (n1 c1 : Nat), g = ls.length + 1 - k ∧ k ≤ ls.length ∧ v = .slice A1 n1 c1 ∧ i = .int .i64 k ∧ BR w A1 n1 c1 (fmtTo ls k) wr)
  case atStart => exact ⟨0, _, 1, 1, rfl, Nat.zero_le _, rfl, rfl, HB0.out⟩
  case round =>
    obtain ⟨k, A1, n1, c1, hg, hk, rfl, rfl, hbr⟩ := hrel
    have HBR := Lib.hid hbr
    have HN := Lib.hid hbr.len
    have HFL := Lib.hid (fmtTo_len k HSZ.out hl)
    clear hbr HB0
    by_cases hlt : k < ls.length
    · have hR := HRD.out.below HBR.out.below
      obtain ⟨b, o, rfl, hb, c0, c1⟩ := hR.at_ k hlt
      have hsx := HSZ.out _ (List.getElem_mem hlt)
      have HX := Lib.hid (Box.new HBR.out #[.string (ls[k]).name, .string (ls[k]).value] 66)
      have HB1 := Lib.hid (HBR.out.alloc (.cells #[.string (ls[k]).name, .string (ls[k]).value] 66))
      have HSX := Lib.hid hsx
      have HMO : Hid (ls.length + 1 - (k + 1) < gk) := Lib.hid (by omega)
      clear hR hb hsx hg
      rcases k with _ | k
      · simp only [Nat.zero_mul, Nat.add_zero] at c0 c1
        have HST := Lib.hid (fmtTo_step0 hlt)
        generalize fmtTo ls 0 = T at *
        obtain ⟨x, hx⟩ : ∃ x, ls[0] = x := ⟨_, rfl⟩
        rw [hx] at c0 c1 HX HB1 HSX HST
        clear hx
        go_upto_region 7 with fail
        generalize hwa : wr.alloc (.cells #[.string x.name, .string x.value] 66) = wa at *
        have HWA := Lib.hid hwa
        clear hwa c0 c1
        have c0 : wa.cell? ⟨wr.heap.size, 0, none⟩ = some (.string x.name) := HX.out.at_.cell 0
        go_wp2_with (at_builtin; (refine wpList_bstr rfl (.tmp 20) (.tmp 22) rfl HB1.out x.name rfl rfl (by have := HN.out; have := HFL.out; have := HSX.out.1; omega) ?_))
        intro A2 n2 c2 l2 w2 HE2 hq2 hg2
        have HN2 : Hid (n2 ≤ 5000000) := Lib.hid (by have h1 := hq2.len; have h2 := HFL.out; have h3 := HSX.out.1; rw [HE2.out, List.length_append, bs_length] at h1; omega)
        have HB2 := Lib.hid hq2
        have HX2 := Lib.hid (HX.out.gro hg2)
        clear hq2 hg2 HB1 HX c0
        go_wp2_with (at_builtin; (refine wpList_bytes rfl (.tmp 24) (.tmp 25) rfl HB2.out [61, 34] (by decide) rfl rfl (by have := HN2.out; simp; omega) ?_))
        intro A3 n3 c3 l3 w3 HE3 hq3 hg3
        have HN3 : Hid (n3 ≤ 5000002) := Lib.hid (by have h1 := hq3.len; have h2 := HB2.out.len; have h3 := HN2.out; rw [HE3.out, List.length_append] at h1; simp at h1; omega)
        have HB3 := Lib.hid hq3
        have HX3 := Lib.hid (HX2.out.gro hg3)
        have c1 : w3.cell? ⟨wr.heap.size, 1, none⟩ = some (.string x.value) := HX3.out.at_.cell 1
        clear hq3 hg3 HB2 HX2
        go_wp2_with fail
        refine (appendQuoted_any w w3 A3 n3 c3 _ x.value HB3.out (by have := HB3.out.len; have := HN3.out; omega) (by have := HSX.out.2; omega)).mono ?_
        rintro e w4 ⟨A4, n4, c4, l4, rfl, HE4, hq4, _⟩
        have HN4 : Hid (n4 ≤ 5100000) := Lib.hid (by have h1 := hq4.len; have h2 := HB3.out.len; have h3 := HN3.out; have h4 := quoB_len (bs x.value); have h5 := HSX.out.2; rw [HE4.out, List.length_append] at h1; rw [bs_length] at h4; omega)
        have HB4 := Lib.hid hq4
        clear hq4 HB3 HX3 c1
        go_wp2_with (at_builtin; (refine wpList_bytes rfl (.tmp 31) (.tmp 32) rfl HB4.out [34] (by decide) rfl rfl (by have := HN4.out; simp; omega) ?_))
        intro A5 n5 c5 l5 w5 HE5 hq5 _
        have HB5 : Hid (BR w A5 n5 c5 (fmtTo ls 1) w5) := Lib.hid (by rw [HST.out, ← HE2.out, ← HE3.out, ← HE4.out, ← HE5.out]; exact hq5)
        clear hq5 HB4
        go_wp2_with fail
        go_roundg (ls.length + 1 - 1)
        case measure => exact HMO.out
        case rel => exact ⟨1, A5, n5, c5, rfl, hlt, rfl, by go_num, HB5.out⟩
      · have HST := Lib.hid (fmtTo_step hlt)
        have hk0 : (0 : Int) < ((k + 1 : Nat) : Int) := by omega
        generalize fmtTo ls (k + 1) = T at *
        obtain ⟨x, hx⟩ : ∃ x, ls[k + 1] = x := ⟨_, rfl⟩
        rw [hx] at c0 c1 HX HB1 HSX HST
        clear hx
        go_upto_region 6 with fail
        generalize hwa : wr.alloc (.cells #[.string x.name, .string x.value] 66) = wa at *
        have HWA := Lib.hid hwa
        clear hwa c0 c1
        go_wp2_with (at_builtin; (refine wpList_bytes rfl (.tmp 17) (.tmp 18) rfl HB1.out [44] (by decide) rfl rfl (by have := HN.out; have := HFL.out; simp; omega) ?_))
        intro A6 n6 c6 l6 w6 HE6 hq6 hg6
        have HN6 : Hid (n6 ≤ 4000001) := Lib.hid (by have h1 := hq6.len; have h2 := HFL.out; rw [HE6.out, List.length_append] at h1; simp at h1; omega)
        have HB6 := Lib.hid hq6
        have HX6 := Lib.hid (HX.out.gro hg6)
        have c0 : w6.cell? ⟨wr.heap.size, 0, none⟩ = some (.string x.name) := HX6.out.at_.cell 0
        clear hq6 hg6 HB1 HX
        go_wp2_with (at_builtin; (refine wpList_bstr rfl (.tmp 20) (.tmp 22) rfl HB6.out x.name rfl rfl (by have := HN6.out; have := HSX.out.1; omega) ?_))
        intro A2 n2 c2 l2 w2 HE2 hq2 hg2
        have HN2 : Hid (n2 ≤ 5000000) := Lib.hid (by have h1 := hq2.len; have h2 := HB6.out.len; have h4 := HN6.out; have h3 := HSX.out.1; rw [HE2.out, List.length_append, bs_length] at h1; omega)
        have HB2 := Lib.hid hq2
        have HX2 := Lib.hid (HX6.out.gro hg2)
        clear hq2 hg2 HB6 HX6 c0
        go_wp2_with (at_builtin; (refine wpList_bytes rfl (.tmp 24) (.tmp 25) rfl HB2.out [61, 34] (by decide) rfl rfl (by have := HN2.out; simp; omega) ?_))
        intro A3 n3 c3 l3 w3 HE3 hq3 hg3
        have HN3 : Hid (n3 ≤ 5000002) := Lib.hid (by have h1 := hq3.len; have h2 := HB2.out.len; have h3 := HN2.out; rw [HE3.out, List.length_append] at h1; simp at h1; omega)
        have HB3 := Lib.hid hq3
        have HX3 := Lib.hid (HX2.out.gro hg3)
        have c1 : w3.cell? ⟨wr.heap.size, 1, none⟩ = some (.string x.value) := HX3.out.at_.cell 1
        clear hq3 hg3 HB2 HX2
        go_wp2_with fail
        refine (appendQuoted_any w w3 A3 n3 c3 _ x.value HB3.out (by have := HB3.out.len; have := HN3.out; omega) (by have := HSX.out.2; omega)).mono ?_
        rintro e w4 ⟨A4, n4, c4, l4, rfl, HE4, hq4, _⟩
        have HN4 : Hid (n4 ≤ 5100000) := Lib.hid (by have h1 := hq4.len; have h2 := HB3.out.len; have h3 := HN3.out; have h4 := quoB_len (bs x.value); have h5 := HSX.out.2; rw [HE4.out, List.length_append] at h1; rw [bs_length] at h4; omega)
        have HB4 := Lib.hid hq4
        clear hq4 HB3 HX3 c1
        go_wp2_with (at_builtin; (refine wpList_bytes rfl (.tmp 31) (.tmp 32) rfl HB4.out [34] (by decide) rfl rfl (by have := HN4.out; simp; omega) ?_))
        intro A5 n5 c5 l5 w5 HE5 hq5 _
        have HB5 : Hid (BR w A5 n5 c5 (fmtTo ls (k + 1 + 1)) w5) := Lib.hid (by rw [HST.out, ← HE6.out, ← HE2.out, ← HE3.out, ← HE4.out, ← HE5.out]; exact hq5)
        clear hq5 HB4
        go_wp2_with fail
        go_roundg (ls.length + 1 - (k + 1 + 1))
        case measure => exact HMO.out
        case rel => exact ⟨k + 1 + 1, A5, n5, c5, rfl, by omega, rfl, by go_num, HB5.out⟩
    · obtain rfl : k = ls.length := by omega
      clear hlt hk hg
      go_wp2_with (at_builtin; (refine wpList_bytes rfl (.tmp 35) (.tmp 36) rfl HBR.out [125] (by decide) rfl rfl (by have := HN.out; have := HFL.out; simp; omega) ?_))
      intro A5 n5 c5 l5 w5 HE5 hq5 _
      rw [HE5.out, fmtTo_end] at hq5
      have HB5 := Lib.hid hq5
      have kc := HB5.out.str
      clear hq5
      go_wp2_with fail
      go_ret
      exact ⟨rfl, HB5.out.below⟩
end Go.Proofs.YtoojpfcnekpboaaGreat
