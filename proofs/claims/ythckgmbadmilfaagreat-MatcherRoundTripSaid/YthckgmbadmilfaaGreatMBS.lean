/- Walks: the text of matchers (the program's Format). Walks: a quoted value that is read (the program's). Walks: a sign that is skipped, a label that is read (the program's closures of parse). -/
import Derived.Test.YthckgmbadmilfaaGreatMBG
import Derived.Test.YthckgmbadmilfaaGreatMBQ
import Derived.Test.YthckgmbadmilfaaGreatMBR
import Derived.Laws.EntriesVeiled
namespace Go.Proofs.YthckgmbadmilfaaGreat
open Go.RowKit

set_option maxHeartbeats 2000000 in
theorem quotedM_any (W w : World) (A : Option Addr) (n c : Nat) (l : List UInt8) (s : ByteArray) (hr : BR W A n c l w) (hl : l.length ≤ 100000000) (hs : s.size ≤ 100000000) :
    Calls Tryz.prog 39 #[.slice A n c, .string s] w fun e w' => ∃ A' n' c' l', e = .returned (.slice A' n' c') ∧ Hid (l' = l ++ quoB (bs s)) ∧ BR W A' n' c' l' w' ∧ Gro w w' A A' := by
  have HS0 : Hid (BR W A n c (l ++ quoB ((bs s).take 0)) w) := Lib.hid (by simpa [quoB] using hr)
  have HSL := Lib.hid hs
  have HLL := Lib.hid hl
  clear hr hs hl
  go_enter Tryz.func39, Tryz.ntmps39
  go_wp2_with fail
  go_loopg [0, 5] (s.size + 1) (fun g v i wr => ∃ (k : Nat) (A1 : Option Addr) (n1 c1 : Nat), g = s.size + 1 - k ∧ k ≤ s.size ∧ v = .slice A1 n1 c1 ∧ i = .int .i64 k ∧ BR W A1 n1 c1 (l ++ quoB ((bs s).take k)) wr ∧ Gro w wr A A1)
  case atStart => exact ⟨0, A, n, c, rfl, Nat.zero_le _, rfl, rfl, HS0.out, Gro.refl _ _⟩
  case round =>
    obtain ⟨k, A1, n1, c1, hg, hk, rfl, rfl, hbr, hgr⟩ := hrel
    have HBR := Lib.hid hbr
    have HGR := Lib.hid hgr
    have hkl : (k : Int) ≤ 100000000 := by have := HSL.out; omega
    clear hbr hgr HS0
    by_cases hlt : k < s.size
    · have HQ := Lib.hid (quo_step hlt)
      have HLN : Hid (n1 + 2 ≤ 1000000000000) := Lib.hid (by
        have h0 := HBR.out.len
        have h1 := quo_take_len s k
        have h2 := HSL.out
        have h3 := HLL.out
        rw [List.length_append] at h0
        omega)
      have HMO : Hid (s.size + 1 - (k + 1) < gk) := Lib.hid (by omega)
      clear hg
      obtain ⟨b, hb⟩ : ∃ b, s[k] = b := ⟨_, rfl⟩
      rw [hb] at HQ
      by_cases h92 : b = 92
      · subst h92
        generalize hL : l ++ quoB ((bs s).take k) = L at *
        have HL := Lib.hid hL
        clear hL
        go_wp2_with (at_builtin; (refine wpList_bytes rfl (.tmp 24) (.tmp 28) rfl HBR.out [92, 92] (by decide) rfl rfl HLN.out ?_))
        intro A' n' c' l' w' HE hq hg2
        have HQR : Hid (BR W A' n' c' (l ++ quoB ((bs s).take (k + 1))) w') := Lib.hid (by rw [HQ.out, ← List.append_assoc, HL.out]; rw [HE.out] at hq; exact hq)
        have HGQ := Lib.hid (HGR.out.trans hg2)
        clear hq hg2
        go_wp2_with fail
        go_roundg (s.size + 1 - (k + 1))
        case measure => exact HMO.out
        case rel => exact ⟨k + 1, A', n', c', rfl, by omega, rfl, rfl, HQR.out, HGQ.out⟩
      by_cases h34 : b = 34
      · subst h34
        generalize hL : l ++ quoB ((bs s).take k) = L at *
        have HL := Lib.hid hL
        clear hL h92
        go_wp2_with (at_builtin; (refine wpList_bytes rfl (.tmp 24) (.tmp 28) rfl HBR.out [92, 34] (by decide) rfl rfl HLN.out ?_))
        intro A' n' c' l' w' HE hq hg2
        have HQR : Hid (BR W A' n' c' (l ++ quoB ((bs s).take (k + 1))) w') := Lib.hid (by rw [HQ.out, ← List.append_assoc, HL.out]; rw [HE.out] at hq; exact hq)
        have HGQ := Lib.hid (HGR.out.trans hg2)
        clear hq hg2
        go_wp2_with fail
        go_roundg (s.size + 1 - (k + 1))
        case measure => exact HMO.out
        case rel => exact ⟨k + 1, A', n', c', rfl, by omega, rfl, rfl, HQR.out, HGQ.out⟩
      by_cases h10 : b = 10
      · subst h10
        generalize hL : l ++ quoB ((bs s).take k) = L at *
        have HL := Lib.hid hL
        clear hL h92 h34
        go_wp2_with (at_builtin; (refine wpList_bytes rfl (.tmp 32) (.tmp 33) rfl HBR.out [92, 110] (by decide) rfl rfl HLN.out ?_))
        intro A' n' c' l' w' HE hq hg2
        have HQR : Hid (BR W A' n' c' (l ++ quoB ((bs s).take (k + 1))) w') := Lib.hid (by rw [HQ.out, ← List.append_assoc, HL.out]; rw [HE.out] at hq; exact hq)
        have HGQ := Lib.hid (HGR.out.trans hg2)
        clear hq hg2
        go_wp2_with fail
        go_roundg (s.size + 1 - (k + 1))
        case measure => exact HMO.out
        case rel => exact ⟨k + 1, A', n', c', rfl, by omega, rfl, rfl, HQR.out, HGQ.out⟩
      · have d1 : ((b.toNat : Int) == 92) = false := byte_ne h92
        have d2 : ((b.toNat : Int) == 34) = false := byte_ne h34
        have d3 : ((b.toNat : Int) == 10) = false := byte_ne h10
        have hq1 : quo1 b = [b] := by unfold quo1; rw [if_neg (by rintro (h | h); exact h92 h; exact h34 h), if_neg h10]
        rw [hq1] at HQ
        generalize hL : l ++ quoB ((bs s).take k) = L at *
        have HL := Lib.hid hL
        clear hL h92 h34 h10 hq1
        go_wp2_with (at_builtin; (refine wpList_bytes rfl (.tmp 15) (.tmp 19) rfl HBR.out [b] (by simp) rfl rfl (by have := HLN.out; simp; omega) ?_))
        intro A' n' c' l' w' HE hq hg2
        have HQR : Hid (BR W A' n' c' (l ++ quoB ((bs s).take (k + 1))) w') := Lib.hid (by rw [HQ.out, ← List.append_assoc, HL.out]; rw [HE.out] at hq; exact hq)
        have HGQ := Lib.hid (HGR.out.trans hg2)
        clear hq hg2
        go_wp2_with fail
        go_roundg (s.size + 1 - (k + 1))
        case measure => exact HMO.out
        case rel => exact ⟨k + 1, A', n', c', rfl, by omega, rfl, rfl, HQR.out, HGQ.out⟩
    · have HT := Lib.hid (take_end (Nat.le_of_not_lt hlt))
      rw [HT.out] at HBR
      go_wp2_with fail
      go_ret
      exact ⟨A1, n1, c1, _, rfl, Lib.hid rfl, HBR.out, HGR.out⟩

theorem opK_len (k : Int) : (opK k).length ≤ 2 := by
  unfold opK
  split
  · simp
  · split
    · simp
    · split <;> simp
theorem opK_size (k : Int) : (str (opK k)).size ≤ 2 := by
  have := opK_len k
  rw [← bs_length, bs_str]
  exact this
set_option maxHeartbeats 1000000 in
theorem opK_any (k : Int) (w : World) (h1 : 1 ≤ k) (h4 : k ≤ 4) : Calls Tryz.prog 38 #[.int .i64 k] w fun e w' => e = .returned (.string (str (opK k))) ∧ w' = w := by
  have : k = 1 ∨ k = 2 ∨ k = 3 ∨ k = 4 := by omega
  rcases this with rfl | rfl | rfl | rfl
  all_goals
    go_enter Tryz.func38, Tryz.ntmps38
    go_wp2_with fail
    go_ret
    exact ⟨rfl, rfl⟩
theorem fmtMmore_snoc (a : List Mt) (x : Mt) : fmtMmore (a ++ [x]) = fmtMmore a ++ (44 :: fmtM x) := by
  induction a with
  | nil => simp [fmtMmore]
  | cons y r ih => simp [fmtMmore, ih]
theorem fmtMin_snoc (a : List Mt) (x : Mt) : fmtMin (a ++ [x]) = fmtMin a ++ ((if a.length = 0 then [] else [44]) ++ fmtM x) := by
  cases a with
  | nil => simp [fmtMin, fmtMmore]
  | cons y r => simp [fmtMin, fmtMmore_snoc]
theorem fmtM_len {x : Mt} (h1 : x.name.size ≤ 10000) (h2 : x.value.size ≤ 10000) : (fmtM x).length ≤ 30004 := by
  have h3 := quoB_len (bs x.value)
  have h4 := opK_len x.kind
  rw [bs_length] at h3
  unfold fmtM
  simp only [List.length_append, List.length_cons, List.length_nil, bs_length]
  omega
theorem fmtMmore_len2 : ∀ (ls : List Mt), (∀ x ∈ ls, x.name.size ≤ 10000 ∧ x.value.size ≤ 10000) → (fmtMmore ls).length ≤ 30005 * ls.length
  | [], _ => by simp [fmtMmore]
  | x :: r, h => by
    have h1 := fmtM_len (h x (by simp)).1 (h x (by simp)).2
    have h2 := fmtMmore_len2 r (fun y hy => h y (by simp [hy]))
    simp only [fmtMmore, List.length_cons, List.length_append]
    omega
theorem fmtMin_len (ls : List Mt) (h : ∀ x ∈ ls, x.name.size ≤ 10000 ∧ x.value.size ≤ 10000) : (fmtMin ls).length ≤ 30005 * ls.length := by
  cases ls with
  | nil => simp [fmtMin]
  | cons x r =>
    have h1 := fmtM_len (h x (by simp)).1 (h x (by simp)).2
    have h2 := fmtMmore_len2 r (fun y hy => h y (by simp [hy]))
    simp only [fmtMin, List.length_cons, List.length_append]
    omega
/-- What stands before the matcher k. -/
def fmtMto (ms : List Mt) (k : Nat) : List UInt8 := 123 :: fmtMin (ms.take k)
theorem fmtMto_step0 {ms : List Mt} (h : 0 < ms.length) : fmtMto ms 1 = ((((fmtMto ms 0 ++ bs (ms[0]).name) ++ opK (ms[0]).kind) ++ ([34] : List UInt8)) ++ quoB (bs (ms[0]).value)) ++ ([34] : List UInt8) := by
  unfold fmtMto
  rw [List.take_succ_eq_append_getElem h, fmtMin_snoc]
  simp [fmtM, fmtMin]
theorem fmtMto_step {ms : List Mt} {k : Nat} (h : k + 1 < ms.length) : fmtMto ms (k + 1 + 1) = (((((fmtMto ms (k + 1) ++ ([44] : List UInt8)) ++ bs (ms[k + 1]).name) ++ opK (ms[k + 1]).kind) ++ ([34] : List UInt8)) ++ quoB (bs (ms[k + 1]).value)) ++ ([34] : List UInt8) := by
  unfold fmtMto
  rw [List.take_succ_eq_append_getElem h, fmtMin_snoc, if_neg (by rw [List.length_take]; omega)]
  simp [fmtM]
theorem fmtMto_end {ms : List Mt} (h : chkMs ms = 0) : fmtMto ms ms.length ++ [125] = fmtMs ms := by
  unfold fmtMto fmtMs
  rw [if_pos h, List.take_length]
  simp
theorem fmtMto_len {ms : List Mt} (k : Nat) (h : ∀ x ∈ ms, x.name.size ≤ 10000 ∧ x.value.size ≤ 10000) (hl : ms.length ≤ 100) : (fmtMto ms k).length ≤ 4000000 := by
  have h1 := fmtMin_len (ms.take k) (fun x hx => h x (List.mem_of_mem_take hx))
  have h2 : (ms.take k).length ≤ ms.length := by rw [List.length_take]; omega
  unfold fmtMto
  rw [List.length_cons]
  have h3 : 30005 * (ms.take k).length ≤ 30005 * 100 := Nat.mul_le_mul_left _ (by omega)
  omega
theorem chkM_kind {m : Mt} (h : chkM m = 0) : 1 ≤ m.kind ∧ m.kind ≤ 4 := by
  unfold chkM at h
  split at h <;> omega
set_option maxRecDepth 100000 in
set_option maxHeartbeats 4000000 in
theorem formatM_any (A : Option Addr) (c : Nat) (ms : List Mt) (w : World) (hr : MtsIn w.heap.size w A ms) :
    Calls Tryz.prog 16 #[.slice A ms.length c] w fun e w' => e = .returned (.string (str (fmtMs ms))) ∧ Below w.heap.size w w' := by
  have HCH := Lib.hid (mcheck_any A c ms w hr)
  by_cases hck : chkMs ms = 0
  · obtain ⟨hl, hall⟩ := chkMs_iff.1 hck
    have HSZ : Hid (∀ x ∈ ms, x.name.size ≤ 10000 ∧ x.value.size ≤ 10000 ∧ 1 ≤ x.kind ∧ x.kind ≤ 4) := Lib.hid (fun x hx => by
      have h1 := szM_of (hall x hx)
      have h2 := chkM_kind (hall x hx)
      exact ⟨by omega, by omega, h2.1, h2.2⟩)
    have HRD := Lib.hid hr
    have HCK := Lib.hid hck
    rw [hck] at HCH
    have kc := fun (w : World) (C : Array Value) (n c : Nat) => Lib.run_convert_bytes_const (P := Tryz.prog) w 57 5 C n c Tryz.underlying57 Tryz.underlying5
    clear hr hck hall
    go_enter Tryz.func16, Tryz.ntmps16
    go_wp2_with fail
    refine HCH.out.mono ?_
    rintro e w0 ⟨rfl, hb0⟩
    have HBW := Lib.hid hb0
    have HB0 : Hid (BR w (some ⟨w0.heap.size, 0, none⟩) 1 1 (fmtMto ms 0) (w0.alloc (.cells #[.int .u8 123] 5 (1, 2)))) := Lib.hid (BR.const hb0 [123] (1, 2))
    clear hb0 HCH
    go_wp2_with fail
    clear kc
    go_loopg [3, 13] (ms.length + 1) (fun g v i wr => ∃ (k : Nat) (A1 : Option Addr) (n1 c1 : Nat), g = ms.length + 1 - k ∧ k ≤ ms.length ∧ v = .slice A1 n1 c1 ∧ i = .int .i64 k ∧ BR w A1 n1 c1 (fmtMto ms k) wr)
    case atStart => exact ⟨0, _, 1, 1, rfl, Nat.zero_le _, rfl, rfl, HB0.out⟩
    case round =>
      obtain ⟨k, A1, n1, c1, hg, hk, rfl, rfl, hbr⟩ := hrel
      have HBR := Lib.hid hbr
      have HN := Lib.hid hbr.len
      have HFL := Lib.hid (fmtMto_len (ms := ms) k (fun x hx => ⟨(HSZ.out x hx).1, (HSZ.out x hx).2.1⟩) (by omega))
      clear hbr HB0
      by_cases hlt : k < ms.length
      · have hR := HRD.out.below HBR.out.below
        obtain ⟨b, o, rfl, hb, c0, cc1, c2⟩ := hR.at_ k hlt
        have hsx := HSZ.out _ (List.getElem_mem hlt)
        have HX := Lib.hid (Box.new HBR.out #[.int .i64 (ms[k]).kind, .string (ms[k]).name, .string (ms[k]).value] 39)
        have HB1 := Lib.hid (HBR.out.alloc (.cells #[.int .i64 (ms[k]).kind, .string (ms[k]).name, .string (ms[k]).value] 39))
        have HSX := Lib.hid hsx
        have HMO : Hid (ms.length + 1 - (k + 1) < gk) := Lib.hid (by omega)
        clear hR hb hsx hg
        rcases k with _ | k
        · simp only [Nat.zero_mul, Nat.add_zero] at c0 cc1 c2
          have HST := Lib.hid (fmtMto_step0 hlt)
          generalize fmtMto ms 0 = T at *
          obtain ⟨x, hx⟩ : ∃ x, ms[0] = x := ⟨_, rfl⟩
          rw [hx] at c0 cc1 c2 HX HB1 HSX HST
          clear hx
          go_upto_region 9 with fail
          generalize hwa : wr.alloc (.cells #[.int .i64 x.kind, .string x.name, .string x.value] 39) = wa at *
          have HWA := Lib.hid hwa
          clear hwa c0 cc1 c2
          have HN6 : Hid (n1 ≤ 4000001) := Lib.hid (by have := HN.out; have := HFL.out; omega)
          have d1 : wa.cell? ⟨wr.heap.size, 1, none⟩ = some (.string x.name) := HX.out.at_.cell 1
          go_wp2_with (at_builtin; (refine wpList_bstr rfl (.tmp 23) (.tmp 25) rfl HB1.out x.name rfl rfl (by have := HN6.out; have := HSX.out.1; omega) ?_))
          intro A2 n2 c2 l2 w2 HE2 hq2 hg2
          have HN2 : Hid (n2 ≤ 4100000) := Lib.hid (by have h1 := hq2.len; have h2 := HB1.out.len; have h4 := HN6.out; have h3 := HSX.out.1; rw [HE2.out, List.length_append, bs_length] at h1; omega)
          have HB2 := Lib.hid hq2
          have HX2 := Lib.hid (HX.out.gro hg2)
          have d0 : w2.cell? ⟨wr.heap.size, 0, none⟩ = some (.int .i64 x.kind) := HX2.out.at_.cell 0
          clear hq2 hg2 HB1 HX d1
          go_wp2_with fail
          refine (opK_any x.kind w2 HSX.out.2.2.1 HSX.out.2.2.2).mono ?_
          rintro e w2' ⟨rfl, rfl⟩
          go_wp2_with (at_builtin; (refine wpList_bstr rfl (.tmp 27) (.tmp 30) rfl HB2.out (str (opK x.kind)) rfl rfl (by have := HN2.out; have := opK_size x.kind; omega) ?_))
          intro A7 n7 c7 l7 w7 HE7 hq7 hg7
          have HN7 : Hid (n7 ≤ 4100010) := Lib.hid (by have h1 := hq7.len; have h2 := HB2.out.len; have h4 := HN2.out; have h3 := opK_len x.kind; rw [HE7.out, List.length_append, bs_str] at h1; omega)
          have HB7 := Lib.hid hq7
          have HX7 := Lib.hid (HX2.out.gro hg7)
          clear hq7 hg7 HB2 HX2 d0
          go_wp2_with (at_builtin; (refine wpList_bytes rfl (.tmp 32) (.tmp 33) rfl HB7.out [34] (by decide) rfl rfl (by have := HN7.out; simp; omega) ?_))
          intro A3 n3 c3 l3 w3 HE3 hq3 hg3
          have HN3 : Hid (n3 ≤ 4100020) := Lib.hid (by have h1 := hq3.len; have h2 := HB7.out.len; have h3 := HN7.out; rw [HE3.out, List.length_append] at h1; simp at h1; omega)
          have HB3 := Lib.hid hq3
          have HX3 := Lib.hid (HX7.out.gro hg3)
          have d2 : w3.cell? ⟨wr.heap.size, 2, none⟩ = some (.string x.value) := HX3.out.at_.cell 2
          clear hq3 hg3 HB7 HX7
          go_wp2_with fail
          refine (quotedM_any w w3 A3 n3 c3 _ x.value HB3.out (by have := HB3.out.len; have := HN3.out; omega) (by have := HSX.out.2.1; omega)).mono ?_
          rintro e w4 ⟨A4, n4, c4, l4, rfl, HE4, hq4, _⟩
          have HN4 : Hid (n4 ≤ 5100000) := Lib.hid (by have h1 := hq4.len; have h2 := HB3.out.len; have h3 := HN3.out; have h4 := quoB_len (bs x.value); have h5 := HSX.out.2.1; rw [HE4.out, List.length_append] at h1; rw [bs_length] at h4; omega)
          have HB4 := Lib.hid hq4
          clear hq4 HB3 HX3 d2
          go_wp2_with (at_builtin; (refine wpList_bytes rfl (.tmp 39) (.tmp 40) rfl HB4.out [34] (by decide) rfl rfl (by have := HN4.out; simp; omega) ?_))
          intro A5 n5 c5 l5 w5 HE5 hq5 _
          have HB5 : Hid (BR w A5 n5 c5 (fmtMto ms 1) w5) := Lib.hid (by rw [HST.out, ← HE2.out, ← bs_str (opK x.kind), ← HE7.out, ← HE3.out, ← HE4.out, ← HE5.out]; exact hq5)
          clear hq5 HB4
          go_wp2_with fail
          go_roundg (ms.length + 1 - 1)
          case measure => exact HMO.out
          case rel => exact ⟨1, A5, n5, c5, rfl, hlt, rfl, by go_num, HB5.out⟩
        · have hdum : True := trivial
          clear hdum
          have HST := Lib.hid (fmtMto_step hlt)
          have hk0 : (0 : Int) < ((k + 1 : Nat) : Int) := by omega
          generalize fmtMto ms (k + 1) = T at *
          obtain ⟨x, hx⟩ : ∃ x, ms[k + 1] = x := ⟨_, rfl⟩
          rw [hx] at c0 cc1 c2 HX HB1 HSX HST
          clear hx
          go_upto_region 8 with fail
          generalize hwa : wr.alloc (.cells #[.int .i64 x.kind, .string x.name, .string x.value] 39) = wa at *
          have HWA := Lib.hid hwa
          clear hwa c0 cc1 c2
          go_wp2_with (at_builtin; (refine wpList_bytes rfl (.tmp 20) (.tmp 21) rfl HB1.out [44] (by decide) rfl rfl (by have := HN.out; have := HFL.out; simp; omega) ?_))
          intro A6 n6 c6 l6 w6 HE6 hq6 hg6
          have HN6 : Hid (n6 ≤ 4000001) := Lib.hid (by have h1 := hq6.len; have h2 := HFL.out; rw [HE6.out, List.length_append] at h1; simp at h1; omega)
          have HB6 := Lib.hid hq6
          have HX6 := Lib.hid (HX.out.gro hg6)
          have d1 : w6.cell? ⟨wr.heap.size, 1, none⟩ = some (.string x.name) := HX6.out.at_.cell 1
          clear hq6 hg6 HB1 HX
          go_wp2_with (at_builtin; (refine wpList_bstr rfl (.tmp 23) (.tmp 25) rfl HB6.out x.name rfl rfl (by have := HN6.out; have := HSX.out.1; omega) ?_))
          intro A2 n2 c2 l2 w2 HE2 hq2 hg2
          have HN2 : Hid (n2 ≤ 4100000) := Lib.hid (by have h1 := hq2.len; have h2 := HB6.out.len; have h4 := HN6.out; have h3 := HSX.out.1; rw [HE2.out, List.length_append, bs_length] at h1; omega)
          have HB2 := Lib.hid hq2
          have HX2 := Lib.hid (HX6.out.gro hg2)
          have d0 : w2.cell? ⟨wr.heap.size, 0, none⟩ = some (.int .i64 x.kind) := HX2.out.at_.cell 0
          clear hq2 hg2 HB6 HX6 d1
          go_wp2_with fail
          refine (opK_any x.kind w2 HSX.out.2.2.1 HSX.out.2.2.2).mono ?_
          rintro e w2' ⟨rfl, rfl⟩
          go_wp2_with (at_builtin; (refine wpList_bstr rfl (.tmp 27) (.tmp 30) rfl HB2.out (str (opK x.kind)) rfl rfl (by have := HN2.out; have := opK_size x.kind; omega) ?_))
          intro A7 n7 c7 l7 w7 HE7 hq7 hg7
          have HN7 : Hid (n7 ≤ 4100010) := Lib.hid (by have h1 := hq7.len; have h2 := HB2.out.len; have h4 := HN2.out; have h3 := opK_len x.kind; rw [HE7.out, List.length_append, bs_str] at h1; omega)
          have HB7 := Lib.hid hq7
          have HX7 := Lib.hid (HX2.out.gro hg7)
          clear hq7 hg7 HB2 HX2 d0
          go_wp2_with (at_builtin; (refine wpList_bytes rfl (.tmp 32) (.tmp 33) rfl HB7.out [34] (by decide) rfl rfl (by have := HN7.out; simp; omega) ?_))
          intro A3 n3 c3 l3 w3 HE3 hq3 hg3
          have HN3 : Hid (n3 ≤ 4100020) := Lib.hid (by have h1 := hq3.len; have h2 := HB7.out.len; have h3 := HN7.out; rw [HE3.out, List.length_append] at h1; simp at h1; omega)
          have HB3 := Lib.hid hq3
          have HX3 := Lib.hid (HX7.out.gro hg3)
          have d2 : w3.cell? ⟨wr.heap.size, 2, none⟩ = some (.string x.value) := HX3.out.at_.cell 2
          clear hq3 hg3 HB7 HX7
          go_wp2_with fail
          refine (quotedM_any w w3 A3 n3 c3 _ x.value HB3.out (by have := HB3.out.len; have := HN3.out; omega) (by have := HSX.out.2.1; omega)).mono ?_
          rintro e w4 ⟨A4, n4, c4, l4, rfl, HE4, hq4, _⟩
          have HN4 : Hid (n4 ≤ 5100000) := Lib.hid (by have h1 := hq4.len; have h2 := HB3.out.len; have h3 := HN3.out; have h4 := quoB_len (bs x.value); have h5 := HSX.out.2.1; rw [HE4.out, List.length_append] at h1; rw [bs_length] at h4; omega)
          have HB4 := Lib.hid hq4
          clear hq4 HB3 HX3 d2
          go_wp2_with (at_builtin; (refine wpList_bytes rfl (.tmp 39) (.tmp 40) rfl HB4.out [34] (by decide) rfl rfl (by have := HN4.out; simp; omega) ?_))
          intro A5 n5 c5 l5 w5 HE5 hq5 _
          have HB5 : Hid (BR w A5 n5 c5 (fmtMto ms (k + 1 + 1)) w5) := Lib.hid (by rw [HST.out, ← HE6.out, ← HE2.out, ← bs_str (opK x.kind), ← HE7.out, ← HE3.out, ← HE4.out, ← HE5.out]; exact hq5)
          clear hq5 HB4
          go_wp2_with fail
          go_roundg (ms.length + 1 - (k + 1 + 1))
          case measure => exact HMO.out
          case rel => exact ⟨k + 1 + 1, A5, n5, c5, rfl, by omega, rfl, by go_num, HB5.out⟩
      · obtain rfl : k = ms.length := by omega
        clear hlt hk hg
        go_wp2_with (at_builtin; (refine wpList_bytes rfl (.tmp 43) (.tmp 44) rfl HBR.out [125] (by decide) rfl rfl (by have := HN.out; have := HFL.out; simp; omega) ?_))
        intro A5 n5 c5 l5 w5 HE5 hq5 _
        rw [HE5.out, fmtMto_end HCK.out] at hq5
        have HB5 := Lib.hid hq5
        have kc := HB5.out.str
        clear hq5
        go_wp2_with fail
        go_ret
        exact ⟨rfl, HB5.out.below⟩
  · have HR : Hid (fmtMs ms = []) := Lib.hid (by unfold fmtMs; rw [if_neg hck])
    obtain ⟨r, hr2⟩ : ∃ r, chkMs ms = r := ⟨_, rfl⟩
    rw [hr2] at HCH hck
    clear hr2
    have hc2 : (r != (0 : Int)) = true := by simp [hck]
    go_enter Tryz.func16, Tryz.ntmps16
    go_wp2_with fail
    refine HCH.out.mono ?_
    rintro e w1 ⟨rfl, hb1⟩
    go_wp2_with fail
    go_ret
    refine ⟨?_, hb1⟩
    rw [HR.out]
    rfl
end Go.Proofs.YthckgmbadmilfaaGreat

namespace Go.Proofs.YthckgmbadmilfaaGreat
open Go.RowKit

def unescV (c : UInt8) : Value := match unescB c with
  | none => .tuple #[.int .u8 0, .bool false]
  | some d => .tuple #[.int .u8 d.toNat, .bool true]
/-- What 'unquoted' answers. -/
def unqV (s : ByteArray) : Value := match unqL (bs s) with
  | none => .tuple #[.string ⟨#[]⟩, .int .i64 0, .bool false]
  | some p => .tuple #[.string (str p.1), .int .i64 p.2, .bool true]
/-- Where the reader stands: what it has, what is left. -/
def UQ (s : ByteArray) (acc : List UInt8) (k : Nat) : Prop := unqL (bs s) = (unqL ((bs s).drop k)).map fun p => (acc ++ p.1, k + p.2)
theorem UQ.start (s : ByteArray) : UQ s [] 0 := by
  unfold UQ
  rw [List.drop_zero]
  cases unqL (bs s) <;> simp
theorem UQ.end_ {s : ByteArray} {acc : List UInt8} {k : Nat} (h : UQ s acc k) (hk : s.size ≤ k) : unqV s = .tuple #[.string ⟨#[]⟩, .int .i64 0, .bool false] := by
  unfold UQ at h
  rw [drop_end hk] at h
  unfold unqV
  rw [h]
  rfl
theorem UQ.line {s : ByteArray} {acc : List UInt8} {k : Nat} (h : UQ s acc k) (hk : k < s.size) (hb : s[k] = 10) : unqV s = .tuple #[.string ⟨#[]⟩, .int .i64 0, .bool false] := by
  unfold UQ at h
  rw [drop_byte hk, hb, unqL_line] at h
  unfold unqV
  rw [h]
  rfl
theorem UQ.quote {s : ByteArray} {acc : List UInt8} {k : Nat} (h : UQ s acc k) (hk : k < s.size) (hb : s[k] = 34) : unqV s = .tuple #[.string (str acc), .int .i64 ((k : Int) + 1), .bool true] := by
  unfold UQ at h
  rw [drop_byte hk, hb, unqL_quote] at h
  unfold unqV
  rw [h]
  simp
theorem UQ.back_end {s : ByteArray} {acc : List UInt8} {k : Nat} (h : UQ s acc k) (hk : k < s.size) (hb : s[k] = 92) (he : s.size ≤ k + 1) : unqV s = .tuple #[.string ⟨#[]⟩, .int .i64 0, .bool false] := by
  unfold UQ at h
  rw [drop_byte hk, hb, drop_end he, unqL_back_end] at h
  unfold unqV
  rw [h]
  rfl
theorem UQ.back_no {s : ByteArray} {acc : List UInt8} {k : Nat} (h : UQ s acc k) (hk : k < s.size) (hb : s[k] = 92) (he : k + 1 < s.size) (hu : unescB s[k + 1] = none) : unqV s = .tuple #[.string ⟨#[]⟩, .int .i64 0, .bool false] := by
  unfold UQ at h
  rw [drop_byte hk, hb, drop_byte he, unqL_back, hu] at h
  unfold unqV
  rw [h]
  rfl
theorem UQ.back {s : ByteArray} {acc : List UInt8} {k : Nat} (h : UQ s acc k) (hk : k < s.size) (hb : s[k] = 92) (he : k + 1 < s.size) {d : UInt8} (hu : unescB s[k + 1] = some d) : UQ s (acc ++ [d]) (k + 1 + 1) := by
  unfold UQ at h ⊢
  rw [h, drop_byte hk, hb, drop_byte he, unqL_back, hu]
  cases unqL ((bs s).drop (k + 1 + 1)) <;> simp
  omega
theorem UQ.other {s : ByteArray} {acc : List UInt8} {k : Nat} (h : UQ s acc k) (hk : k < s.size) (h1 : s[k] ≠ 34) (h2 : s[k] ≠ 10) (h3 : s[k] ≠ 92) : UQ s (acc ++ [s[k]]) (k + 1) := by
  unfold UQ at h ⊢
  rw [h, drop_byte hk, unqL_other _ _ h1 h2 h3]
  cases unqL ((bs s).drop (k + 1)) <;> simp
  omega

end Go.Proofs.YthckgmbadmilfaaGreat

namespace Go.Proofs.YthckgmbadmilfaaGreat
open Go.RowKit

theorem bs_ext (s : ByteArray) (i k : Nat) : bs (s.extract i k) = ((bs s).drop i).take (k - i) := by
  unfold bs
  rw [ByteArray.data_extract, Array.toList_extract, List.extract_eq_take_drop]
/-- The sign stands there. -/
def skB (s sign : ByteArray) (k : Nat) : Bool := decide (((bs s).drop k).take sign.size = bs sign)
theorem skB_fit {s sign : ByteArray} {k : Nat} (h : skB s sign k = true) (hk : k ≤ s.size) : k + sign.size ≤ s.size ∧ s.extract k (k + sign.size) = sign ∧ (bs s).drop k = bs sign ++ (bs s).drop (k + sign.size) := by
  have h1 := of_decide_eq_true h
  have h2 := congrArg List.length h1
  rw [List.length_take, List.length_drop, bs_length, bs_length] at h2
  refine ⟨by omega, bs_inj ?_, ?_⟩
  · rw [bs_ext, Nat.add_sub_cancel_left]; exact h1
  · have h3 := List.take_append_drop sign.size ((bs s).drop k)
    rw [h1, List.drop_drop] at h3
    exact h3.symm
theorem skB_no {s sign : ByteArray} {k : Nat} (h : skB s sign k = false) : s.extract k (k + sign.size) ≠ sign := fun e => by
  have h1 := of_decide_eq_false h
  refine h1 ?_
  rw [← e, bs_ext, e, Nat.add_sub_cancel_left]
theorem str_differ {a b : ByteArray} (h : ¬ a = b) : (!a.toList == b.toList) = true := by
  rw [Bool.not_eq_true', beq_eq_false_iff_ne, toList_bs, toList_bs]
  exact fun e => h (bs_inj e)
theorem str_same {a b : ByteArray} (h : a = b) : (!a.toList == b.toList) = false := by
  rw [h]; simp
theorem keep_cell {Ba : Nat} {w : World} (v : Value) : Keep Ba w (w.setCell ⟨Ba, 0, none⟩ v) := (Keep.refl Ba w).set 0 v

end Go.Proofs.YthckgmbadmilfaaGreat
