/- A directory that is read: plain Lean. Walks: a quoted value that is read (the program's). Walks: a sign that is skipped, a label that is read (the program's closures of parse). -/
import Derived.Test.YtoojpfcnekpboaaMAC
import Derived.Test.YtoojpfcnekpboaaMAX
import Derived.Test.YtoojpfcnekpboaaMAT
import Derived.Test.YtoojpfcnekpboaaMAI
import Derived.Laws.EntriesVeiled
namespace Go.Proofs.Ytoojpfcnekpboaa

structure RS where
  rest : ByteArray
  bad : Bool
def rNum (st : RS) : Int × RS := if st.bad = true ∨ (rdG st.rest).2.2 ≠ 0 then (0, ⟨st.rest, true⟩) else ((rdG st.rest).1, ⟨cutS st.rest (rdG st.rest).2.1.toNat, false⟩)
def rByt (n : Int) (st : RS) : ByteArray × RS := if st.bad = true ∨ (st.rest.size : Int) < n then (⟨#[]⟩, ⟨st.rest, true⟩) else (st.rest.extract 0 n.toNat, ⟨cutS st.rest n.toNat, false⟩)
/-- The seven readings of an item. -/
structure RI where
  sig : Int
  text : ByteArray
  zone : ByteArray
  off : Int
  size : Int
  st : RS
def rRaw (st : RS) : RI :=
  let a := rNum st
  let b := rNum a.2
  let t := rByt b.1 b.2
  let c := rNum t.2
  let z := rByt c.1 c.2
  let o := rNum z.2
  let q := rNum o.2
  ⟨a.1, t.1, z.1, o.1, q.1, q.2⟩
def rItm (at_ : Int) (st : RS) : Itm × RS :=
  let r := rRaw st
  if r.st.bad = true ∨ r.off ≠ at_ ∨ r.size < 4 ∨ 262148 < r.size then (⟨r.sig, [], Zn.zero, r.off, r.size⟩, ⟨r.st.rest, true⟩)
  else (⟨r.sig, (parE r.text).1, (zD r.zone).1, r.off, r.size⟩, ⟨r.st.rest, decide ((parE r.text).2 ≠ 0 ∨ (zD r.zone).2 ≠ 0)⟩)
def rLoop (count : Int) : Nat → Int → RS → List Itm → List Itm × Int × RS
  | 0, at_, st, acc => (acc, at_, st)
  | f + 1, at_, st, acc => if st.bad = false ∧ (acc.length : Int) < count then rLoop count f (at_ + (rItm at_ st).1.size) (rItm at_ st).2 (acc ++ [(rItm at_ st).1]) else (acc, at_, st)
structure RB where
  id : Int
  width : Int
  fr : Int
  items : List Itm
  total : Int
  st : RS
def rBlk (st : RS) : RB :=
  let m := rByt 4 st
  let i := rNum (if m.1 = str magicB then m.2 else ⟨m.2.rest, true⟩)
  let w := rNum i.2
  let f := rNum w.2
  let c := rNum f.2
  let l := rLoop c.1 4001 0 (if 4000 < c.1 then ⟨c.2.rest, true⟩ else c.2) []
  ⟨i.1, w.1, f.1, l.1, l.2.1, l.2.2⟩
/-- The chunk of an item, without its data. -/
def chkOf (x : Itm) : Chk := ⟨x.sig, x.labs, x.zone, ⟨#[]⟩⟩
def RB.blk (r : RB) : Blk := ⟨r.id, r.width, r.fr, r.items.map chkOf⟩

/-! ### Bounds -/
theorem rdG_bounds (s : ByteArray) : 0 ≤ (rdG s).1 ∧ (rdG s).1 ≤ 1152921504606846976 ∧ 0 ≤ (rdG s).2.1 ∧ (rdG s).2.1 ≤ s.size := by
  by_cases h : (rdG s).2.2 = 0
  · obtain ⟨m, h1, h2, h3, h4, _⟩ := rdG_ok s _ _ (trip_eta _ h)
    omega
  · obtain ⟨h1, h2⟩ := rdG_bad s h
    omega
theorem rNum_bounds (st : RS) : 0 ≤ (rNum st).1 ∧ (rNum st).1 ≤ 1152921504606846976 ∧ (rNum st).2.rest.size ≤ st.rest.size := by
  have := rdG_bounds st.rest
  unfold rNum
  split
  · exact ⟨Int.le_refl 0, by show (0 : Int) ≤ _; decide, Nat.le_refl _⟩
  · refine ⟨this.1, this.2.1, ?_⟩
    rw [cutS_size]
    omega
theorem rNum_bad (st : RS) (h : st.bad = true) : (rNum st).2.bad = true := by
  unfold rNum
  rw [if_pos (.inl h)]
theorem rByt_bounds (n : Int) (st : RS) : (rByt n st).1.size ≤ st.rest.size ∧ (rByt n st).2.rest.size ≤ st.rest.size := by
  unfold rByt
  split
  · exact ⟨Nat.zero_le _, Nat.le_refl _⟩
  · rw [cutS_size, ByteArray.size_extract]
    omega
theorem rByt_bad (n : Int) (st : RS) (h : st.bad = true) : (rByt n st).2.bad = true := by
  unfold rByt
  rw [if_pos (.inl h)]
theorem rRaw_bounds (st : RS) : 0 ≤ (rRaw st).size ∧ (rRaw st).size ≤ 1152921504606846976 ∧ (rRaw st).st.rest.size ≤ st.rest.size ∧ (rRaw st).text.size ≤ st.rest.size ∧ (rRaw st).zone.size ≤ st.rest.size := by
  unfold rRaw
  have h1 := rNum_bounds st
  have h2 := rNum_bounds (rNum st).2
  have h3 := rByt_bounds (rNum (rNum st).2).1 (rNum (rNum st).2).2
  have h4 := rNum_bounds (rByt (rNum (rNum st).2).1 (rNum (rNum st).2).2).2
  have h5 := rByt_bounds (rNum (rByt (rNum (rNum st).2).1 (rNum (rNum st).2).2).2).1 (rNum (rByt (rNum (rNum st).2).1 (rNum (rNum st).2).2).2).2
  have h6 := rNum_bounds (rByt (rNum (rByt (rNum (rNum st).2).1 (rNum (rNum st).2).2).2).1 (rNum (rByt (rNum (rNum st).2).1 (rNum (rNum st).2).2).2).2).2
  have h7 := rNum_bounds (rNum (rByt (rNum (rByt (rNum (rNum st).2).1 (rNum (rNum st).2).2).2).1 (rNum (rByt (rNum (rNum st).2).1 (rNum (rNum st).2).2).2).2).2).2
  refine ⟨h7.1, h7.2.1, ?_, ?_, ?_⟩
  · show (rNum _).2.rest.size ≤ _
    omega
  · show (rByt _ _).1.size ≤ _
    omega
  · show (rByt _ _).1.size ≤ _
    omega
theorem rItm_bounds (a : Int) (st : RS) : 0 ≤ (rItm a st).1.size ∧ (rItm a st).1.size ≤ 1152921504606846976 ∧ (rItm a st).2.rest.size ≤ st.rest.size ∧ ((rItm a st).2.bad = false → (rItm a st).1.size ≤ 262148) := by
  have := rRaw_bounds st
  unfold rItm
  simp only
  split
  · exact ⟨this.1, this.2.1, this.2.2.1, fun h => by cases h⟩
  · rename_i h
    exact ⟨this.1, this.2.1, this.2.2.1, fun _ => by show (rRaw st).size ≤ _; omega⟩
end Go.Proofs.Ytoojpfcnekpboaa

namespace Go.Proofs.Ytoojpfcnekpboaa
open Go.RowKit

def unescV (c : UInt8) : Value := match unescB c with
  | none => .tuple #[.int .u8 0, .bool false]
  | some d => .tuple #[.int .u8 d.toNat, .bool true]
set_option maxHeartbeats 1000000 in
theorem unescaped_any (c : UInt8) (w : World) : Calls Try.prog 105 #[.int .u8 c.toNat] w fun e w' => e = .returned (unescV c) ∧ w = w' := by
  by_cases h1 : c = 92
  · subst h1
    go_enter Try.func105, Try.ntmps105
    go_wp2_with fail
    go_ret2
    exact ⟨rfl, rfl⟩
  by_cases h2 : c = 34
  · subst h2
    clear h1
    go_enter Try.func105, Try.ntmps105
    go_wp2_with fail
    go_ret2
    exact ⟨rfl, rfl⟩
  by_cases h3 : c = 110
  · subst h3
    clear h1 h2
    go_enter Try.func105, Try.ntmps105
    go_wp2_with fail
    go_ret2
    exact ⟨rfl, rfl⟩
  · have d1 : ((c.toNat : Int) == 92) = false := byte_ne h1
    have d2 : ((c.toNat : Int) == 34) = false := byte_ne h2
    have d3 : ((c.toNat : Int) == 110) = false := byte_ne h3
    have HE : Hid (unescV c = .tuple #[.int .u8 0, .bool false]) := Lib.hid (by unfold unescV unescB; rw [if_neg (by rintro (h | h); exact h1 h; exact h2 h), if_neg h3])
    clear h1 h2 h3
    go_enter Try.func105, Try.ntmps105
    go_wp2_with fail
    go_ret2
    exact ⟨by rw [HE.out]; rfl, rfl⟩

/-- What 'unquoted' answers. -/
def unqV (s : ByteArray) : Value := match unqL (bs s) with
  | none => .tuple #[.string ⟨#[]⟩, .int .i64 0, .bool false]
  | some p => .tuple #[.string (str p.1), .int .i64 p.2, .bool true]
/-- Where the reader stands: what it has, what is left. -/
def UQ (s : ByteArray) (acc : List UInt8) (k : Nat) : Prop := unqL (bs s) = (unqL ((bs s).drop k)).map fun p => (acc ++ p.1, k + p.2)
theorem UQ.start (s : ByteArray) : UQ s [] 0 := by
  unfold UQ
  rw [List.drop_zero]
  cases unqL (bs s) <;> simp
theorem UQ.end_ {s : ByteArray} {acc : List UInt8} {k : Nat} (h : UQ s acc k) (hk : s.size ≤ k) : unqV s = .tuple #[.string ⟨#[]⟩, .int .i64 0, .bool false] := by
  unfold UQ at h
  rw [drop_end hk] at h
  unfold unqV
  rw [h]
  rfl
theorem UQ.line {s : ByteArray} {acc : List UInt8} {k : Nat} (h : UQ s acc k) (hk : k < s.size) (hb : s[k] = 10) : unqV s = .tuple #[.string ⟨#[]⟩, .int .i64 0, .bool false] := by
  unfold UQ at h
  rw [drop_byte hk, hb, unqL_line] at h
  unfold unqV
  rw [h]
  rfl
theorem UQ.quote {s : ByteArray} {acc : List UInt8} {k : Nat} (h : UQ s acc k) (hk : k < s.size) (hb : s[k] = 34) : unqV s = .tuple #[.string (str acc), .int .i64 ((k : Int) + 1), .bool true] := by
  unfold UQ at h
  rw [drop_byte hk, hb, unqL_quote] at h
  unfold unqV
  rw [h]
  simp
theorem UQ.back_end {s : ByteArray} {acc : List UInt8} {k : Nat} (h : UQ s acc k) (hk : k < s.size) (hb : s[k] = 92) (he : s.size ≤ k + 1) : unqV s = .tuple #[.string ⟨#[]⟩, .int .i64 0, .bool false] := by
  unfold UQ at h
  rw [drop_byte hk, hb, drop_end he, unqL_back_end] at h
  unfold unqV
  rw [h]
  rfl
theorem UQ.back_no {s : ByteArray} {acc : List UInt8} {k : Nat} (h : UQ s acc k) (hk : k < s.size) (hb : s[k] = 92) (he : k + 1 < s.size) (hu : unescB s[k + 1] = none) : unqV s = .tuple #[.string ⟨#[]⟩, .int .i64 0, .bool false] := by
  unfold UQ at h
  rw [drop_byte hk, hb, drop_byte he, unqL_back, hu] at h
  unfold unqV
  rw [h]
  rfl
theorem UQ.back {s : ByteArray} {acc : List UInt8} {k : Nat} (h : UQ s acc k) (hk : k < s.size) (hb : s[k] = 92) (he : k + 1 < s.size) {d : UInt8} (hu : unescB s[k + 1] = some d) : UQ s (acc ++ [d]) (k + 1 + 1) := by
  unfold UQ at h ⊢
  rw [h, drop_byte hk, hb, drop_byte he, unqL_back, hu]
  cases unqL ((bs s).drop (k + 1 + 1)) <;> simp
  omega
theorem UQ.other {s : ByteArray} {acc : List UInt8} {k : Nat} (h : UQ s acc k) (hk : k < s.size) (h1 : s[k] ≠ 34) (h2 : s[k] ≠ 10) (h3 : s[k] ≠ 92) : UQ s (acc ++ [s[k]]) (k + 1) := by
  unfold UQ at h ⊢
  rw [h, drop_byte hk, unqL_other _ _ h1 h2 h3]
  cases unqL ((bs s).drop (k + 1)) <;> simp
  omega

set_option maxRecDepth 100000 in
set_option maxHeartbeats 2000000 in
theorem unquoted_any (s : ByteArray) (w : World) (hs : s.size ≤ 100000000) :
    Calls Try.prog 102 #[.string s] w fun e w' => e = .returned (unqV s) ∧ Below w.heap.size w w' := by
  have HS := Lib.hid hs
  clear hs
  go_enter Try.func102, Try.ntmps102
  go_wp2_with fail
  go_loopw [5, 6] (fun v i wr => ∃ (k : Nat) (A : Option Addr) (m c : Nat) (acc : List UInt8), k ≤ s.size ∧ v = .slice A m c ∧ i = .int .i64 k ∧ Hid (BR w A m c acc wr) ∧ Hid (UQ s acc k) ∧ Hid (acc.length ≤ k)) (fun _ i _ => s.size - (intOf i).toNat)
  case atStart => exact ⟨0, none, 0, 0, [], Nat.zero_le _, rfl, rfl, Lib.hid (BR.nil (Below.refl _ _)), Lib.hid (UQ.start s), Lib.hid (Nat.le_refl _)⟩
  case round =>
    obtain ⟨k, A, m, c, acc, hk, rfl, rfl, HBR, HU, HL⟩ := hrel
    have hkl : (k : Int) ≤ 100000000 := by have := HS.out; omega
    by_cases hlt : k < s.size
    · obtain ⟨b, hb⟩ : ∃ b, s[k] = b := ⟨_, rfl⟩
      have HB := Lib.hid hb
      by_cases h34 : b = 34
      · subst h34
        have HR := Lib.hid (HU.out.quote hlt HB.out)
        have kc := HBR.out.str
        go_wp2_with fail
        go_ret3
        exact ⟨by rw [HR.out]; rfl, HBR.out.below⟩
      by_cases h10 : b = 10
      · subst h10
        have HR := Lib.hid (HU.out.line hlt HB.out)
        clear h34
        go_wp2_with fail
        go_ret3
        exact ⟨by rw [HR.out]; rfl, HBR.out.below⟩
      by_cases h92 : b = 92
      · subst h92
        clear h34 h10
        by_cases he : k + 1 < s.size
        · have hne : ((k : Int) + 1 == (s.size : Int)) = false := by rw [beq_eq_false_iff_ne]; omega
          obtain ⟨d, hd⟩ : ∃ d, s[k + 1] = d := ⟨_, rfl⟩
          have HD := Lib.hid hd
          rcases hu : unescB d with _ | e
          · have HR := Lib.hid (HU.out.back_no hlt HB.out he (by rw [HD.out]; exact hu))
            have HV : Hid (unescV d = .tuple #[.int .u8 0, .bool false]) := Lib.hid (by unfold unescV; rw [hu])
            clear hu
            go_wp2_with fail
            refine (unescaped_any d wr).mono ?_
            rintro e w' ⟨rfl, rfl⟩
            rw [HV.out]
            go_wp2_with fail
            go_ret3
            exact ⟨by rw [HR.out]; rfl, HBR.out.below⟩
          · have HR := Lib.hid (HU.out.back hlt HB.out he (d := e) (by rw [HD.out]; exact hu))
            have HV : Hid (unescV d = .tuple #[.int .u8 e.toNat, .bool true]) := Lib.hid (by unfold unescV; rw [hu])
            clear hu
            go_wp2_with fail
            refine (unescaped_any d wr).mono ?_
            rintro e1 w' ⟨rfl, rfl⟩
            rw [HV.out]
            go_wp2_with (at_builtin; (refine wpList_bytes rfl (.tmp 49) (.tmp 51) rfl HBR.out [e] (by simp) rfl rfl (by have := HBR.out.len; have := HL.out; simp; omega) ?_))
            intro A' n' c' l' w' HE hq hg2
            have HQ := Lib.hid hq
            clear hq hg2
            go_wp2_with fail
            go_roundw
            case rel => exact ⟨k + 1 + 1, A', n', c', l', he, rfl, by go_num, HQ, by rw [HE.out]; exact HR, Lib.hid (by rw [HE.out, List.length_append]; have := HL.out; simp; omega)⟩
            case measure => simp [intOf]; omega
        · have hne : ((k : Int) + 1 == (s.size : Int)) = true := by rw [beq_iff_eq]; omega
          have HR := Lib.hid (HU.out.back_end hlt HB.out (by omega))
          go_wp2_with fail
          go_ret3
          exact ⟨by rw [HR.out]; rfl, HBR.out.below⟩
      · have d1 : ((b.toNat : Int) == 92) = false := byte_ne h92
        have d2 : ((b.toNat : Int) == 34) = false := byte_ne h34
        have d3 : ((b.toNat : Int) == 10) = false := byte_ne h10
        have HR := Lib.hid (HU.out.other hlt (by rw [HB.out]; exact h34) (by rw [HB.out]; exact h10) (by rw [HB.out]; exact h92))
        rw [HB.out] at HR
        clear h92 h34 h10
        go_wp2_with (at_builtin; (refine wpList_bytes rfl (.tmp 18) (.tmp 22) rfl HBR.out [b] (by simp) rfl rfl (by have := HBR.out.len; have := HL.out; simp; omega) ?_))
        intro A' n' c' l' w' HE hq hg2
        have HQ := Lib.hid hq
        clear hq hg2
        go_wp2_with fail
        go_roundw
        case rel => exact ⟨k + 1, A', n', c', l', hlt, rfl, by go_num, HQ, by rw [HE.out]; exact HR, Lib.hid (by rw [HE.out, List.length_append]; have := HL.out; simp; omega)⟩
        case measure => simp [intOf]; omega
    · have HR := Lib.hid (HU.out.end_ (by omega))
      go_wp2_with fail
      go_ret3
      exact ⟨by rw [HR.out]; rfl, HBR.out.below⟩
end Go.Proofs.Ytoojpfcnekpboaa

namespace Go.Proofs.Ytoojpfcnekpboaa
open Go.RowKit

theorem bs_ext (s : ByteArray) (i k : Nat) : bs (s.extract i k) = ((bs s).drop i).take (k - i) := by
  unfold bs
  rw [ByteArray.data_extract, Array.toList_extract, List.extract_eq_take_drop]
/-- The sign stands there. -/
def skB (s sign : ByteArray) (k : Nat) : Bool := decide (((bs s).drop k).take sign.size = bs sign)
theorem skB_fit {s sign : ByteArray} {k : Nat} (h : skB s sign k = true) (hk : k ≤ s.size) : k + sign.size ≤ s.size ∧ s.extract k (k + sign.size) = sign ∧ (bs s).drop k = bs sign ++ (bs s).drop (k + sign.size) := by
  have h1 := of_decide_eq_true h
  have h2 := congrArg List.length h1
  rw [List.length_take, List.length_drop, bs_length, bs_length] at h2
  refine ⟨by omega, bs_inj ?_, ?_⟩
  · rw [bs_ext, Nat.add_sub_cancel_left]; exact h1
  · have h3 := List.take_append_drop sign.size ((bs s).drop k)
    rw [h1, List.drop_drop] at h3
    exact h3.symm
theorem skB_no {s sign : ByteArray} {k : Nat} (h : skB s sign k = false) : s.extract k (k + sign.size) ≠ sign := fun e => by
  have h1 := of_decide_eq_false h
  refine h1 ?_
  rw [← e, bs_ext, e, Nat.add_sub_cancel_left]
theorem str_differ {a b : ByteArray} (h : ¬ a = b) : (!a.toList == b.toList) = true := by
  rw [Bool.not_eq_true', beq_eq_false_iff_ne, toList_bs, toList_bs]
  exact fun e => h (bs_inj e)
theorem str_same {a b : ByteArray} (h : a = b) : (!a.toList == b.toList) = false := by
  rw [h]; simp
theorem keep_cell {Ba : Nat} {w : World} (v : Value) : Keep Ba w (w.setCell ⟨Ba, 0, none⟩ v) := (Keep.refl Ba w).set 0 v

set_option maxRecDepth 100000 in
set_option maxHeartbeats 1000000 in
theorem skip_yes (s sign : ByteArray) (k Bs Ba : Nat) (w : World) (hs : s.size ≤ 1000000) (hk : k ≤ s.size) (h1 : At w Bs #[.string s] 9) (h2 : At w Ba #[.int .i64 k] 3) (hb : skB s sign k = true) :
    Calls Try.prog 100 #[.string sign, .pointer (some ⟨Bs, 0, none⟩), .pointer (some ⟨Ba, 0, none⟩)] w fun e w' => e = .returned (.bool true) ∧ w' = w.setCell ⟨Ba, 0, none⟩ (.int .i64 ((k + sign.size : Nat) : Int)) := by
  obtain ⟨hfit, hex, _⟩ := skB_fit hb hk
  have c1 : w.cell? ⟨Bs, 0, none⟩ = some (.string s) := h1.cell 0
  have c2 : w.cell? ⟨Ba, 0, none⟩ = some (.int .i64 k) := h2.cell 0
  have f2 : w.frozen? ⟨Ba, 0, none⟩ = false := h2.free 0
  have d1 := str_same hex
  have n1 : ¬ (s.size : Int) - (k : Int) < (sign.size : Int) := by omega
  have n2 : (k : Int) + (sign.size : Int) ≤ (s.size : Int) := by omega
  have n3 : (s.size : Int) ≤ 1000000 := by omega
  clear hb hex h1 h2
  go_enter Try.func100, Try.ntmps100
  go_wp2_with fail
  go_ret
  refine ⟨rfl, ?_⟩
  first | rfl | (congr 2; omega) | skip
theorem skip_no_short (s sign : ByteArray) (k Bs Ba : Nat) (w : World) (hs : s.size ≤ 1000000) (hk : k ≤ s.size) (h1 : At w Bs #[.string s] 9) (h2 : At w Ba #[.int .i64 k] 3) (hb : s.size - k < sign.size) :
    Calls Try.prog 100 #[.string sign, .pointer (some ⟨Bs, 0, none⟩), .pointer (some ⟨Ba, 0, none⟩)] w fun e w' => e = .returned (.bool false) ∧ w = w' := by
  have c1 : w.cell? ⟨Bs, 0, none⟩ = some (.string s) := h1.cell 0
  have c2 : w.cell? ⟨Ba, 0, none⟩ = some (.int .i64 k) := h2.cell 0
  have n1 : (s.size : Int) - (k : Int) < (sign.size : Int) := by omega
  have n3 : (s.size : Int) ≤ 1000000 := by omega
  clear hb h1 h2
  go_enter Try.func100, Try.ntmps100
  go_wp2_with fail
  go_ret
  exact ⟨rfl, rfl⟩
theorem skip_no_other (s sign : ByteArray) (k Bs Ba : Nat) (w : World) (hs : s.size ≤ 1000000) (hk : k ≤ s.size) (h1 : At w Bs #[.string s] 9) (h2 : At w Ba #[.int .i64 k] 3) (hfit : k + sign.size ≤ s.size) (hb : skB s sign k = false) :
    Calls Try.prog 100 #[.string sign, .pointer (some ⟨Bs, 0, none⟩), .pointer (some ⟨Ba, 0, none⟩)] w fun e w' => e = .returned (.bool false) ∧ w = w' := by
  have c1 : w.cell? ⟨Bs, 0, none⟩ = some (.string s) := h1.cell 0
  have c2 : w.cell? ⟨Ba, 0, none⟩ = some (.int .i64 k) := h2.cell 0
  have d1 := str_differ (skB_no hb)
  have n1 : ¬ (s.size : Int) - (k : Int) < (sign.size : Int) := by omega
  have n2 : (k : Int) + (sign.size : Int) ≤ (s.size : Int) := by omega
  have n3 : (s.size : Int) ≤ 1000000 := by omega
  clear hb h1 h2
  go_enter Try.func100, Try.ntmps100
  go_wp2_with fail
  go_ret
  exact ⟨rfl, rfl⟩
theorem skip_no (s sign : ByteArray) (k Bs Ba : Nat) (w : World) (hs : s.size ≤ 1000000) (hk : k ≤ s.size) (h1 : At w Bs #[.string s] 9) (h2 : At w Ba #[.int .i64 k] 3) (hb : skB s sign k = false) :
    Calls Try.prog 100 #[.string sign, .pointer (some ⟨Bs, 0, none⟩), .pointer (some ⟨Ba, 0, none⟩)] w fun e w' => e = .returned (.bool false) ∧ w = w' := by
  by_cases h : s.size - k < sign.size
  · exact skip_no_short s sign k Bs Ba w hs hk h1 h2 h
  · exact skip_no_other s sign k Bs Ba w hs hk h1 h2 (by omega) hb
end Go.Proofs.Ytoojpfcnekpboaa
