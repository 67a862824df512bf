/- Walks: a quoted value that is read (the program's). Walks: a sign that is skipped, a label that is read (the program's closures of parse). Walks: Decode of zones (the program's). -/
import Derived.Test.YtoojpfcnekpboaaGreatZAY
import Derived.Test.YtoojpfcnekpboaaGreatZAH
import Derived.Laws.EntriesVeiled
import Derived.Test.YtoojpfcnekpboaaGreatZAX
namespace Go.Proofs.YtoojpfcnekpboaaGreat
open Go.RowKit

def unescV (c : UInt8) : Value := match unescB c with
  | none => .tuple #[.int .u8 0, .bool false]
  | some d => .tuple #[.int .u8 d.toNat, .bool true]
set_option maxHeartbeats 1000000 in
theorem unescaped_any (c : UInt8) (w : World) : Calls Tryz.prog 190 #[.int .u8 c.toNat] w fun e w' => e = .returned (unescV c) ∧ w = w' := by
  by_cases h1 : c = 92
  · subst h1
    go_enter Tryz.func190, Tryz.ntmps190
    go_wp2_with fail
    go_ret2
    exact ⟨rfl, rfl⟩
  by_cases h2 : c = 34
  · subst h2
    clear h1
    go_enter Tryz.func190, Tryz.ntmps190
    go_wp2_with fail
    go_ret2
    exact ⟨rfl, rfl⟩
  by_cases h3 : c = 110
  · subst h3
    clear h1 h2
    go_enter Tryz.func190, Tryz.ntmps190
    go_wp2_with fail
    go_ret2
    exact ⟨rfl, rfl⟩
  · have d1 : ((c.toNat : Int) == 92) = false := byte_ne h1
    have d2 : ((c.toNat : Int) == 34) = false := byte_ne h2
    have d3 : ((c.toNat : Int) == 110) = false := byte_ne h3
    have HE : Hid (unescV c = .tuple #[.int .u8 0, .bool false]) := Lib.hid (by unfold unescV unescB; rw [if_neg (by rintro (h | h); exact h1 h; exact h2 h), if_neg h3])
    clear h1 h2 h3
    go_enter Tryz.func190, Tryz.ntmps190
    go_wp2_with fail
    go_ret2
    exact ⟨by rw [HE.out]; rfl, rfl⟩

/-- What 'unquoted' answers. -/
def unqV (s : ByteArray) : Value := match unqL (bs s) with
  | none => .tuple #[.string ⟨#[]⟩, .int .i64 0, .bool false]
  | some p => .tuple #[.string (str p.1), .int .i64 p.2, .bool true]
/-- Where the reader stands: what it has, what is left. -/
def UQ (s : ByteArray) (acc : List UInt8) (k : Nat) : Prop := unqL (bs s) = (unqL ((bs s).drop k)).map fun p => (acc ++ p.1, k + p.2)
theorem UQ.start (s : ByteArray) : UQ s [] 0 := by
  unfold UQ
  rw [List.drop_zero]
  cases unqL (bs s) <;> simp
theorem UQ.end_ {s : ByteArray} {acc : List UInt8} {k : Nat} (h : UQ s acc k) (hk : s.size ≤ k) : unqV s = .tuple #[.string ⟨#[]⟩, .int .i64 0, .bool false] := by
  unfold UQ at h
  rw [drop_end hk] at h
  unfold unqV
  rw [h]
  rfl
theorem UQ.line {s : ByteArray} {acc : List UInt8} {k : Nat} (h : UQ s acc k) (hk : k < s.size) (hb : s[k] = 10) : unqV s = .tuple #[.string ⟨#[]⟩, .int .i64 0, .bool false] := by
  unfold UQ at h
  rw [drop_byte hk, hb, unqL_line] at h
  unfold unqV
  rw [h]
  rfl
theorem UQ.quote {s : ByteArray} {acc : List UInt8} {k : Nat} (h : UQ s acc k) (hk : k < s.size) (hb : s[k] = 34) : unqV s = .tuple #[.string (str acc), .int .i64 ((k : Int) + 1), .bool true] := by
  unfold UQ at h
  rw [drop_byte hk, hb, unqL_quote] at h
  unfold unqV
  rw [h]
  simp
theorem UQ.back_end {s : ByteArray} {acc : List UInt8} {k : Nat} (h : UQ s acc k) (hk : k < s.size) (hb : s[k] = 92) (he : s.size ≤ k + 1) : unqV s = .tuple #[.string ⟨#[]⟩, .int .i64 0, .bool false] := by
  unfold UQ at h
  rw [drop_byte hk, hb, drop_end he, unqL_back_end] at h
  unfold unqV
  rw [h]
  rfl
theorem UQ.back_no {s : ByteArray} {acc : List UInt8} {k : Nat} (h : UQ s acc k) (hk : k < s.size) (hb : s[k] = 92) (he : k + 1 < s.size) (hu : unescB s[k + 1] = none) : unqV s = .tuple #[.string ⟨#[]⟩, .int .i64 0, .bool false] := by
  unfold UQ at h
  rw [drop_byte hk, hb, drop_byte he, unqL_back, hu] at h
  unfold unqV
  rw [h]
  rfl
theorem UQ.back {s : ByteArray} {acc : List UInt8} {k : Nat} (h : UQ s acc k) (hk : k < s.size) (hb : s[k] = 92) (he : k + 1 < s.size) {d : UInt8} (hu : unescB s[k + 1] = some d) : UQ s (acc ++ [d]) (k + 1 + 1) := by
  unfold UQ at h ⊢
  rw [h, drop_byte hk, hb, drop_byte he, unqL_back, hu]
  cases unqL ((bs s).drop (k + 1 + 1)) <;> simp
  omega
theorem UQ.other {s : ByteArray} {acc : List UInt8} {k : Nat} (h : UQ s acc k) (hk : k < s.size) (h1 : s[k] ≠ 34) (h2 : s[k] ≠ 10) (h3 : s[k] ≠ 92) : UQ s (acc ++ [s[k]]) (k + 1) := by
  unfold UQ at h ⊢
  rw [h, drop_byte hk, unqL_other _ _ h1 h2 h3]
  cases unqL ((bs s).drop (k + 1)) <;> simp
  omega

set_option maxRecDepth 100000 in
set_option maxHeartbeats 2000000 in
theorem unquoted_any (s : ByteArray) (w : World) (hs : s.size ≤ 100000000) :
    Calls Tryz.prog 178 #[.string s] w fun e w' => e = .returned (unqV s) ∧ Below w.heap.size w w' := by
  have HS := Lib.hid hs
  clear hs
  go_enter Tryz.func178, Tryz.ntmps178
  go_wp2_with fail
  go_loopw [5, 6] (fun v i wr => ∃ (k : Nat) (A : Option Addr) (m c : Nat) (acc : List UInt8), k ≤ s.size ∧ v = .slice A m c ∧ i = .int .i64 k ∧ Hid (BR w A m c acc wr) ∧ Hid (UQ s acc k) ∧ Hid (acc.length ≤ k)) (fun _ i _ => s.size - (intOf i).toNat)
  case atStart => exact ⟨0, none, 0, 0, [], Nat.zero_le _, rfl, rfl, Lib.hid (BR.nil (Below.refl _ _)), Lib.hid (UQ.start s), Lib.hid (Nat.le_refl _)⟩
  case round =>
    obtain ⟨k, A, m, c, acc, hk, rfl, rfl, HBR, HU, HL⟩ := hrel
    have hkl : (k : Int) ≤ 100000000 := by have := HS.out; omega
    by_cases hlt : k < s.size
    · obtain ⟨b, hb⟩ : ∃ b, s[k] = b := ⟨_, rfl⟩
      have HB := Lib.hid hb
      by_cases h34 : b = 34
      · subst h34
        have HR := Lib.hid (HU.out.quote hlt HB.out)
        have kc := HBR.out.str
        go_wp2_with fail
        go_ret3
        exact ⟨by rw [HR.out]; rfl, HBR.out.below⟩
      by_cases h10 : b = 10
      · subst h10
        have HR := Lib.hid (HU.out.line hlt HB.out)
        clear h34
        go_wp2_with fail
        go_ret3
        exact ⟨by rw [HR.out]; rfl, HBR.out.below⟩
      by_cases h92 : b = 92
      · subst h92
        clear h34 h10
        by_cases he : k + 1 < s.size
        · have hne : ((k : Int) + 1 == (s.size : Int)) = false := by rw [beq_eq_false_iff_ne]; omega
          obtain ⟨d, hd⟩ : ∃ d, s[k + 1] = d := ⟨_, rfl⟩
          have HD := Lib.hid hd
          rcases hu : unescB d with _ | e
          · have HR := Lib.hid (HU.out.back_no hlt HB.out he (by rw [HD.out]; exact hu))
            have HV : Hid (unescV d = .tuple #[.int .u8 0, .bool false]) := Lib.hid (by unfold unescV; rw [hu])
            clear hu
            go_wp2_with fail
            refine (unescaped_any d wr).mono ?_
            rintro e w' ⟨rfl, rfl⟩
            rw [HV.out]
            go_wp2_with fail
            go_ret3
            exact ⟨by rw [HR.out]; rfl, HBR.out.below⟩
          · have HR := Lib.hid (HU.out.back hlt HB.out he (d := e) (by rw [HD.out]; exact hu))
            have HV : Hid (unescV d = .tuple #[.int .u8 e.toNat, .bool true]) := Lib.hid (by unfold unescV; rw [hu])
            clear hu
            go_wp2_with fail
            refine (unescaped_any d wr).mono ?_
            rintro e1 w' ⟨rfl, rfl⟩
            rw [HV.out]
            go_wp2_with (at_builtin; (refine wpList_bytes rfl (.tmp 49) (.tmp 51) rfl HBR.out [e] (by simp) rfl rfl (by have := HBR.out.len; have := HL.out; simp; omega) ?_))
            intro A' n' c' l' w' HE hq hg2
            have HQ := Lib.hid hq
            clear hq hg2
            go_wp2_with fail
            go_roundw
            case rel => exact ⟨k + 1 + 1, A', n', c', l', he, rfl, by go_num, HQ, by rw [HE.out]; exact HR, Lib.hid (by rw [HE.out, List.length_append]; have := HL.out; simp; omega)⟩
            case measure => simp [intOf]; omega
        · have hne : ((k : Int) + 1 == (s.size : Int)) = true := by rw [beq_iff_eq]; omega
          have HR := Lib.hid (HU.out.back_end hlt HB.out (by omega))
          go_wp2_with fail
          go_ret3
          exact ⟨by rw [HR.out]; rfl, HBR.out.below⟩
      · have d1 : ((b.toNat : Int) == 92) = false := byte_ne h92
        have d2 : ((b.toNat : Int) == 34) = false := byte_ne h34
        have d3 : ((b.toNat : Int) == 10) = false := byte_ne h10
        have HR := Lib.hid (HU.out.other hlt (by rw [HB.out]; exact h34) (by rw [HB.out]; exact h10) (by rw [HB.out]; exact h92))
        rw [HB.out] at HR
        clear h92 h34 h10
        go_wp2_with (at_builtin; (refine wpList_bytes rfl (.tmp 18) (.tmp 22) rfl HBR.out [b] (by simp) rfl rfl (by have := HBR.out.len; have := HL.out; simp; omega) ?_))
        intro A' n' c' l' w' HE hq hg2
        have HQ := Lib.hid hq
        clear hq hg2
        go_wp2_with fail
        go_roundw
        case rel => exact ⟨k + 1, A', n', c', l', hlt, rfl, by go_num, HQ, by rw [HE.out]; exact HR, Lib.hid (by rw [HE.out, List.length_append]; have := HL.out; simp; omega)⟩
        case measure => simp [intOf]; omega
    · have HR := Lib.hid (HU.out.end_ (by omega))
      go_wp2_with fail
      go_ret3
      exact ⟨by rw [HR.out]; rfl, HBR.out.below⟩
end Go.Proofs.YtoojpfcnekpboaaGreat

namespace Go.Proofs.YtoojpfcnekpboaaGreat
open Go.RowKit

theorem bs_ext (s : ByteArray) (i k : Nat) : bs (s.extract i k) = ((bs s).drop i).take (k - i) := by
  unfold bs
  rw [ByteArray.data_extract, Array.toList_extract, List.extract_eq_take_drop]
/-- The sign stands there. -/
def skB (s sign : ByteArray) (k : Nat) : Bool := decide (((bs s).drop k).take sign.size = bs sign)
theorem skB_fit {s sign : ByteArray} {k : Nat} (h : skB s sign k = true) (hk : k ≤ s.size) : k + sign.size ≤ s.size ∧ s.extract k (k + sign.size) = sign ∧ (bs s).drop k = bs sign ++ (bs s).drop (k + sign.size) := by
  have h1 := of_decide_eq_true h
  have h2 := congrArg List.length h1
  rw [List.length_take, List.length_drop, bs_length, bs_length] at h2
  refine ⟨by omega, bs_inj ?_, ?_⟩
  · rw [bs_ext, Nat.add_sub_cancel_left]; exact h1
  · have h3 := List.take_append_drop sign.size ((bs s).drop k)
    rw [h1, List.drop_drop] at h3
    exact h3.symm
theorem skB_no {s sign : ByteArray} {k : Nat} (h : skB s sign k = false) : s.extract k (k + sign.size) ≠ sign := fun e => by
  have h1 := of_decide_eq_false h
  refine h1 ?_
  rw [← e, bs_ext, e, Nat.add_sub_cancel_left]
theorem str_differ {a b : ByteArray} (h : ¬ a = b) : (!a.toList == b.toList) = true := by
  rw [Bool.not_eq_true', beq_eq_false_iff_ne, toList_bs, toList_bs]
  exact fun e => h (bs_inj e)
theorem str_same {a b : ByteArray} (h : a = b) : (!a.toList == b.toList) = false := by
  rw [h]; simp
theorem keep_cell {Ba : Nat} {w : World} (v : Value) : Keep Ba w (w.setCell ⟨Ba, 0, none⟩ v) := (Keep.refl Ba w).set 0 v

set_option maxRecDepth 100000 in
set_option maxHeartbeats 1000000 in
theorem skip_yes (s sign : ByteArray) (k Bs Ba : Nat) (w : World) (hs : s.size ≤ 1000000) (hk : k ≤ s.size) (h1 : At w Bs #[.string s] 9) (h2 : At w Ba #[.int .i64 k] 3) (hb : skB s sign k = true) :
    Calls Tryz.prog 176 #[.string sign, .pointer (some ⟨Bs, 0, none⟩), .pointer (some ⟨Ba, 0, none⟩)] w fun e w' => e = .returned (.bool true) ∧ w' = w.setCell ⟨Ba, 0, none⟩ (.int .i64 ((k + sign.size : Nat) : Int)) := by
  obtain ⟨hfit, hex, _⟩ := skB_fit hb hk
  have c1 : w.cell? ⟨Bs, 0, none⟩ = some (.string s) := h1.cell 0
  have c2 : w.cell? ⟨Ba, 0, none⟩ = some (.int .i64 k) := h2.cell 0
  have f2 : w.frozen? ⟨Ba, 0, none⟩ = false := h2.free 0
  have d1 := str_same hex
  have n1 : ¬ (s.size : Int) - (k : Int) < (sign.size : Int) := by omega
  have n2 : (k : Int) + (sign.size : Int) ≤ (s.size : Int) := by omega
  have n3 : (s.size : Int) ≤ 1000000 := by omega
  clear hb hex h1 h2
  go_enter Tryz.func176, Tryz.ntmps176
  go_wp2_with fail
  go_ret
  refine ⟨rfl, ?_⟩
  first | rfl | (congr 2; omega) | skip
theorem skip_no_short (s sign : ByteArray) (k Bs Ba : Nat) (w : World) (hs : s.size ≤ 1000000) (hk : k ≤ s.size) (h1 : At w Bs #[.string s] 9) (h2 : At w Ba #[.int .i64 k] 3) (hb : s.size - k < sign.size) :
    Calls Tryz.prog 176 #[.string sign, .pointer (some ⟨Bs, 0, none⟩), .pointer (some ⟨Ba, 0, none⟩)] w fun e w' => e = .returned (.bool false) ∧ w = w' := by
  have c1 : w.cell? ⟨Bs, 0, none⟩ = some (.string s) := h1.cell 0
  have c2 : w.cell? ⟨Ba, 0, none⟩ = some (.int .i64 k) := h2.cell 0
  have n1 : (s.size : Int) - (k : Int) < (sign.size : Int) := by omega
  have n3 : (s.size : Int) ≤ 1000000 := by omega
  clear hb h1 h2
  go_enter Tryz.func176, Tryz.ntmps176
  go_wp2_with fail
  go_ret
  exact ⟨rfl, rfl⟩
theorem skip_no_other (s sign : ByteArray) (k Bs Ba : Nat) (w : World) (hs : s.size ≤ 1000000) (hk : k ≤ s.size) (h1 : At w Bs #[.string s] 9) (h2 : At w Ba #[.int .i64 k] 3) (hfit : k + sign.size ≤ s.size) (hb : skB s sign k = false) :
    Calls Tryz.prog 176 #[.string sign, .pointer (some ⟨Bs, 0, none⟩), .pointer (some ⟨Ba, 0, none⟩)] w fun e w' => e = .returned (.bool false) ∧ w = w' := by
  have c1 : w.cell? ⟨Bs, 0, none⟩ = some (.string s) := h1.cell 0
  have c2 : w.cell? ⟨Ba, 0, none⟩ = some (.int .i64 k) := h2.cell 0
  have d1 := str_differ (skB_no hb)
  have n1 : ¬ (s.size : Int) - (k : Int) < (sign.size : Int) := by omega
  have n2 : (k : Int) + (sign.size : Int) ≤ (s.size : Int) := by omega
  have n3 : (s.size : Int) ≤ 1000000 := by omega
  clear hb h1 h2
  go_enter Tryz.func176, Tryz.ntmps176
  go_wp2_with fail
  go_ret
  exact ⟨rfl, rfl⟩
theorem skip_no (s sign : ByteArray) (k Bs Ba : Nat) (w : World) (hs : s.size ≤ 1000000) (hk : k ≤ s.size) (h1 : At w Bs #[.string s] 9) (h2 : At w Ba #[.int .i64 k] 3) (hb : skB s sign k = false) :
    Calls Tryz.prog 176 #[.string sign, .pointer (some ⟨Bs, 0, none⟩), .pointer (some ⟨Ba, 0, none⟩)] w fun e w' => e = .returned (.bool false) ∧ w = w' := by
  by_cases h : s.size - k < sign.size
  · exact skip_no_short s sign k Bs Ba w hs hk h1 h2 h
  · exact skip_no_other s sign k Bs Ba w hs hk h1 h2 (by omega) hb
end Go.Proofs.YtoojpfcnekpboaaGreat

namespace Go.Proofs.YtoojpfcnekpboaaGreat
open Go.RowKit Go.Shelf

theorem wpList_load_atG {P : Program} {ops : Array Oper} {rest : List Oper} {o : Oper} {a : Act} {w : World} {Q : Exit → Act → World → Prop} (hw : Region.wanted o (yielded ops a.tmps) = true) (ty : TypeId) (x : Operand) (ho : o.op = .load ty x)
    (g : Nat) (hx : a.eval x = .pointer (some ⟨g, 0, none⟩)) (t : TypeId) (cs : Array Value) (d : TypeDesc) (hg : At w g cs t)
    (hu : P.underlying ty = some d) (hd : (match d with | .struct _ | .array _ _ => true | _ => false) = true) (hi : (P.info? ty).map (·.size) = some cs.size)
    (h : wpList P ops Q rest (a.put o.dst (.agg cs)) w) : wpList P ops Q (o :: rest) a w :=
  BigFrame.wpList_want hw fun _ hK => wp_load_row ty x ho g hx t cs (0, 0) d hg.out hu hd hi (hK _ _ h)

set_option maxRecDepth 100000 in
set_option maxHeartbeats 2000000 in
theorem zdecode_any (s : ByteArray) (w : World) (hs : s.size ≤ 1000000) :
    Calls Tryz.prog 128 #[.string s] w fun e w' => e = .returned (.tuple #[.agg (zD s).1.cells, .int .i64 (zD s).2]) ∧ Below w.heap.size w w' := by
  have HP := Lib.hid (fun w => zparse_any s w hs)
  have HA0 := Lib.hid (At.new w Zn.zero.cells 50)
  have HB0 : Hid (Below w.heap.size w (w.alloc (.cells Zn.zero.cells 50))) := Lib.hid ((Below.refl _ _).alloc (Nat.le_refl _) _)
  clear hs
  go_enter Tryz.func128, Tryz.ntmps128
  go_upto_region 1 with fail
  change Code.wp _ _ _ _ (w.alloc (.cells Zn.zero.cells 50))
  generalize w.alloc (.cells Zn.zero.cells 50) = w0 at *
  go_wp2_with fail
  refine (HP.out w0).mono ?_
  rintro e w1 ⟨⟨z, b, rfl, hz⟩, hb⟩
  have HA1 := Lib.hid (HA0.out.below hb)
  have HB1 := Lib.hid (HB0.out.trans (hb.mono HB0.out.size))
  have HZ := Lib.hid hz
  have HX := Lib.hid (At.new w1 Zn.zero.cells 50)
  have hne : w.heap.size ≠ w1.heap.size := by have := HA1.out.lt; omega
  clear hb hz HA0 HB0
  go_wp2_with (refine wpList_store_at rfl 50 (.tmp 4) (.tmp 9) rfl w1.heap.size z.cells rfl rfl 50 Zn.zero.cells HX.out size_zone rfl (zn_one _) ?_)
  intro w2 HW2
  have HX2 : Hid (At w2 w1.heap.size z.cells 50) := Lib.hid (by rw [HW2.out]; exact HX.out.row)
  have HA2 : Hid (At w2 w.heap.size Zn.zero.cells 50) := Lib.hid (by
    rw [HW2.out]
    exact ⟨by rw [setRow_other _ _ _ _ hne]; exact (HA1.out.alloc _).out⟩)
  have HB2 : Hid (Below w.heap.size w w2) := Lib.hid (by rw [HW2.out]; exact below_row (HB1.out.alloc HB1.out.size _) _ _ HB1.out.size)
  clear HX HW2 HA1 HB1
  cases b
  · have HD : Hid (zD s = (Zn.zero, 12)) := Lib.hid (by unfold zD; rw [HZ.out]; rfl)
    go_wp2_with (refine wpList_store_at rfl 50 (.tmp 2) (.tmp 18) rfl w.heap.size Zn.zero.cells rfl rfl 50 Zn.zero.cells HA2.out size_zone rfl (zn_one _) ?_)
    intro w9 HW9
    have HA9 : Hid (At w9 w.heap.size Zn.zero.cells 50) := Lib.hid (by rw [HW9.out]; exact HA2.out.row)
    have HB9 : Hid (Below w.heap.size w w9) := Lib.hid (by rw [HW9.out]; exact below_row HB2.out _ _ (Nat.le_refl _))
    go_wp2_with fail
    refine bodyPost_ret (results_row_tmp rfl _ _ w.heap.size 50 Zn.zero.cells _ rfl HA9.out Tryz.underlying50 rfl size_zone) rfl ⟨by rw [HD.out]; rfl, HB9.out⟩
  · go_wp2_with (refine wpList_load_atG rfl 50 (.tmp 4) rfl w1.heap.size rfl 50 z.cells _ HX2.out Tryz.underlying50 rfl size_zone ?_)
    refine (zcheck_any z w2).mono ?_
    rintro e w3 ⟨rfl, hb⟩
    have HX3 := Lib.hid (HX2.out.below hb)
    have HA3 := Lib.hid (HA2.out.below hb)
    have HB3 := Lib.hid (HB2.out.trans (hb.mono HB2.out.size))
    clear hb HX2 HA2 HB2
    by_cases h0 : zchk z = 0
    · have HD : Hid (zD s = (z, 0)) := Lib.hid (by unfold zD; rw [HZ.out]; simp only [if_true, if_pos h0])
      rw [h0]
      go_wp2_with (first | (refine wpList_load_row rfl 50 (.tmp 4) rfl w1.heap.size rfl 50 z.cells (0, 0) _ HX3.out.out Tryz.underlying50 rfl size_zone ?_) | (refine wpList_store_at rfl 50 (.tmp 2) (.tmp 19) rfl w.heap.size z.cells rfl rfl 50 Zn.zero.cells HA3.out size_zone rfl (zn_one _) ?_))
      intro w9 HW9
      have HA9 : Hid (At w9 w.heap.size z.cells 50) := Lib.hid (by rw [HW9.out]; exact HA3.out.row)
      have HB9 : Hid (Below w.heap.size w w9) := Lib.hid (by rw [HW9.out]; exact below_row HB3.out _ _ (Nat.le_refl _))
      go_wp2_with fail
      refine bodyPost_ret (results_row_tmp rfl _ _ w.heap.size 50 z.cells _ rfl HA9.out Tryz.underlying50 rfl size_zone) rfl ⟨by rw [HD.out]; rfl, HB9.out⟩
    · have HD : Hid (zD s = (Zn.zero, 12)) := Lib.hid (by unfold zD; rw [HZ.out]; simp only [if_true, if_neg h0])
      have d1 : (zchk z != 0) = true := bne_iff_ne.2 h0
      clear h0
      go_wp2_with (refine wpList_store_at rfl 50 (.tmp 2) (.tmp 18) rfl w.heap.size Zn.zero.cells rfl rfl 50 Zn.zero.cells HA3.out size_zone rfl (zn_one _) ?_)
      intro w9 HW9
      have HA9 : Hid (At w9 w.heap.size Zn.zero.cells 50) := Lib.hid (by rw [HW9.out]; exact HA3.out.row)
      have HB9 : Hid (Below w.heap.size w w9) := Lib.hid (by rw [HW9.out]; exact below_row HB3.out _ _ (Nat.le_refl _))
      go_wp2_with fail
      refine bodyPost_ret (results_row_tmp rfl _ _ w.heap.size 50 Zn.zero.cells _ rfl HA9.out Tryz.underlying50 rfl size_zone) rfl ⟨by rw [HD.out]; rfl, HB9.out⟩
end Go.Proofs.YtoojpfcnekpboaaGreat
