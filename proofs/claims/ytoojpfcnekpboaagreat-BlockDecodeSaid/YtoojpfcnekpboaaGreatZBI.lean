/- Walks: a quoted value that is read (the reference's). -/
import Derived.Test.YtoojpfcnekpboaaGreatZAZ
import Derived.Test.YtoojpfcnekpboaaGreatZAI
namespace Go.Proofs.YtoojpfcnekpboaaGreat
open Go.RowKit

/-- What 'value' answers. -/
def valV (s : ByteArray) (i : Nat) : Value := match unqL ((bs s).drop i) with
  | none => .tuple #[.string ⟨#[]⟩, .int .i64 0, .bool false]
  | some p => .tuple #[.string (str p.1), .int .i64 ((i + p.2 : Nat) : Int), .bool true]
/-- Where the reader stands: what it has, what is left. -/
def UR (s : ByteArray) (i : Nat) (acc : List UInt8) (k : Nat) : Prop := i ≤ k ∧ unqL ((bs s).drop i) = (unqL ((bs s).drop k)).map fun p => (acc ++ p.1, (k - i) + p.2)
theorem UR.start (s : ByteArray) (i : Nat) : UR s i [] i := by
  refine ⟨Nat.le_refl _, ?_⟩
  cases unqL ((bs s).drop i) <;> simp
theorem UR.no {s : ByteArray} {i k : Nat} {acc : List UInt8} (h : UR s i acc k) (hn : unqL ((bs s).drop k) = none) : valV s i = .tuple #[.string ⟨#[]⟩, .int .i64 0, .bool false] := by
  have h2 := h.2
  rw [hn] at h2
  unfold valV
  rw [h2]
  rfl
theorem UR.end_ {s : ByteArray} {i k : Nat} {acc : List UInt8} (h : UR s i acc k) (hk : s.size ≤ k) : valV s i = .tuple #[.string ⟨#[]⟩, .int .i64 0, .bool false] := h.no (by rw [drop_end hk]; rfl)
theorem UR.line {s : ByteArray} {i k : Nat} {acc : List UInt8} (h : UR s i acc k) (hk : k < s.size) (hb : s[k] = 10) : valV s i = .tuple #[.string ⟨#[]⟩, .int .i64 0, .bool false] := h.no (by rw [drop_byte hk, hb, unqL_line])
theorem UR.back_end {s : ByteArray} {i k : Nat} {acc : List UInt8} (h : UR s i acc k) (hk : k < s.size) (hb : s[k] = 92) (he : s.size ≤ k + 1) : valV s i = .tuple #[.string ⟨#[]⟩, .int .i64 0, .bool false] := h.no (by rw [drop_byte hk, hb, drop_end he, unqL_back_end])
theorem UR.back_no {s : ByteArray} {i k : Nat} {acc : List UInt8} (h : UR s i acc k) (hk : k < s.size) (hb : s[k] = 92) (he : k + 1 < s.size) (hu : unescB s[k + 1] = none) : valV s i = .tuple #[.string ⟨#[]⟩, .int .i64 0, .bool false] := h.no (by rw [drop_byte hk, hb, drop_byte he, unqL_back, hu]; rfl)
theorem UR.quote {s : ByteArray} {i k : Nat} {acc : List UInt8} (h : UR s i acc k) (hk : k < s.size) (hb : s[k] = 34) : valV s i = .tuple #[.string (str acc), .int .i64 ((k : Int) + 1), .bool true] := by
  obtain ⟨h1, h2⟩ := h
  rw [drop_byte hk, hb, unqL_quote] at h2
  unfold valV
  rw [h2]
  simp only [Option.map_some, List.append_nil]
  rw [show ((i + (k - i + 1) : Nat) : Int) = (k : Int) + 1 by omega]
theorem UR.back {s : ByteArray} {i k : Nat} {acc : List UInt8} (h : UR s i acc k) (hk : k < s.size) (hb : s[k] = 92) (he : k + 1 < s.size) {d : UInt8} (hu : unescB s[k + 1] = some d) : UR s i (acc ++ [d]) (k + 1 + 1) := by
  obtain ⟨h1, h2⟩ := h
  refine ⟨by omega, ?_⟩
  rw [h2, drop_byte hk, hb, drop_byte he, unqL_back, hu]
  cases unqL ((bs s).drop (k + 1 + 1)) <;> simp
  omega
theorem UR.other {s : ByteArray} {i k : Nat} {acc : List UInt8} (h : UR s i acc k) (hk : k < s.size) (h1 : s[k] ≠ 34) (h2 : s[k] ≠ 10) (h3 : s[k] ≠ 92) : UR s i (acc ++ [s[k]]) (k + 1) := by
  obtain ⟨h4, h5⟩ := h
  refine ⟨by omega, ?_⟩
  rw [h5, drop_byte hk, unqL_other _ _ h1 h2 h3]
  cases unqL ((bs s).drop (k + 1)) <;> simp
  omega

set_option maxRecDepth 100000 in
set_option maxHeartbeats 4000000 in
theorem valueR_any (s : ByteArray) (i : Nat) (hi : i ≤ s.size) (w : World) (hs : s.size ≤ 1000000) :
    Calls Tryz.prog 160 #[.string s, .int .i64 i] w fun e w' => e = .returned (valV s i) ∧ Below w.heap.size w w' := by
  have HS := Lib.hid hs
  have HS0 : Hid (BR w (some ⟨w.heap.size, 0, none⟩) 0 0 [] (w.alloc (.cells #[] 5))) := Lib.hid (BR.lit (Below.refl _ _) [] (by decide))
  clear hs
  go_enter Tryz.func160, Tryz.ntmps160
  go_wp2_with fail
  go_loopw [1, 7] (fun i1 v wr => ∃ (k : Nat) (A : Option Addr) (m c : Nat) (acc : List UInt8), k ≤ s.size ∧ i1 = .int .i64 k ∧ v = .slice A m c ∧ Hid (BR w A m c acc wr) ∧ Hid (UR s i acc k) ∧ Hid (acc.length ≤ k)) (fun i1 _ _ => s.size - (intOf i1).toNat)
  case atStart => exact ⟨i, _, 0, 0, [], hi, rfl, rfl, HS0, Lib.hid (UR.start s i), Lib.hid (Nat.zero_le _)⟩
  case round =>
    clear HS0
    obtain ⟨k, A, m, c, acc, hk, rfl, rfl, HBR, HU, HL⟩ := hrel
    have hkl : (k : Int) ≤ 1000000 := by have := HS.out; omega
    by_cases hlt : k < s.size
    · have hli : (k : Int) < (s.size : Int) := by omega
      obtain ⟨b, hb⟩ : ∃ b, s[k] = b := ⟨_, rfl⟩
      have HB := Lib.hid hb
      by_cases h34 : b = 34
      · subst h34
        have HR := Lib.hid (HU.out.quote hlt HB.out)
        have kc := HBR.out.str
        go_wp2_with fail
        go_ret3
        exact ⟨by rw [HR.out]; rfl, HBR.out.below⟩
      by_cases h10 : b = 10
      · subst h10
        have HR := Lib.hid (HU.out.line hlt HB.out)
        clear h34
        go_wp2_with fail
        go_ret3
        exact ⟨by rw [HR.out]; rfl, HBR.out.below⟩
      by_cases h92 : b = 92
      · subst h92
        clear h34 h10
        by_cases he : k + 1 < s.size
        · have hne : (k : Int) + 1 < (s.size : Int) := by omega
          have hng : ¬ (s.size : Int) ≤ (k : Int) + 1 := by omega
          obtain ⟨d, hd⟩ : ∃ d, s[k + 1] = d := ⟨_, rfl⟩
          have HD := Lib.hid hd
          by_cases g110 : d = 110
          · subst g110
            have HR := Lib.hid (HU.out.back hlt HB.out he (d := 10) (by rw [HD.out]; rfl))
            go_wp2_with (at_builtin; (refine wpList_bytes rfl (.tmp 57) (.tmp 58) rfl HBR.out [10] (by simp) rfl rfl (by have := HBR.out.len; have := HL.out; have := HS.out; simp; omega) ?_))
            intro A' n' c' l' w' HE hq hg2
            have HQ := Lib.hid hq
            clear hq hg2
            go_wp2_with fail
            go_roundw
            case rel => exact ⟨k + 1 + 1, A', n', c', l', he, by go_num, rfl, HQ, by rw [HE.out]; exact HR, Lib.hid (by rw [HE.out, List.length_append]; have := HL.out; simp; omega)⟩
            case measure => simp [intOf]; omega
          by_cases gq : d = 92 ∨ d = 34
          · have HR := Lib.hid (HU.out.back hlt HB.out he (d := d) (by rw [HD.out]; unfold unescB; rw [if_pos gq]))
            have d3 : ((d.toNat : Int) == 110) = false := byte_ne g110
            rcases gq with rfl | rfl
            all_goals
              clear g110
              go_wp2_with (at_builtin; (first | (refine wpList_bytes rfl (.tmp 62) (.tmp 66) rfl HBR.out [92] (by simp) rfl rfl (by have := HBR.out.len; have := HL.out; have := HS.out; simp; omega) ?_) | (refine wpList_bytes rfl (.tmp 62) (.tmp 66) rfl HBR.out [34] (by simp) rfl rfl (by have := HBR.out.len; have := HL.out; have := HS.out; simp; omega) ?_)))
              intro A' n' c' l' w' HE hq hg2
              have HQ := Lib.hid hq
              clear hq hg2
              go_wp2_with fail
              go_roundw
              case rel => exact ⟨k + 1 + 1, A', n', c', l', he, by go_num, rfl, HQ, by rw [HE.out]; exact HR, Lib.hid (by rw [HE.out, List.length_append]; have := HL.out; simp; omega)⟩
              case measure => simp [intOf]; omega
          · have d1 : ((d.toNat : Int) == 92) = false := byte_ne (fun e => gq (.inl e))
            have d2 : ((d.toNat : Int) == 34) = false := byte_ne (fun e => gq (.inr e))
            have d3 : ((d.toNat : Int) == 110) = false := byte_ne g110
            have HR := Lib.hid (HU.out.back_no hlt HB.out he (by rw [HD.out]; unfold unescB; rw [if_neg gq, if_neg g110]))
            have e1 : ((d.toNat : Int) != 92) = true := by unfold bne; rw [d1]; rfl
            have e2 : ((d.toNat : Int) != 34) = true := by unfold bne; rw [d2]; rfl
            have e3 : ((d.toNat : Int) != 110) = true := by unfold bne; rw [d3]; rfl
            clear gq g110 d1 d2 d3
            go_wp2_with fail
            go_ret3
            exact ⟨by rw [HR.out]; rfl, HBR.out.below⟩
        · have hng : (s.size : Int) ≤ (k : Int) + 1 := by omega
          have HR := Lib.hid (HU.out.back_end hlt HB.out (by omega))
          go_wp2_with fail
          go_ret3
          exact ⟨by rw [HR.out]; rfl, HBR.out.below⟩
      · have d1 : ((b.toNat : Int) == 92) = false := byte_ne h92
        have d2 : ((b.toNat : Int) == 34) = false := byte_ne h34
        have d3 : ((b.toNat : Int) == 10) = false := byte_ne h10
        have HR := Lib.hid (HU.out.other hlt (by rw [HB.out]; exact h34) (by rw [HB.out]; exact h10) (by rw [HB.out]; exact h92))
        rw [HB.out] at HR
        clear h92 h34 h10
        go_wp2_with (at_builtin; (refine wpList_bytes rfl (.tmp 62) (.tmp 66) rfl HBR.out [b] (by simp) rfl rfl (by have := HBR.out.len; have := HL.out; have := HS.out; simp; omega) ?_))
        intro A' n' c' l' w' HE hq hg2
        have HQ := Lib.hid hq
        clear hq hg2
        go_wp2_with fail
        go_roundw
        case rel => exact ⟨k + 1, A', n', c', l', hlt, by go_num, rfl, HQ, by rw [HE.out]; exact HR, Lib.hid (by rw [HE.out, List.length_append]; have := HL.out; simp; omega)⟩
        case measure => simp [intOf]; omega
    · have hng : ¬ (k : Int) < (s.size : Int) := by omega
      have HR := Lib.hid (HU.out.end_ (by omega))
      go_wp2_with fail
      go_ret3
      exact ⟨by rw [HR.out]; rfl, HBR.out.below⟩
end Go.Proofs.YtoojpfcnekpboaaGreat
