/- Walks: the parser of matchers (the program's): skip. Walks: the parser of matchers (the program's): kind, value. -/
import Derived.Test.YthckgmbadmilfaaGreatMBS
import Derived.Laws.EntriesVeiled
import Derived.Deep.QuietTactic
import Derived.BigQuiet
namespace Go.Proofs.YthckgmbadmilfaaGreat
open Go.RowKit

/-- The letters from k to j. -/
def TW7 (s : ByteArray) (k j : Nat) : Prop := ((bs s).drop k).takeWhile letB5 = bs (s.extract k j) ++ ((bs s).drop j).takeWhile letB5 ∧ ((bs s).drop k).dropWhile letB5 = ((bs s).drop j).dropWhile letB5
theorem TW7.start (s : ByteArray) (k : Nat) : TW7 s k k := by
  refine ⟨?_, rfl⟩
  rw [bs_ext, Nat.sub_self]
  simp
theorem ext_snoc7 (s : ByteArray) (k j : Nat) (h1 : k ≤ j) (h2 : j < s.size) : bs (s.extract k (j + 1)) = bs (s.extract k j) ++ [s[j]] := by
  rw [bs_ext, bs_ext, show j + 1 - k = (j - k) + 1 by omega, List.take_succ_eq_append_getElem (by rw [List.length_drop, bs_length]; omega)]
  congr 2
  rw [List.getElem_drop]
  have : k + (j - k) = j := by omega
  simp only [this]
  rfl
theorem TW7.step {s : ByteArray} {k j : Nat} (h : TW7 s k j) (h1 : k ≤ j) (h2 : j < s.size) (hc : letB5 s[j] = true) : TW7 s k (j + 1) := by
  obtain ⟨h3, h4⟩ := h
  refine ⟨?_, ?_⟩
  · rw [h3, ext_snoc7 s k j h1 h2, drop_byte h2, List.takeWhile_cons_of_pos hc]
    simp
  · rw [h4, drop_byte h2, List.dropWhile_cons_of_pos hc]
theorem TW7.stop {s : ByteArray} {k j : Nat} (h : TW7 s k j) (h2 : ∀ h : j < s.size, letB5 s[j] = false) : ((bs s).drop k).takeWhile letB5 = bs (s.extract k j) ∧ ((bs s).drop k).dropWhile letB5 = (bs s).drop j := by
  obtain ⟨h3, h4⟩ := h
  by_cases hj : j < s.size
  · have hc := h2 hj
    rw [h3, h4, drop_byte hj, List.takeWhile_cons_of_neg (by rw [hc]; decide), List.dropWhile_cons_of_neg (by rw [hc]; decide), List.append_nil]
    exact ⟨rfl, rfl⟩
  · rw [h3, h4, drop_end (by omega)]
    simp
theorem unq_len7 (l : List UInt8) (p : List UInt8 × Nat) (h : unqL l = some p) : 0 < p.2 ∧ p.2 ≤ l.length := by
  obtain ⟨t, h1, h2⟩ := unqL_some _ l (Nat.le_refl _) p.1 p.2 h
  rw [h1, h2]
  simp

/-- The parser in block p reads the string s and stands at i. -/
structure QS (w : World) (p : Nat) (s : ByteArray) (i : Nat) : Prop where
  le : i ≤ s.size
  at_ : At w p #[.string s, .int .i64 (i : Int)] 54
def begB (s t : ByteArray) (i : Nat) : Bool := (bs t).isPrefixOf ((bs s).drop i)
theorem begB_fit {s t : ByteArray} {i : Nat} (h : begB s t i = true) : (bs s).drop i = bs t ++ (bs s).drop (i + t.size) ∧ (i ≤ s.size → i + t.size ≤ s.size) := by
  obtain ⟨r, hr⟩ := List.isPrefixOf_iff_prefix.1 h
  have h1 : (bs s).drop (i + t.size) = r := by
    rw [← List.drop_drop, ← hr, ← bs_length t]
    simp
  have h2 := congrArg List.length hr
  rw [List.length_append, List.length_drop, bs_length, bs_length] at h2
  exact ⟨by rw [h1, hr], fun _ => by omega⟩
theorem begB_ext (s t : ByteArray) (i : Nat) : Lib.hasPrefix (s.extract i s.size).data.toList t.data.toList = begB s t i := by
  show (bs t).isPrefixOf (bs (s.extract i s.size)) = _
  rw [bs_ext]
  unfold begB
  rw [List.take_of_length_le (by rw [List.length_drop, bs_length]; omega)]
theorem QS.keep {w w1 : World} {p : Nat} {s : ByteArray} {i : Nat} (h : QS w p s i) (h1 : Below w.heap.size w w1) : QS w1 p s i := ⟨h.le, h.at_.below h1⟩
theorem QS.drewN {w : World} {p : Nat} {s : ByteArray} {i : Nat} (h : QS w p s i) (n : Nat) : QS (w.drewN n) p s i := h.keep (bN (Below.refl _ _) n)
set_option maxRecDepth 100000 in
set_option maxHeartbeats 1000000 in
theorem mskip_any (p : Nat) (s t : ByteArray) (i : Nat) (w : World) (h : QS w p s i) (hs : s.size ≤ 1000000) (ht : t.size ≤ 1000) :
    Calls Tryz.prog 67 #[.pointer (some ⟨p, 0, none⟩), .string t] w fun e w' => e = .returned (.bool (begB s t i)) ∧ Keep p w w' ∧ QS w' p s (if begB s t i = true then i + t.size else i) := by
  have c0 : w.cell? ⟨p, 0, none⟩ = some (.string s) := h.at_.cell 0
  have c1 : w.cell? ⟨p, 1, none⟩ = some (.int .i64 (i : Int)) := h.at_.cell 1
  have f1 : w.frozen? ⟨p, 1, none⟩ = false := h.at_.free 1
  have HH := Lib.hid h
  have hle := h.le
  have hle2 : (i : Int) ≤ (s.size : Int) := by omega
  have hsz : (s.size : Int) ≤ 1000000 := by omega
  have htz : (t.size : Int) ≤ 1000 := by omega
  have HB := Lib.hid (fun hb : begB s t i = true => (begB_fit hb).2 h.le)
  have HP : Hid (∀ W, Calls Tryz.prog 99 #[.string (s.extract i s.size), .string t] W fun e w' => e = .returned (.bool (begB s t i)) ∧ w' = W) := Lib.hid (fun W => by rw [← begB_ext]; exact Tryz.strings_HasPrefix (s.extract i s.size) t W)
  clear h
  rcases hb : begB s t i with _ | _
  · rw [hb] at HP
    go_enter Tryz.func67, Tryz.ntmps67
    go_wp2_with fail
    go_quiet ((go_at_call 99; exact Calls.quiet_of_same (HP.out _)))
    go_wp2_with fail
    go_ret
    exact ⟨rfl, (Keep.refl _ _).drewN _, HH.out.drewN _⟩
  · rw [hb] at HP
    have hfit := HB.out hb
    go_enter Tryz.func67, Tryz.ntmps67
    go_wp2_with fail
    go_quiet ((go_at_call 99; exact Calls.quiet_of_same (HP.out _)))
    go_wp2_with fail
    go_ret
    exact ⟨rfl, ((Keep.refl _ _).drewN _).set _ _, hfit, (HH.out.drewN _).at_.set 1 _⟩
set_option maxHeartbeats 1000000 in
theorem isNameByteM_any (c : UInt8) (w : World) : Calls Tryz.prog 134 #[.int .u8 c.toNat] w fun e w' => e = .returned (.bool (letB5 c)) ∧ w' = w := by
  have HB : Hid (letB5 c = decide ((97 ≤ c.toNat ∧ c.toNat ≤ 122) ∨ (65 ≤ c.toNat ∧ c.toNat ≤ 90) ∨ (48 ≤ c.toNat ∧ c.toNat ≤ 57) ∨ c.toNat = 95)) := Lib.hid rfl
  have h := byte_cases c
  rcases h with h | ⟨h, h2⟩ | ⟨h, h2⟩ | ⟨h, h2⟩ | ⟨h, h2⟩ | h | h | ⟨h, h2⟩ | h
  all_goals
    go_enter Tryz.func134, Tryz.ntmps134
    go_wp2_with fail
    go_ret
    exact ⟨ret_bool (by rw [HB.out]; rw [Bool.eq_iff_iff]; first | (simp; done) | (simp; omega)), rfl⟩

theorem QS.lt {w : World} {p : Nat} {s : ByteArray} {i : Nat} (h : QS w p s i) : p < w.heap.size := h.at_.lt
set_option maxRecDepth 100000 in
set_option maxHeartbeats 4000000 in
theorem mname_any (p : Nat) (s : ByteArray) (i : Nat) (w : World) (h : QS w p s i) (hs : s.size ≤ 1000000) :
    Calls Tryz.prog 100 #[.pointer (some ⟨p, 0, none⟩)] w fun e w' => ∃ j, e = .returned (.string (s.extract i j)) ∧ i ≤ j ∧ QS w' p s j ∧ Keep p w w' ∧ ((bs s).drop i).takeWhile letB5 = bs (s.extract i j) ∧ ((bs s).drop i).dropWhile letB5 = (bs s).drop j := by
  have c1 : w.cell? ⟨p, 1, none⟩ = some (.int .i64 (i : Int)) := h.at_.cell 1
  have HH := Lib.hid h
  have hle := h.le
  have HSZ := Lib.hid hs
  clear h
  go_enter Tryz.func100, Tryz.ntmps100
  go_wp2_with fail
  clear c1
  go_loopw [] (fun wr => ∃ j : Nat, i ≤ j ∧ Hid (TW7 s i j) ∧ Hid (QS wr p s j) ∧ Hid (Keep p w wr)) (fun wr => s.size - (intOf ((wr.cell? ⟨p, 1, none⟩).getD undef)).toNat)
  case atStart => exact ⟨i, Nat.le_refl _, Lib.hid (TW7.start s i), HH, Lib.hid (Keep.refl _ _)⟩
  case round =>
    obtain ⟨j, hij, HT, HQ, HK⟩ := hrel
    have hjs := HQ.out.le
    have c0 : wr.cell? ⟨p, 0, none⟩ = some (.string s) := HQ.out.at_.cell 0
    have c1 : wr.cell? ⟨p, 1, none⟩ = some (.int .i64 (j : Int)) := HQ.out.at_.cell 1
    have f1 : wr.frozen? ⟨p, 1, none⟩ = false := HQ.out.at_.free 1
    have hjm : (j : Int) ≤ 1000000 := by have := HSZ.out; omega
    by_cases hjl : j < s.size
    · have hj2 : (j : Int) < (s.size : Int) := by omega
      obtain ⟨c, hcx⟩ : ∃ c, s[j] = c := ⟨_, rfl⟩
      have HCX := Lib.hid hcx
      have HNB := Lib.hid (fun W => isNameByteM_any c W)
      rcases hlb : letB5 c with _ | _
      · have HST := Lib.hid (HT.out.stop (fun _ => by rw [HCX.out]; exact hlb))
        rw [hlb] at HNB
        clear hlb
        go_wp2_with fail
        go_quiet ((go_at_call 134; exact Calls.quiet_of_same (HNB.out _)))
        go_wp2_with fail
        go_quiet (fail)
        go_wp2_with fail
        go_ret
        exact ⟨j, rfl, hij, HQ.out.drewN _ |>.drewN _, (HK.out.drewN _).drewN _, HST.out.1, HST.out.2⟩
      · have HT2 := Lib.hid (HT.out.step hij hjl (by rw [HCX.out]; exact hlb))
        rw [hlb] at HNB
        clear hlb
        go_wp2_with fail
        go_quiet ((go_at_call 134; exact Calls.quiet_of_same (HNB.out _)))
        go_wp2_with fail
        have hat : At ((wr.drewN nq).setCell ⟨p, 1, none⟩ (.int .i64 ((j : Int) + 1))) p #[.string s, .int .i64 ((j + 1 : Nat) : Int)] 54 := (HQ.out.drewN nq).at_.set 1 _
        have hcell : ((wr.drewN nq).setCell ⟨p, 1, none⟩ (.int .i64 ((j : Int) + 1))).cell? ⟨p, 1, none⟩ = some (.int .i64 ((j + 1 : Nat) : Int)) := hat.cell 1
        refine ⟨⟨j + 1, by omega, HT2, Lib.hid ⟨hjl, hat⟩, Lib.hid ((HK.out.drewN nq).set _ _)⟩, ?_⟩
        rw [hcell, c1]
        simp [intOf]
        omega
    · have hj2 : ¬ (j : Int) < (s.size : Int) := by omega
      have HST := Lib.hid (HT.out.stop (fun h => absurd h hjl))
      go_wp2_with fail
      go_quiet (fail)
      go_wp2_with fail
      go_quiet (fail)
      go_wp2_with fail
      go_ret
      exact ⟨j, rfl, hij, HQ.out.drewN _ |>.drewN _, (HK.out.drewN _).drewN _, HST.out.1, HST.out.2⟩
end Go.Proofs.YthckgmbadmilfaaGreat

namespace Go.Proofs.YthckgmbadmilfaaGreat
open Go.RowKit

def sgn (k : Int) : ByteArray := str (opK k) ++ ⟨#[34]⟩
theorem bs_sgn (k : Int) : bs (sgn k) = opQ k := by
  unfold sgn opQ bs str
  simp [ByteArray.data_append]
theorem sgn_size (k : Int) : (sgn k).size ≤ 3 := by
  have := opK_len k
  rw [← bs_length, bs_sgn]
  unfold opQ
  simp
  omega
/-- What 'kind' tells. -/
def KndP (s : ByteArray) (i : Nat) (k : Int) (i' : Nat) : Prop := (k = 0 ∧ opM ((bs s).drop i) = none) ∨ (1 ≤ k ∧ k ≤ 4 ∧ opM ((bs s).drop i) = some (k, (bs s).drop i'))
theorem kndP_hit {s : ByteArray} {i : Nat} {k : Int} (h1 : 1 ≤ k) (h4 : k ≤ 4) (hn : ∀ k', 1 ≤ k' → k' < k → begB s (sgn k') i = false) (hy : begB s (sgn k) i = true) : KndP s i k (i + (sgn k).size) := by
  refine .inr ⟨h1, h4, ?_⟩
  have e : ∀ k', begB s (sgn k') i = (opQ k').isPrefixOf ((bs s).drop i) := fun k' => by unfold begB; rw [bs_sgn]
  rw [e] at hy
  have hn' := fun k' a b => (e k') ▸ hn k' a b
  have : k = 1 ∨ k = 2 ∨ k = 3 ∨ k = 4 := by omega
  unfold opM
  rcases this with rfl | rfl | rfl | rfl
  · rw [if_pos hy, List.drop_drop]; rfl
  · rw [if_neg (by rw [hn' 1 (by omega) (by omega)]; decide), if_pos hy, List.drop_drop]; rfl
  · rw [if_neg (by rw [hn' 1 (by omega) (by omega)]; decide), if_neg (by rw [hn' 2 (by omega) (by omega)]; decide), if_pos hy, List.drop_drop]; rfl
  · rw [if_neg (by rw [hn' 1 (by omega) (by omega)]; decide), if_neg (by rw [hn' 2 (by omega) (by omega)]; decide), if_neg (by rw [hn' 3 (by omega) (by omega)]; decide), if_pos hy, List.drop_drop]; rfl
theorem kndP_none {s : ByteArray} {i : Nat} (hn : ∀ k', 1 ≤ k' → k' < 5 → begB s (sgn k') i = false) : KndP s i 0 i := by
  refine .inl ⟨rfl, ?_⟩
  have e : ∀ k', begB s (sgn k') i = (opQ k').isPrefixOf ((bs s).drop i) := fun k' => by unfold begB; rw [bs_sgn]
  have hn' := fun k' a b => (e k') ▸ hn k' a b
  unfold opM
  rw [if_neg (by rw [hn' 1 (by omega) (by omega)]; decide), if_neg (by rw [hn' 2 (by omega) (by omega)]; decide), if_neg (by rw [hn' 3 (by omega) (by omega)]; decide), if_neg (by rw [hn' 4 (by omega) (by omega)]; decide)]
set_option maxRecDepth 100000 in
set_option maxHeartbeats 4000000 in
theorem mkind_any (p : Nat) (s : ByteArray) (i : Nat) (w : World) (h : QS w p s i) (hs : s.size ≤ 1000000) :
    Calls Tryz.prog 101 #[.pointer (some ⟨p, 0, none⟩)] w fun e w' => ∃ (k : Int) (j : Nat), e = .returned (.int .i64 k) ∧ i ≤ j ∧ QS w' p s j ∧ Keep p w w' ∧ KndP s i k j := by
  have HH := Lib.hid h
  clear h
  go_enter Tryz.func101, Tryz.ntmps101
  go_wp2_with fail
  go_loopw [3] (fun v wr => ∃ k : Int, 1 ≤ k ∧ k ≤ 5 ∧ v = .int .i64 k ∧ Hid (∀ k', 1 ≤ k' → k' < k → begB s (sgn k') i = false) ∧ Hid (QS wr p s i) ∧ Hid (Keep p w wr)) (fun v _ => (5 - intOf v).toNat)
  case atStart => exact ⟨1, by omega, by omega, rfl, Lib.hid (fun k' a b => by omega), HH, Lib.hid (Keep.refl _ _)⟩
  case round =>
    obtain ⟨k, h1, h5, rfl, HN, HQ, HK⟩ := hrel
    by_cases h4 : k ≤ 4
    · have HSK := Lib.hid (mskip_any p s (sgn k) i wr HQ.out hs (by have := sgn_size k; omega))
      have hok := opK_size k
      have HSG : Hid (sgn k = str (opK k) ++ ⟨#[34]⟩) := Lib.hid rfl
      rcases hb : begB s (sgn k) i with _ | _
      · rw [hb] at HSK
        have HN2 : Hid (∀ k', 1 ≤ k' → k' < k + 1 → begB s (sgn k') i = false) := Lib.hid (fun k' a b => by
          by_cases e : k' = k
          · rw [e]; exact hb
          · exact HN.out k' a (by omega))
        clear hb HN
        rw [HSG.out] at HSK
        go_wp2_with fail
        refine (opK_any k wr h1 h4).mono ?_
        rintro e w1 ⟨rfl, rfl⟩
        go_wp2_with fail
        refine HSK.out.mono ?_
        rintro e w2 ⟨rfl, hk2, hq2⟩
        have HQ2 : Hid (QS w2 p s i) := Lib.hid hq2
        have HK2 := Lib.hid (HK.out.trans hk2)
        clear hk2 hq2 HSK
        go_wp2_with fail
        refine ⟨⟨k + 1, by omega, by omega, rfl, HN2, HQ2, HK2⟩, by simp only [intOf]; omega⟩
      · have HKN := Lib.hid (kndP_hit h1 h4 HN.out hb)
        rw [hb, if_pos rfl] at HSK
        clear hb HN
        obtain ⟨j, hj⟩ : ∃ j, i + (sgn k).size = j := ⟨_, rfl⟩
        rw [hj] at HSK HKN
        have HIJ : Hid (i ≤ j) := Lib.hid (by omega)
        clear hj
        rw [HSG.out] at HSK
        go_wp2_with fail
        refine (opK_any k wr h1 h4).mono ?_
        rintro e w1 ⟨rfl, rfl⟩
        go_wp2_with fail
        refine HSK.out.mono ?_
        rintro e w2 ⟨rfl, hk2, hq2⟩
        have HQ2 := Lib.hid hq2
        have HK2 := Lib.hid (HK.out.trans hk2)
        clear hk2 hq2 HSK
        go_wp2_with fail
        go_ret
        exact ⟨k, j, rfl, HIJ.out, HQ2.out, HK2.out, HKN.out⟩
    · have hk : k = 5 := by omega
      subst hk
      have HKN := Lib.hid (kndP_none HN.out)
      clear HN
      go_wp2_with fail
      go_ret
      exact ⟨0, rfl, i, Nat.le_refl _, HQ.out, HK.out, HKN.out⟩
end Go.Proofs.YthckgmbadmilfaaGreat
