/- The parser's walks: the classes of bytes, where. -/
import Derived.Test.YtheblleadjbndaaPa
import Derived.Test.YtheblleadjbndaaSpec
namespace Go.Proofs.Ytheblleadjbndaa
open Go.RowKit

set_option maxHeartbeats 400000 in
theorem isDigit_any (c : UInt8) (w : World) : Calls Try.prog 77 #[.int .u8 c.toNat] w fun e w' => e = .returned (.bool (digB c)) ∧ w' = w := by
  have h : c.toNat ≤ 47 ∨ (48 ≤ c.toNat ∧ c.toNat ≤ 57) ∨ 58 ≤ c.toNat := by omega
  have HB : Hid (digB c = decide (48 ≤ c.toNat ∧ c.toNat ≤ 57)) := Lib.hid (by unfold digB; simp)
  rcases h with h | ⟨h, h2⟩ | h
  all_goals
    go_enter Try.func77, Try.ntmps77
    go_wp2_with fail
    go_ret
    exact ⟨ret_bool (by rw [HB.out]; rw [Bool.eq_iff_iff]; first | (simp; done) | (simp; omega)), rfl⟩

set_option maxHeartbeats 400000 in
theorem isLetter_any (c : UInt8) (w : World) : Calls Try.prog 79 #[.int .u8 c.toNat] w fun e w' => e = .returned (.bool (letB c)) ∧ w' = w := by
  have h : c.toNat ≤ 64 ∨ (65 ≤ c.toNat ∧ c.toNat ≤ 90) ∨ (91 ≤ c.toNat ∧ c.toNat ≤ 96) ∨ (97 ≤ c.toNat ∧ c.toNat ≤ 122) ∨ 123 ≤ c.toNat := by omega
  have HB : Hid (letB c = decide ((97 ≤ c.toNat ∧ c.toNat ≤ 122) ∨ (65 ≤ c.toNat ∧ c.toNat ≤ 90))) := Lib.hid (by unfold letB; simp)
  rcases h with h | ⟨h, h2⟩ | ⟨h, h2⟩ | ⟨h, h2⟩ | h
  all_goals
    go_enter Try.func79, Try.ntmps79
    go_wp2_with fail
    go_ret
    exact ⟨ret_bool (by rw [HB.out]; rw [Bool.eq_iff_iff]; first | (simp; done) | (simp; omega)), rfl⟩

set_option maxHeartbeats 400000 in
theorem word_any (c : UInt8) (w : World) : Calls Try.prog 78 #[.int .u8 c.toNat] w fun e w' => e = .returned (.bool (wordB c)) ∧ w' = w := by
  have HB : Hid (wordB c = ((letB c || digB c) || decide (c.toNat = 95))) := Lib.hid rfl
  rcases h1 : letB c
  · rcases h2 : digB c
    · by_cases h3 : c.toNat = 95
      · have d1 : ((c.toNat : Int) == 95) = true := by rw [h3]; rfl
        rw [h1, h2] at HB
        have H1 := Lib.hid h1
        have H2 := Lib.hid h2
        have H3 := Lib.hid h3
        clear h1 h2 h3
        go_enter Try.func78, Try.ntmps78
        go_wp2_with fail
        refine (isLetter_any _ _).mono ?_
        rintro e w' ⟨rfl, rfl⟩
        rw [H1.out]
        go_wp2_with fail
        refine (isDigit_any _ _).mono ?_
        rintro e w' ⟨rfl, rfl⟩
        rw [H2.out]
        go_wp2_with fail
        go_ret
        exact ⟨ret_bool (by rw [HB.out, H3.out]; rfl), rfl⟩
      · have d1 : ((c.toNat : Int) == 95) = false := by rw [beq_eq_false_iff_ne]; omega
        rw [h1, h2] at HB
        have H1 := Lib.hid h1
        have H2 := Lib.hid h2
        have H3 := Lib.hid h3
        clear h1 h2 h3
        go_enter Try.func78, Try.ntmps78
        go_wp2_with fail
        refine (isLetter_any _ _).mono ?_
        rintro e w' ⟨rfl, rfl⟩
        rw [H1.out]
        go_wp2_with fail
        refine (isDigit_any _ _).mono ?_
        rintro e w' ⟨rfl, rfl⟩
        rw [H2.out]
        go_wp2_with fail
        go_ret
        exact ⟨ret_bool (by rw [HB.out]; simp [H3.out]), rfl⟩
    · rw [h1, h2] at HB
      have H1 := Lib.hid h1
      have H2 := Lib.hid h2
      clear h1 h2
      go_enter Try.func78, Try.ntmps78
      go_wp2_with fail
      refine (isLetter_any _ _).mono ?_
      rintro e w' ⟨rfl, rfl⟩
      rw [H1.out]
      go_wp2_with fail
      refine (isDigit_any _ _).mono ?_
      rintro e w' ⟨rfl, rfl⟩
      rw [H2.out]
      go_wp2_with fail
      go_ret
      exact ⟨ret_bool (by rw [HB.out]; rfl), rfl⟩
  · rw [h1] at HB
    have H1 := Lib.hid h1
    clear h1
    go_enter Try.func78, Try.ntmps78
    go_wp2_with fail
    refine (isLetter_any _ _).mono ?_
    rintro e w' ⟨rfl, rfl⟩
    rw [H1.out]
    go_wp2_with fail
    go_ret
    exact ⟨ret_bool (by rw [HB.out]; simp), rfl⟩
theorem all_any (c : UInt8) (w : World) : Calls Try.prog 71 #[.int .u8 c.toNat] w fun e w' => e = .returned (.bool true) ∧ w' = w := by
  go_enter Try.func71, Try.ntmps71
  go_wp2_with fail
  go_ret
  exact ⟨rfl, rfl⟩

/-- An array of 256 bools, the first k of them filled. -/
def btab (f : UInt8 → Bool) (k : Nat) : Array Value := Array.ofFn (n := 256) fun i => .bool (if i.val < k then f (UInt8.ofNat i.val) else false)
theorem btab_size (f : UInt8 → Bool) (k : Nat) : (btab f k).size = 256 := by simp [btab]
theorem btab_get (f : UInt8 → Bool) (k i : Nat) (h : i < 256) : (btab f k)[i]? = some (.bool (if i < k then f (UInt8.ofNat i) else false)) := by
  unfold btab
  rw [Array.getElem?_ofFn, dif_pos h]
theorem btab_set (f : UInt8 → Bool) (k : Nat) (h : k < 256) : (btab f k).setIfInBounds k (.bool (f (UInt8.ofNat k))) = btab f (k + 1) := by
  apply Array.ext_getElem?
  intro i
  rw [Array.getElem?_setIfInBounds]
  by_cases e : k = i
  · subst e
    rw [if_pos rfl, if_pos (by rw [btab_size]; exact h), btab_get f _ k h, if_pos (by omega)]
  · rw [if_neg e]
    by_cases hi : i < 256
    · rw [btab_get f _ i hi, btab_get f _ i hi]
      by_cases h2 : i < k
      · rw [if_pos h2, if_pos (by omega)]
      · rw [if_neg h2, if_neg (by omega)]
    · rw [Array.getElem?_eq_none (by rw [btab_size]; omega), Array.getElem?_eq_none (by rw [btab_size]; omega)]
theorem btab_zero (f : UInt8 → Bool) : btab f 0 = Array.replicate 256 (.bool false) := by
  apply Array.ext_getElem?
  intro i
  by_cases h : i < 256
  · rw [btab_get f 0 i h, if_neg (by omega), Array.getElem?_replicate, if_pos h]
  · rw [Array.getElem?_eq_none (by rw [btab_size]; omega), Array.getElem?_eq_none (by simp; omega)]
attribute [irreducible] btab

theorem zero_class : Try.zeroCells102 = Array.replicate 256 (.bool false) := by kernel_rfl
set_option maxRecDepth 100000 in
set_option maxHeartbeats 400000 in
theorem where_any (k : Nat) (f : UInt8 → Bool) (w : World) (hcf : ∀ (c : Int) w1, (callFunc k #[.int .u8 c]).run Try.prog w1 = .ok (.enter k #[.int .u8 c]) w1) (hf : ∀ (c : UInt8) w1, Calls Try.prog k #[.int .u8 c.toNat] w1 fun e w' => e = .returned (.bool (f c)) ∧ w' = w1) :
    Calls Try.prog 70 #[.func (.func k) #[] #[]] w fun e w' => e = .returned (.pointer (some ⟨w.heap.size, 0, none⟩)) ∧ Below w.heap.size w w' ∧ At w' w.heap.size (btab f 256) 102 := by
  go_enter Try.func70, Try.ntmps70
  go_wp2_with fail
  go_loopw [5] (fun i wr => ∃ j : Nat, j ≤ 256 ∧ i = .int .i64 j ∧ At wr w.heap.size (btab f j) 102 ∧ Below w.heap.size w wr) (fun i _ => 256 - (intOf i).toNat)
  case atStart =>
    refine ⟨0, Nat.zero_le _, rfl, ?_, (Below.refl _ _).alloc (Nat.le_refl _) _⟩
    rw [btab_zero, ← zero_class]
    exact At.new w _ _
  case round =>
    obtain ⟨j, hj, rfl, hat, hbl⟩ := hrel
    by_cases hlt : j < 256
    · have hc : (UInt8.ofNat j).toNat = j := by rw [UInt8.toNat_ofNat']; omega
      have HC := Lib.hid hc
      have g0 := hat.cell j
      rw [btab_get f j j hlt, if_neg (Nat.lt_irrefl _)] at g0
      have g1 := hat.free j
      have HS := Lib.hid (btab_set f j hlt)
      have HA := Lib.hid (hat.set j (.bool (f (UInt8.ofNat j))))
      have HF := Lib.hid (hf (UInt8.ofNat j))
      have HL := Lib.hid hlt
      clear hc
      clear hf

      go_wp2_with fail
      rw [show (j : Int) = ((UInt8.ofNat j).toNat : Int) by rw [HC.out]]
      refine (HF.out wr).mono ?_
      rintro e w' ⟨rfl, rfl⟩
      rw [HC.out]
      go_wp2_with fail
      go_roundw
      case rel => exact ⟨j + 1, by omega, by go_num, by rw [← HS.out]; exact HA.out, hbl.setCell (Nat.le_refl _) _⟩
      case measure => simp [intOf]; omega
    · obtain rfl : j = 256 := by omega
      go_wp2_with fail
      go_ret
      exact ⟨rfl, hbl, hat⟩

theorem enter_f (k : Nat) (c : Int) (w1 : World) (hk : k = 77 ∨ k = 78 ∨ k = 71) : (callFunc k #[.int .u8 c]).run Try.prog w1 = .ok (.enter k #[.int .u8 c]) w1 := by
  rcases hk with rfl | rfl | rfl <;> kernel_rfl
end Go.Proofs.Ytheblleadjbndaa
