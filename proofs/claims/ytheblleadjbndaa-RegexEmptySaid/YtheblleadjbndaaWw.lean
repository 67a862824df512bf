/- Words that the walks of the laws use. -/
import Derived.Test.YtheblleadjbndaaGd
import Derived.Test.YtheblleadjbndaaGe
import Derived.Test.YtheblleadjbndaaLawC
import Derived.Deep.DeepCutAuto
namespace Go.Proofs.Ytheblleadjbndaa
open Go.RowKit Rx
theorem bs_app (a b : ByteArray) : bs (a ++ b) = bs a ++ bs b := by simp [bs, ByteArray.data_append]
theorem ne_int {n : Nat} (h : n ≠ 0) : ((n : Int) != 0) = true := by rw [bne_iff_ne]; omega
theorem great_small {s : ByteArray} {ps : List ByteArray} (h : greatR s ps = false) : s.size ≤ 40 ∧ ∀ p ∈ ps, p.size ≤ 210 := by
  unfold greatR at h
  rw [Bool.or_eq_false_iff, List.any_eq_false, decide_eq_false_iff_not] at h
  exact ⟨by omega, fun p hp => by have := h.1 p hp; simpa using this⟩
def eitherB (p q : ByteArray) : ByteArray := (⟨#[40]⟩ : ByteArray) ++ p ++ ⟨#[41, 124, 40]⟩ ++ q ++ ⟨#[41]⟩
def optB (p : ByteArray) : ByteArray := (⟨#[40]⟩ : ByteArray) ++ p ++ ⟨#[41, 63]⟩
theorem bs_either (p q : ByteArray) : bs (eitherB p q) = eitherS (bs p) (bs q) := by simp [eitherB, eitherS, bs]
theorem bs_opt (p : ByteArray) : bs (optB p) = quantS (bs p) 63 := by simp [optB, quantS, bs]
theorem bs_concat (p q : ByteArray) : bs (({ data := #[40] } : ByteArray) ++ p ++ { data := #[41, 40] } ++ q ++ { data := #[41] }) = concatS (bs p) (bs q) := by simp [concatS, bs]
theorem bs_quant (p : ByteArray) (c : UInt8) : bs (({ data := #[40] } : ByteArray) ++ p ++ { data := #[41, c] }) = quantS (bs p) c := by simp [quantS, bs]
theorem bs_part (s : ByteArray) (i k : Nat) : bs (s.extract i k) = seg (bs s) i k := by
  unfold bs seg
  rw [ByteArray.data_extract, Array.toList_extract, List.extract_eq_take_drop]
  rw [List.drop_take]
theorem bs_to (s : ByteArray) (k : Nat) : bs (s.extract 0 k) = (bs s).take k := by
  rw [bs_part]; simp [seg]
theorem bs_from (s : ByteArray) (k : Nat) : bs (s.extract k s.size) = (bs s).drop k := by
  rw [bs_part]
  unfold seg
  rw [List.take_of_length_le (by rw [bs_length]; exact Nat.le_refl _)]
theorem part_small {s : ByteArray} (i k : Nat) (h : s.size ≤ 40) : (s.extract i k).size ≤ 40000 := by
  rw [ByteArray.size_extract]; omega
theorem below_step {W w w' : World} (h : Below W.heap.size W w) (hb : Below w.heap.size w w') : Below W.heap.size W w' := h.trans (hb.mono h.size)
theorem below_stepD {W w w' : World} (h : Below W.heap.size W w) (hb : Below w.drew.heap.size w.drew w') : Below W.heap.size W w' := below_step h (bD hb)
/-- What Find gives, and what the law of the leftmost longest match wants of it. -/
theorem find_tells (p s : ByteArray) : ∃ (is : Bool) (f e : Nat), foundV (findR (bs p) (bs s)) = .tuple #[.agg #[.int .i64 f, .int .i64 e], .bool is] ∧ (is = true → f ≤ e ∧ e ≤ s.size ∧ matchR (bs p) (seg (bs s) f e) = true) ∧
    ∀ i k : Nat, i ≤ k → k ≤ s.size → (is = false ∨ i < f ∨ (i = f ∧ e < k)) → matchR (bs p) (seg (bs s) i k) = false := by
  rcases h : findR (bs p) (bs s) with _ | ⟨f, e⟩
  · exact ⟨false, 0, 0, rfl, fun h => (by cases h), fun i k h1 h2 _ => find_none h i k h1 h2⟩
  · have h1 := find_some h
    refine ⟨true, f, e, rfl, fun _ => ⟨h1.1, h1.2.1, h1.2.2.1⟩, fun i k h2 h3 h4 => ?_⟩
    rcases hm : matchR (bs p) (seg (bs s) i k) with _ | _
    · rfl
    · have h5 := h1.2.2.2 i k h2 h3 hm
      rcases h4 with h4 | h4 | h4
      · cases h4
      · omega
      · omega
theorem pre_len : ∀ s : Ss, (pre s).1.length ≤ szS s := by
  intro s
  induction s using Ss.rec (motive_1 := fun _ => True) (motive_3 := fun _ => True) with
  | nil => exact Nat.le_refl _
  | cons u s _ ih => rcases u with c | f | a | u | u | u <;> simp only [pre, szS, szU, List.length_cons, List.length_nil] <;> omega
  | _ => trivial
theorem pref_len (p : List UInt8) : (prefR p).1.length ≤ 200 := by
  unfold prefR
  rcases h : parse p with _ | a
  · simp
  · rcases a with s | ⟨s, a⟩
    · have h1 := parse_sz h
      have h2 := pre_len s
      simp only [szA] at h1
      simp only
      omega
    · simp
end Go.Proofs.Ytheblleadjbndaa
