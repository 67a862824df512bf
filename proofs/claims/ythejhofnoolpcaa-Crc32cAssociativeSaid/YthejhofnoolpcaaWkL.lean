/- The walk of the reference's Open, and of awake. -/
import Derived.Test.YthejhofnoolpcaaWkK
namespace Go.Proofs.Ythejhofnoolpcaa
open Go.RowKit Crc

theorem body_tail (s : ByteArray) : bs s = bs (body s) ++ bs (tail4 s) := by
  unfold bs body tail4
  rw [ByteArray.data_extract, ByteArray.data_extract, Array.toList_extract, Array.toList_extract]
  rw [List.extract_eq_take_drop, List.extract_eq_take_drop, Nat.sub_zero, List.drop_zero]
  have h : (s.data.toList.drop (s.size - 4)).length ≤ s.size - (s.size - 4) := by
    rw [List.length_drop]; exact Nat.le_refl _
  rw [List.take_of_length_le h, List.take_append_drop]
theorem tail4_len (s : ByteArray) (h : 4 ≤ s.size) : (bs (tail4 s)).length = 4 := by
  rw [bs_length]; unfold tail4; rw [ByteArray.size_extract]; omega
theorem whole_iff (s : ByteArray) : Whole s ↔ str (bs (body s) ++ ending (sum (bs (body s)))) = s := by
  unfold Whole
  constructor
  · intro e
    have := body_tail s
    rw [e, bs_str] at this
    rw [← this]
    exact str_bs s
  · intro e
    have h1 := congrArg bs e
    rw [bs_str, body_tail s] at h1
    have h2 := List.append_cancel_left h1
    rw [h2]
    rfl

set_option maxHeartbeats 400000 in
theorem openR_short (s : ByteArray) (h4 : s.size < 4) (w : World) :
    Calls Try.prog 20 #[.string s] w fun e w' => e = .returned (.tuple #[.string ⟨#[]⟩, .int .i64 11]) ∧ Below w.heap.size w w' := by
  go_enter Try.func20, Try.ntmps20
  go_wp2_with fail
  go_ret2
  exact ⟨rfl, Below.refl _ _⟩

set_option maxHeartbeats 400000 in
theorem openR_good (s : ByteArray) (hs : s.size ≤ 100000) (h4 : 4 ≤ s.size) (hg : Whole s) (w : World) :
    Calls Try.prog 20 #[.string s] w fun e w' => e = .returned (.tuple #[.string (body s), .int .i64 0]) ∧ Below w.heap.size w w' := by
  have d1 := same ((whole_iff s).1 hg)
  have htl := body_size s
  have HC := fun W => Lib.hid (sealR_any (body s) (by omega) W)
  clear htl hg
  go_enter Try.func20, Try.ntmps20
  go_wp2_with fail
  have h0 : s.extract 0 (s.size - 4) = body s := rfl
  rw [h0]
  clear h0
  refine ((HC _).out).mono ?_
  rintro e w1 ⟨rfl, hb⟩
  go_wp2_with fail
  go_ret2
  exact ⟨rfl, hb⟩

set_option maxHeartbeats 400000 in
theorem openR_bad (s : ByteArray) (hs : s.size ≤ 100000) (h4 : 4 ≤ s.size) (hg : ¬ Whole s) (w : World) :
    Calls Try.prog 20 #[.string s] w fun e w' => e = .returned (.tuple #[.string ⟨#[]⟩, .int .i64 13]) ∧ Below w.heap.size w w' := by
  have d1 := differ (fun e => hg ((whole_iff s).2 e))
  have htl := body_size s
  have HC := fun W => Lib.hid (sealR_any (body s) (by omega) W)
  clear htl hg
  go_enter Try.func20, Try.ntmps20
  go_wp2_with fail
  have h0 : s.extract 0 (s.size - 4) = body s := rfl
  rw [h0]
  clear h0
  refine ((HC _).out).mono ?_
  rintro e w1 ⟨rfl, hb⟩
  go_wp2_with fail
  go_ret2
  exact ⟨rfl, hb⟩

/-! ### The example of the chapter -/
theorem val_sum0 : u (sum (bs ⟨#[]⟩)) = 0 := by decide +kernel
theorem val_sum9 : u (sum (bs ⟨#[49, 50, 51, 52, 53, 54, 55, 56, 57]⟩)) = 3808858755 := by decide +kernel
theorem val_seal : str (bs ⟨#[]⟩ ++ ending (sum (bs ⟨#[]⟩))) = ⟨#[0, 0, 0, 0]⟩ := by decide +kernel
theorem val_whole : Whole ⟨#[49, 50, 51, 52, 53, 54, 55, 56, 57, 131, 146, 6, 227]⟩ := by unfold Whole; decide +kernel
theorem val_body : body ⟨#[49, 50, 51, 52, 53, 54, 55, 56, 57, 131, 146, 6, 227]⟩ = ⟨#[49, 50, 51, 52, 53, 54, 55, 56, 57]⟩ := by decide +kernel
theorem val_comb : u (comb (BitVec.ofNat 32 3808858755) 0#32 0) = 3808858755 := by decide +kernel
theorem aw_open (w : World) : Calls Try.prog 19 #[.string ⟨#[49, 50, 51, 52, 53, 54, 55, 56, 57, 131, 146, 6, 227]⟩] w fun e w' => e = .returned (.tuple #[.string ⟨#[49, 50, 51, 52, 53, 54, 55, 56, 57]⟩, .int .i64 0]) ∧ Below w.heap.size w w' := by
  have := open_good ⟨#[49, 50, 51, 52, 53, 54, 55, 56, 57, 131, 146, 6, 227]⟩ (by decide) (by decide) val_whole w
  rw [val_body] at this
  exact this
theorem aw_sum0 (w : World) : Calls Try.prog 12 #[.string ⟨#[]⟩] w fun e w' => e = .returned (.int .u32 0) ∧ Below w.heap.size w w' := by
  have := sum_any ⟨#[]⟩ (by decide) w
  rw [val_sum0] at this
  exact this
theorem aw_sum9 (w : World) : Calls Try.prog 12 #[.string ⟨#[49, 50, 51, 52, 53, 54, 55, 56, 57]⟩] w fun e w' => e = .returned (.int .u32 3808858755) ∧ Below w.heap.size w w' := by
  have := sum_any ⟨#[49, 50, 51, 52, 53, 54, 55, 56, 57]⟩ (by decide) w
  rw [val_sum9] at this
  exact this
theorem aw_seal (w : World) : Calls Try.prog 21 #[.string ⟨#[]⟩] w fun e w' => e = .returned (.string ⟨#[0, 0, 0, 0]⟩) ∧ Below w.heap.size w w' := by
  have := seal_any ⟨#[]⟩ (by decide) w
  rw [val_seal] at this
  exact this
theorem aw_comb (w : World) : Calls Try.prog 17 #[.int .u32 3808858755, .int .u32 0, .int .i64 0] w fun e w' => e = .returned (.int .u32 3808858755) ∧ Below w.heap.size w w' := by
  have := combine_any (BitVec.ofNat 32 3808858755) 0#32 0 (by decide) w
  rw [val_comb] at this
  exact this

set_option maxHeartbeats 400000 in
theorem awake_any (w : World) : Calls Try.prog 16 #[] w fun e w' => e = .returned (.bool true) ∧ Below w.heap.size w w' := by
  go_enter Try.func16, Try.ntmps16
  go_wp2_with fail
  refine (aw_open _).mono ?_
  rintro e w1 ⟨rfl, h1⟩
  go_wp2_with fail
  refine (aw_sum0 _).mono ?_
  rintro e w2 ⟨rfl, h2⟩
  go_wp2_with fail
  refine (aw_sum9 _).mono ?_
  rintro e w3 ⟨rfl, h3⟩
  go_wp2_with fail
  refine (aw_seal _).mono ?_
  rintro e w4 ⟨rfl, h4⟩
  go_wp2_with fail
  refine (aw_comb _).mono ?_
  rintro e w5 ⟨rfl, h5⟩
  go_wp2_with fail
  go_ret
  exact ⟨rfl, (((h1.trans (h2.mono h1.size)).trans (h3.mono (Nat.le_trans h1.size h2.size))).trans (h4.mono (Nat.le_trans h1.size (Nat.le_trans h2.size h3.size)))).trans (h5.mono (Nat.le_trans h1.size (Nat.le_trans h2.size (Nat.le_trans h3.size h4.size))))⟩
end Go.Proofs.Ythejhofnoolpcaa
