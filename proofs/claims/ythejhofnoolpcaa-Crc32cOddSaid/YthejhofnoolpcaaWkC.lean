/- The walk of the reference's feed, Sum and Update. -/
import Derived.Test.YthejhofnoolpcaaWkB
namespace Go.Proofs.Ythejhofnoolpcaa
open Go.RowKit Crc

/-- A string's bytes. -/
def bs (s : ByteArray) : List UInt8 := s.data.toList
theorem bs_length (s : ByteArray) : (bs s).length = s.size := rfl
theorem bs_snoc (s : ByteArray) (k : Nat) (h : k < s.size) : (bs s).take (k + 1) = (bs s).take k ++ [s[k]] := by
  unfold bs
  rw [List.take_succ_eq_append_getElem (by simpa using h)]; rfl
theorem feed_snoc (x : BitVec 32) (s : ByteArray) (k : Nat) (h : k < s.size) : feed x ((bs s).take (k + 1)) = sh 8 (feed x ((bs s).take k) ^^^ byte s[k]) := by
  rw [bs_snoc s k h, feed_append]; rfl
theorem u_byte (c : UInt8) : ((c.toNat : Nat) : Int) = u (byte c) := by
  unfold u byte
  rw [BitVec.toNat_ofNat, Nat.mod_eq_of_lt (Nat.lt_trans c.toNat_lt (by decide))]
theorem bs_all (s : ByteArray) : (bs s).take s.size = bs s := List.take_of_length_le (by rw [bs_length]; exact Nat.le_refl _)

set_option maxHeartbeats 400000 in
theorem feed_any (x : BitVec 32) (s : ByteArray) (hs : s.size ≤ maxLen) (w : World) :
    Calls Try.prog 25 #[.int .u32 (u x), .string s] w fun e w' => e = .returned (.int .u32 (u (feed x (bs s)))) ∧ w' = w := by
  unfold maxLen at hs
  go_enter Try.func25, Try.ntmps25
  go_wp2
  go_loop [0, 5] (fun r i => ∃ k : Nat, k ≤ s.size ∧ i = .int .i64 k ∧ r = .int .u32 (u (feed x ((bs s).take k)))) (fun _ i => s.size - (intOf i).toNat)
  case atStart => exact ⟨0, Nat.zero_le _, rfl, rfl⟩
  case round =>
    obtain ⟨k, hk, rfl, rfl⟩ := hrel
    by_cases hlt : k < s.size
    · have H := Lib.hid (feed_snoc x s k hlt)
      have c0 := s[k].toNat_lt
      have HX : Hid (Go.bits .xor .u32 (u (feed x ((bs s).take k))) (((s[k].toNat : Nat) : Int)) = u (feed x ((bs s).take k) ^^^ byte s[k])) := Lib.hid (by rw [u_byte, u_xor])
      go_wp2_with fail
      rw [HX.out]
      refine (shift_any _ _).mono ?_
      rintro e w' ⟨rfl, rfl⟩
      go_wp2
      go_round
      case rel => exact ⟨k + 1, by omega, by go_num, by rw [H.out]⟩
      case measure => simp [intOf]; omega
    · obtain rfl : k = s.size := by omega
      have H := Lib.hid (bs_all s)
      go_wp2
      go_ret
      exact ⟨by rw [H.out]; rfl, rfl⟩
end Go.Proofs.Ythejhofnoolpcaa
