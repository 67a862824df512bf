/- The walks of the reference's Sum and Update, and of ending. -/
import Derived.Test.YthejhofnoolpcaaWkC
import Derived.Laws.BytesArg
namespace Go.Proofs.Ythejhofnoolpcaa
open Go.RowKit Crc

theorem u_not (x : BitVec 32) : Go.bits .xor .u32 IntKind.u32.max (u x) = u (~~~ x) := by
  rw [show IntKind.u32.max = u (BitVec.allOnes 32) from rfl, u_xor, BitVec.allOnes_xor]
theorem u_ones : (4294967295 : Int) = u (~~~ 0#32) := rfl

theorem ret_int {k : IntKind} {a b : Int} (h : a = b) : Ending.returned (.int k a) = .returned (.int k b) := by rw [h]

set_option maxHeartbeats 400000 in
theorem updateR_any (x : BitVec 32) (s : ByteArray) (hs : s.size ≤ maxLen) (w : World) :
    Calls Try.prog 15 #[.int .u32 (u x), .string s] w fun e w' => e = .returned (.int .u32 (u (~~~ feed (~~~ x) (bs s)))) ∧ w' = w := by
  go_enter Try.func15, Try.ntmps15
  go_wp2_with fail
  rw [u_not]
  refine (feed_any _ s hs _).mono ?_
  rintro e w' ⟨rfl, rfl⟩
  go_wp2
  go_ret
  exact ⟨ret_int (u_not _), rfl⟩

set_option maxHeartbeats 400000 in
theorem sumR_any (s : ByteArray) (hs : s.size ≤ maxLen) (w : World) :
    Calls Try.prog 13 #[.string s] w fun e w' => e = .returned (.int .u32 (u (sum (bs s)))) ∧ w' = w := by
  go_enter Try.func13, Try.ntmps13
  go_wp2_with fail
  rw [u_ones]
  refine (feed_any _ s hs _).mono ?_
  rintro e w' ⟨rfl, rfl⟩
  go_wp2
  go_ret
  exact ⟨ret_int (u_not _), rfl⟩

theorem conv4 (a b c d : Int) (w : World) : (convert 42 9 (.slice (some ⟨w.heap.size, 0, none⟩) 4 4)).run Try.prog (w.alloc (.cells #[.int .u8 a, .int .u8 b, .int .u8 c, .int .u8 d] 5)) =
    .ok (.string (strOfNums [a, b, c, d])) (w.alloc (.cells #[.int .u8 a, .int .u8 b, .int .u8 c, .int .u8 d] 5)) := by
  refine run_convert_bytes_arg _ 42 5 Try.underlying42 Try.underlying5 _ 0 4 4 [a, b, c, d] rfl (fun i hi => ?_) 9 Try.underlying9
  rw [cell_of_row _ _ _ _ 5 (0, 0) (heap_alloc_new w _)]
  rcases i with _ | _ | _ | _ | i
  · rfl
  · rfl
  · rfl
  · rfl
  · omega

theorem toNat_byte (n : Nat) : ((n : Int) % 256).toNat = n % 256 := by omega
theorem ending_str (x : BitVec 32) : strOfNums [u x % 256, u x / 256 % 256, u x / 65536 % 256, u x / 16777216 % 256] = ⟨(ending x).toArray⟩ := by
  unfold strOfNums ending u
  simp only [List.map_cons, List.map_nil]
  rw [toNat_byte, show ((x.toNat : Int) / 256 % 256).toNat = x.toNat / 256 % 256 by omega, show ((x.toNat : Int) / 65536 % 256).toNat = x.toNat / 65536 % 256 by omega, show ((x.toNat : Int) / 16777216 % 256).toNat = x.toNat / 16777216 % 256 by omega]

set_option maxHeartbeats 400000 in
theorem ending_any (x : BitVec 32) (w : World) :
    Calls Try.prog 33 #[.int .u32 (u x)] w fun e w' => e = .returned (.string ⟨(ending x).toArray⟩) ∧ Below w.heap.size w w' := by
  have hcv := conv4 (u x % 256) (u x / 256 % 256) (u x / 65536 % 256) (u x / 16777216 % 256) w
  have H := Lib.hid (ending_str x)
  go_enter Try.func33, Try.ntmps33
  go_wp2
  go_ret
  exact ⟨by rw [← H.out]; rfl, (Below.refl _ _).alloc (Nat.le_refl _) _⟩
end Go.Proofs.Ythejhofnoolpcaa
