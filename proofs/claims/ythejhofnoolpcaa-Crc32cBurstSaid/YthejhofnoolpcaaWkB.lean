/- The walks of the reference's shift and feed. -/
import Derived.Test.YthejhofnoolpcaaWkA
namespace Go.Proofs.Ythejhofnoolpcaa
open Go.RowKit Crc

theorem tmod_u (x : BitVec 32) : Int.tmod (u x) 2 = if x.getLsbD 0 then 1 else 0 := by
  have h0 := u_lo x
  rw [Int.tmod_eq_emod_of_nonneg h0]
  have : x.getLsbD 0 = decide (x.toNat % 2 = 1) := by
    rw [BitVec.getLsbD, Nat.testBit_zero]
  rw [this]
  unfold u
  rcases Nat.mod_two_eq_zero_or_one x.toNat with h | h <;> simp [h] <;> omega

theorem tdiv_u (x : BitVec 32) : Int.tdiv (u x) 2 % 4294967296 = u x / 2 := by
  have h0 := u_lo x
  have h1 := u_hi x
  rw [Int.tdiv_eq_ediv_of_nonneg h0]
  omega

set_option maxHeartbeats 400000 in
theorem shift_any (x : BitVec 32) (w : World) :
    Calls Try.prog 30 #[.int .u32 (u x)] w fun e w' => e = .returned (.int .u32 (u (sh 8 x))) ∧ w' = w := by
  go_enter Try.func30, Try.ntmps30
  go_wp2
  go_loop [0, 3] (fun r i => ∃ k : Nat, k ≤ 8 ∧ i = .int .i64 k ∧ r = .int .u32 (u (sh k x))) (fun _ i => 8 - (intOf i).toNat)
  case atStart => exact ⟨0, Nat.zero_le _, rfl, rfl⟩
  case round =>
    obtain ⟨k, hk, rfl, rfl⟩ := hrel
    by_cases hlt : k < 8
    · have H := Lib.hid (sh_snoc k x)
      rcases hb : (sh k x).getLsbD 0
      · have c0 : (Int.tmod (u (sh k x)) 2 == 1) = false := by rw [tmod_u, hb]; rfl
        have H2 := Lib.hid (u_sh1_even _ hb)
        clear hb
        go_wp2
        go_round
        case rel => exact ⟨k + 1, by omega, by go_num, by rw [H.out, ← H2.out, tdiv_u]⟩
        case measure => simp [intOf]; omega
      · have c0 : (Int.tmod (u (sh k x)) 2 == 1) = true := by rw [tmod_u, hb]; rfl
        have H2 := Lib.hid (u_sh1_odd _ hb)
        clear hb
        go_wp2
        go_round
        case rel => exact ⟨k + 1, by omega, by go_num, by rw [H.out, ← H2.out, tdiv_u]⟩
        case measure => simp [intOf]; omega
    · obtain rfl : k = 8 := by omega
      go_wp2
      go_ret
      exact ⟨rfl, rfl⟩
end Go.Proofs.Ythejhofnoolpcaa
