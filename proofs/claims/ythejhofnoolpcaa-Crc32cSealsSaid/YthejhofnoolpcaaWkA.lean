/- The walks of shifted and shift: a register shifted by bits. -/
import Derived.Test.YthejhofnoolpcaaBase
namespace Go.Proofs.Ythejhofnoolpcaa
open Go.RowKit Crc

theorem sh_snoc (n : Nat) (a : BitVec 32) : sh (n + 1) a = sh1 (sh n a) := by
  rw [Nat.add_comm, sh_add]; rfl

set_option maxHeartbeats 400000 in
theorem shifted_any (x : BitVec 32) (n : Nat) (hn : n ≤ 8) (w : World) :
    Calls Try.prog 34 #[.int .u32 (u x), .int .i64 n] w fun e w' => e = .returned (.int .u32 (u (sh n x))) ∧ w' = w := by
  go_enter Try.func34, Try.ntmps34
  go_wp2
  go_loop [0, 6] (fun r i => ∃ k : Nat, k ≤ n ∧ i = .int .i64 k ∧ r = .int .u32 (u (sh k x))) (fun _ i => n - (intOf i).toNat)
  case atStart => exact ⟨0, Nat.zero_le _, rfl, rfl⟩
  case round =>
    obtain ⟨k, hk, rfl, rfl⟩ := hrel
    by_cases hlt : k < n
    · have H := Lib.hid (sh_snoc k x)
      rcases hb : (sh k x).getLsbD 0
      · have c0 : (Go.bits .and .u32 (u (sh k x)) 1 == 0) = true := beq_iff_eq.2 ((u_low _).2 hb)
        have c1 : (Go.bits .and .u32 (u (sh k x)) 1 != 0) = false := bne_eq_false_iff_eq.2 ((u_low _).2 hb)
        have H2 := Lib.hid (u_sh1_even _ hb)
        clear hb
        go_wp2
        go_round
        case rel => exact ⟨k + 1, by omega, by go_num, by rw [H.out, H2.out]⟩
        case measure => simp [intOf]; omega
      · have hne : ¬ Go.bits .and .u32 (u (sh k x)) 1 = 0 := fun h => by rw [(u_low _).1 h] at hb; cases hb
        have c0 : (Go.bits .and .u32 (u (sh k x)) 1 == 0) = false := beq_eq_false_iff_ne.2 hne
        have c1 : (Go.bits .and .u32 (u (sh k x)) 1 != 0) = true := bne_iff_ne.2 hne
        have H2 := Lib.hid (u_sh1_odd _ hb)
        clear hb hne
        go_wp2
        go_round
        case rel => exact ⟨k + 1, by omega, by go_num, by rw [H.out, H2.out]⟩
        case measure => simp [intOf]; omega
    · obtain rfl : n = k := by omega
      go_wp2
      go_ret
      exact ⟨rfl, rfl⟩
end Go.Proofs.Ythejhofnoolpcaa
