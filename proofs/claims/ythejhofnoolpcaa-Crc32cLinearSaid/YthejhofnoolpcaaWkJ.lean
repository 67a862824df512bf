/- The walk of the reference's Combine. -/
import Derived.Test.YthejhofnoolpcaaWkI
namespace Go.Proofs.Ythejhofnoolpcaa
open Go.RowKit Crc

theorem square_pw (m : Nat) (w : World) :
    Calls Try.prog 32 #[.agg (tab 32 (pw m) 32)] w fun e w' => e = .returned (.agg (tab 32 (pw (m + m)) 32)) ∧ Below w.heap.size w w' := by
  rw [← pw_sq]
  exact square_any (pw m) w
theorem apply_pw (m : Nat) (x : BitVec 32) (w : World) :
    Calls Try.prog 31 #[.agg (tab 32 (pw m) 32), .int .u32 (u x)] w fun e w' => e = .returned (.int .u32 (u (sh m x))) ∧ Below w.heap.size w w' := by
  rw [← pw_app]
  exact apply_any (pw m) x w
/-- What Combine has in memory: the block B holds the operator of m bits. -/
structure CoR (B m : Nat) (w W : World) : Prop where
  a : At W B (tab 32 (pw m) 32) 45
  h : Below B w W
theorem CoR.below {B m : Nat} {w W W1 : World} (h : CoR B m w W) (hb : Below W.heap.size W W1) : CoR B m w W1 :=
  ⟨h.a.below hb, h.h.trans (hb.mono (Nat.le_of_lt h.a.lt))⟩
theorem coR_step {B m m' : Nat} {w W W1 : World} (h : CoR B m w W) (hb : Below W.heap.size W W1) (e : m + m = m') : CoR B m' w (W1.setRow B (tab 32 (pw (m + m)) 32)) :=
  have h1 := h.below hb
  ⟨by rw [← e]; exact h1.a.row _, below_row h1.h (Nat.le_refl _) _⟩

set_option maxHeartbeats 400000 in
theorem combineR_neg (a b : BitVec 32) (n : Int) (h : n < 0) (w : World) :
    Calls Try.prog 18 #[.int .u32 (u a), .int .u32 (u b), .int .i64 n] w fun e w' => e = .returned (.int .u32 0) ∧ Below w.heap.size w w' := by
  go_enter Try.func18, Try.ntmps18
  go_wp2_with fail
  go_ret
  exact ⟨rfl, Below.refl _ _⟩

theorem built45 : Try.prog.built 45 [] = some #[.int .u32 0, .int .u32 0, .int .u32 0, .int .u32 0, .int .u32 0, .int .u32 0, .int .u32 0, .int .u32 0, .int .u32 0, .int .u32 0, .int .u32 0, .int .u32 0, .int .u32 0, .int .u32 0, .int .u32 0, .int .u32 0,
    .int .u32 0, .int .u32 0, .int .u32 0, .int .u32 0, .int .u32 0, .int .u32 0, .int .u32 0, .int .u32 0, .int .u32 0, .int .u32 0, .int .u32 0, .int .u32 0, .int .u32 0, .int .u32 0, .int .u32 0, .int .u32 0] := by kernel_rfl
/-- The operation that writes slot N: an array of zeros is built. -/
theorem arm_build {ops : Array Oper} {rest : List Oper} {o : Oper} {a : Act} {W : World} {Q : Exit → Act → World → Prop} (N : Tmp) (_hN : o.dst = some N) (hgd : o.guard = none) (ho : o.op = .build 45 #[]) (f : Nat → BitVec 32)
    (hk : wpList Try.prog ops Q rest (a.put o.dst (.agg (tab 32 f 0))) W) : wpList Try.prog ops Q (o :: rest) a W := by
  refine wpList_build hgd 45 #[] ho ?_ ?_
  · simp only [List.map_toArray, List.map_nil]
    rw [built45]; rfl
  · simp only [List.map_toArray, List.map_nil]
    rw [built45, Option.getD_some, ← zero32 f]
    exact hk
theorem half_i64 (q : Nat) (h : q ≤ 9223372036854775807) : wrap64 ((q : Int) / 2) = ((q / 2 : Nat) : Int) := by
  rw [IntWalk.wrap64_in _ ⟨by omega, by omega⟩]
  omega

set_option maxHeartbeats 400000 in
theorem combineR_any (a b : BitVec 32) (n : Nat) (hn : n ≤ 9223372036854775807) (w : World) :
    Calls Try.prog 18 #[.int .u32 (u a), .int .u32 (u b), .int .i64 n] w fun e w' => e = .returned (.int .u32 (u (comb a b n))) ∧ Below w.heap.size w w' := by
  have HN := Lib.hid hn
  clear hn
  go_enter Try.func18, Try.ntmps18
  go_wp2_with (first | (with_reducible refine arm_build 12 rfl rfl rfl (pw 8) ?_) | ((with_reducible refine arm_store 7 (.tmp 12) 45 rfl rfl w.heap.size rfl (c := tab 32 (pw 8) 0) ?hy (t := 45) (old := tab 32 (pw 8) 0) ?c1 (size32R _ 0) (by simp only [tab_size]) (tab_one _ _ _) ?_); (case hy => rfl); (case c1 => rw [zero32]; exact At.new _ _ _)))
  go_loopw [8] (fun i wr => ∃ k : Nat, k ≤ 32 ∧ i = .int .i64 k ∧ At wr w.heap.size (tab 32 (pw 8) k) 45 ∧ Below w.heap.size w wr) (fun i _ => 32 - (intOf i).toNat)
  case atStart =>
    refine ⟨0, Nat.zero_le _, rfl, ?_, below_row ((Below.refl _ _).alloc (Nat.le_refl _) _) (Nat.le_refl _) _⟩
    have h1 := (At.new w (tab 32 (pw 8) 0) 45).row (tab 32 (pw 8) 0)
    rw [zero32] at h1 ⊢
    exact h1
  case round =>
    obtain ⟨k, hk, rfl, hat, hbl⟩ := hrel
    by_cases hlt : k < 32
    · have H := Lib.hid (tab_set 32 (pw 8) k hlt)
      have g3 := tab_get 32 (pw 8) k k hlt
      have c1 := hat.cell k
      rw [g3] at c1
      clear g3
      have c2 := hat.free k
      go_wp2_with fail
      rw [u_one]
      refine (shift_any _ _).mono ?_
      rintro e w' ⟨rfl, rfl⟩
      go_wp2_with fail
      refine ⟨⟨k + 1, by omega, by go_num, ?_, hbl.setCell (Nat.le_refl _) _⟩, by simp [intOf]; omega⟩
      have h1 := hat.set k (.int .u32 (u (pw 8 k)))
      rw [H.out] at h1
      exact h1
    · have e : k = 32 := by omega
      rw [e] at hat
      have hge : 32 ≤ k := by omega
      clear e
      go_wp2_with fail
      go_loopw [0, 9] (fun x q wr => ∃ (j : Nat) (X : BitVec 32) (Q : Nat), x = .int .u32 (u X) ∧ q = .int .i64 Q ∧ Cr a n j X Q ∧ CoR w.heap.size (8 * 2 ^ j) w wr) (fun _ q _ => (intOf q).toNat)
      case atStart => exact ⟨0, a, n, rfl, rfl, Cr.start a n, ⟨hat, hbl⟩⟩
      case round =>
        obtain ⟨j, X, q, rfl, rfl, hcr, hco⟩ := hrel
        have e2 : 8 * 2 ^ j + 8 * 2 ^ j = 8 * 2 ^ (j + 1) := by rw [Nat.pow_succ]; omega
        have HE := Lib.hid e2
        clear e2
        have hq : q ≤ n := by rw [hcr.2]; exact Nat.div_le_self _ _
        have hw := half_i64 q (Nat.le_trans hq HN.out)
        rcases Nat.eq_zero_or_pos q with h0 | h0
        · subst h0
          have H := Lib.hid hcr.stop
          go_wp2_with fail
          go_ret
          exact ⟨ret_int (by rw [u_xor, H.out]; rfl), hco.h⟩
        · rcases Nat.mod_two_eq_zero_or_one q with h2 | h2
          · have d0 : ((q : Int) % 2 == 1) = false := by rw [beq_eq_false_iff_ne]; omega
            have HC := Lib.hid (hcr.even h2)
            clear h2
            go_wp2_with (with_reducible refine arm_load 33 rfl rfl 45 (.tmp 7) rfl w.heap.size rfl (c := tab 32 (pw (8 * 2 ^ j)) 32) (t := 45) hco.a 32 22 Try.underlying45 (size32R _ 32) ?_)
            refine (square_pw _ _).mono ?_
            rintro e w2 ⟨rfl, hb2⟩
            go_wp2_with (with_reducible refine arm_store 7 (.tmp 34) 45 rfl rfl w.heap.size rfl (c := tab 32 (pw (8 * 2 ^ j + 8 * 2 ^ j)) 32) rfl (t := 45) (old := tab 32 (pw (8 * 2 ^ j)) 32) (hco.a.below hb2) (size32R _ 32) (by rw [tab_size, tab_size]) (tab_one _ _ _) ?_)
            refine ⟨⟨j + 1, X, q / 2, rfl, by rw [hw], HC.out, ?_⟩, by rw [hw]; simp [intOf]; omega⟩
            exact coR_step hco hb2 HE.out
          · have d0 : ((q : Int) % 2 == 1) = true := by rw [beq_iff_eq]; omega
            have HC := Lib.hid (hcr.odd h2)
            clear h2
            go_wp2_with (with_reducible refine arm_load 30 rfl rfl 45 (.tmp 7) rfl w.heap.size rfl (c := tab 32 (pw (8 * 2 ^ j)) 32) (t := 45) hco.a 32 22 Try.underlying45 (size32R _ 32) ?_)
            refine (apply_pw _ _ _).mono ?_
            rintro e w3 ⟨rfl, hb3⟩
            have hco3 := hco.below hb3
            go_wp2_with (with_reducible refine arm_load 33 rfl rfl 45 (.tmp 7) rfl w.heap.size rfl (c := tab 32 (pw (8 * 2 ^ j)) 32) (t := 45) hco3.a 32 22 Try.underlying45 (size32R _ 32) ?_)
            refine (square_pw _ _).mono ?_
            rintro e w2 ⟨rfl, hb2⟩
            go_wp2_with (with_reducible refine arm_store 7 (.tmp 34) 45 rfl rfl w.heap.size rfl (c := tab 32 (pw (8 * 2 ^ j + 8 * 2 ^ j)) 32) rfl (t := 45) (old := tab 32 (pw (8 * 2 ^ j)) 32) (hco3.a.below hb2) (size32R _ 32) (by rw [tab_size, tab_size]) (tab_one _ _ _) ?_)
            refine ⟨⟨j + 1, _, q / 2, rfl, by rw [hw], HC.out, ?_⟩, by rw [hw]; simp [intOf]; omega⟩
            exact coR_step hco3 hb2 HE.out
end Go.Proofs.Ythejhofnoolpcaa
