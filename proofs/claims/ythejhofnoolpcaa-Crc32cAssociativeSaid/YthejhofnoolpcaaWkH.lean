/- The walk of Combine. -/
import Derived.Test.YthejhofnoolpcaaWkG
namespace Go.Proofs.Ythejhofnoolpcaa
open Go.RowKit Crc

/-- The register of a concatenation. -/
def comb (a b : BitVec 32) (n : Nat) : BitVec 32 := sh (8 * n) a ^^^ b
theorem pw_sq (m : Nat) : tab 32 (fun i => app (pw m) 32 (pw m i)) 32 = tab 32 (pw (m + m)) 32 := by
  apply tab_congr
  intro i _
  have := app_all m (pw m i)
  unfold pw at this ⊢
  rw [this, sh_add]
theorem pw_app (m : Nat) (x : BitVec 32) : app (pw m) 32 x = sh m x := app_all m x

/-- What Combine has in memory: the block G holds the operator of m bits. -/
structure Co (B G m : Nat) (w W : World) : Prop where
  a : At W G (tab 32 (pw m) 32) 46
  g : B ≤ G
  h : Below B w W
/-- Where a and n stand behind j rounds. -/
def Cr (a : BitVec 32) (n j : Nat) (x : BitVec 32) (q : Nat) : Prop := x = sh (8 * (n % 2 ^ j)) a ∧ q = n / 2 ^ j
theorem Cr.start (a : BitVec 32) (n : Nat) : Cr a n 0 a n := ⟨by simp [Nat.mod_one, sh], by simp⟩
theorem Cr.stop {a : BitVec 32} {n j : Nat} {x : BitVec 32} (h : Cr a n j x 0) : x = sh (8 * n) a := by
  obtain ⟨rfl, h2⟩ := h
  have : n < 2 ^ j := by
    rcases Nat.lt_or_ge n (2 ^ j) with h | h
    · exact h
    · have := Nat.div_pos h (Nat.two_pow_pos j); omega
  rw [Nat.mod_eq_of_lt this]
theorem split2 (n j : Nat) : n % 2 ^ (j + 1) = n % 2 ^ j + 2 ^ j * (n / 2 ^ j % 2) := by
  rw [Nat.pow_succ, Nat.mod_mul]
theorem Cr.odd {a : BitVec 32} {n j : Nat} {x : BitVec 32} {q : Nat} (h : Cr a n j x q) (ho : q % 2 = 1) : Cr a n (j + 1) (sh (8 * 2 ^ j) x) (q / 2) := by
  obtain ⟨rfl, rfl⟩ := h
  refine ⟨?_, by rw [Nat.div_div_eq_div_mul, Nat.pow_succ]⟩
  rw [split2, ho, ← sh_add, Nat.mul_one, Nat.mul_add, Nat.add_comm]
theorem Cr.even {a : BitVec 32} {n j : Nat} {x : BitVec 32} {q : Nat} (h : Cr a n j x q) (ho : q % 2 = 0) : Cr a n (j + 1) x (q / 2) := by
  obtain ⟨rfl, rfl⟩ := h
  refine ⟨?_, by rw [Nat.div_div_eq_div_mul, Nat.pow_succ]⟩
  rw [split2, ho, Nat.mul_zero, Nat.add_zero]
theorem wraps_i64 (n : Int) (h0 : 0 ≤ n) (h1 : n < 2 ^ 63) : IntKind.i64.wrap n = n := by rw [IntKind.wrap_i64]; omega
theorem low_i64 (q : Nat) (h : q ≤ 9223372036854775807) : Go.bits .and .i64 (q : Int) 1 = ((q % 2 : Nat) : Int) := by
  have := bits_mask .i64 63 (by decide) wraps_i64 1 (by decide) (q : Int) (by omega) (by omega)
  simpa using this

theorem squared_pw (m : Nat) (w : World) :
    Calls Try.prog 29 #[.agg (tab 32 (pw m) 32)] w fun e w' => e = .returned (.agg (tab 32 (pw (m + m)) 32)) ∧ Below w.heap.size w w' := by
  rw [← pw_sq]
  exact squared_any (pw m) w
theorem applied_pw (m : Nat) (x : BitVec 32) (w : World) :
    Calls Try.prog 28 #[.agg (tab 32 (pw m) 32), .int .u32 (u x)] w fun e w' => e = .returned (.int .u32 (u (sh m x))) ∧ Below w.heap.size w w' := by
  rw [← pw_app]
  exact applied_any (pw m) x w
theorem Co.below {B G m : Nat} {w W W1 : World} (h : Co B G m w W) (hb : Below W.heap.size W W1) : Co B G m w W1 :=
  ⟨h.a.below hb, h.g, h.h.trans (hb.mono (Nat.le_trans h.g (Nat.le_of_lt h.a.lt)))⟩
theorem co_step {B G m m' : Nat} {w W W1 : World} (h : Co B G m w W) (hb : Below W.heap.size W W1) (e : m + m = m') : Co B G m' w (W1.setRow G (tab 32 (pw (m + m)) 32)) :=
  have h1 := h.below hb
  ⟨by rw [← e]; exact h1.a.row _, h.g, below_row h1.h h.g _⟩

set_option maxHeartbeats 400000 in
theorem combine_neg (a b : BitVec 32) (n : Int) (h : n < 0) (w : World) :
    Calls Try.prog 17 #[.int .u32 (u a), .int .u32 (u b), .int .i64 n] w fun e w' => e = .returned (.int .u32 0) ∧ Below w.heap.size w w' := by
  go_enter Try.func17, Try.ntmps17
  go_wp2_with fail
  go_ret
  exact ⟨rfl, Below.refl _ _⟩

set_option maxHeartbeats 400000 in
theorem combine_any (a b : BitVec 32) (n : Nat) (hn : n ≤ 9223372036854775807) (w : World) :
    Calls Try.prog 17 #[.int .u32 (u a), .int .u32 (u b), .int .i64 n] w fun e w' => e = .returned (.int .u32 (u (comb a b n))) ∧ Below w.heap.size w w' := by
  have HN := Lib.hid hn
  clear hn
  go_enter Try.func17, Try.ntmps17
  go_wp2_with fail
  refine (byteOperator_any _).mono ?_
  rintro e w1 ⟨rfl, hb1⟩
  go_wp2_with ((with_reducible refine arm_store 7 (.tmp 11) 46 rfl rfl w1.heap.size rfl (c := tab 32 (pw 8) 32) rfl (t := 46) (old := tab 32 (pw 8) 0) ?c1 (size32 _ 32) (by rw [tab_size, tab_size]) (tab_one _ _ _) ?_); (case c1 => rw [zero32]; exact At.new _ _ _))
  go_loopw [0, 8] (fun x q wr => ∃ (j : Nat) (X : BitVec 32) (Q : Nat), x = .int .u32 (u X) ∧ q = .int .i64 Q ∧ Cr a n j X Q ∧ Co w.heap.size w1.heap.size (8 * 2 ^ j) w wr) (fun _ q _ => (intOf q).toNat)
  case atStart =>
    refine ⟨0, a, n, rfl, rfl, Cr.start a n, ⟨?_, hb1.size, below_row ((hb1.trans ((Below.refl _ _).alloc hb1.size _))) hb1.size _⟩⟩
    have h1 := (At.new w1 (tab 32 (pw 8) 0) 46).row (tab 32 (pw 8) 32)
    rw [zero32] at h1
    exact h1
  case round =>
    obtain ⟨j, X, q, rfl, rfl, hcr, hco⟩ := hrel
    have hq : q ≤ n := by rw [hcr.2]; exact Nat.div_le_self _ _
    have HL := Lib.hid (low_i64 q (Nat.le_trans hq HN.out))
    have e2 : 8 * 2 ^ j + 8 * 2 ^ j = 8 * 2 ^ (j + 1) := by rw [Nat.pow_succ]; omega
    have HE := Lib.hid e2
    clear e2
    rcases Nat.eq_zero_or_pos q with h0 | h0
    · subst h0
      have H := Lib.hid hcr.stop
      go_wp2_with fail
      go_ret
      exact ⟨ret_int (by rw [u_xor, H.out]; rfl), hco.h⟩
    · rcases Nat.mod_two_eq_zero_or_one q with h2 | h2
      · have d0 : (Go.bits .and .i64 (q : Int) 1 != 0) = false := by rw [HL.out, h2]; rfl
        have HC := Lib.hid (hcr.even h2)
        clear h2
        go_wp2_with (with_reducible refine arm_load 23 rfl rfl 46 (.tmp 7) rfl w1.heap.size rfl (c := tab 32 (pw (8 * 2 ^ j)) 32) (t := 46) hco.a 32 22 Try.underlying46 (size32 _ 32) ?_)
        refine (squared_pw _ _).mono ?_
        rintro e w2 ⟨rfl, hb2⟩
        go_wp2_with (with_reducible refine arm_store 7 (.tmp 24) 46 rfl rfl w1.heap.size rfl (c := tab 32 (pw (8 * 2 ^ j + 8 * 2 ^ j)) 32) rfl (t := 46) (old := tab 32 (pw (8 * 2 ^ j)) 32) (hco.a.below hb2) (size32 _ 32) (by rw [tab_size, tab_size]) (tab_one _ _ _) ?_)
        refine ⟨⟨j + 1, X, q / 2, rfl, by first | rfl | go_num, HC.out, ?_⟩, by simp [intOf]; omega⟩
        exact co_step hco hb2 HE.out
      · have d0 : (Go.bits .and .i64 (q : Int) 1 != 0) = true := by rw [HL.out, h2]; rfl
        have HC := Lib.hid (hcr.odd h2)
        clear h2
        go_wp2_with (with_reducible refine arm_load 20 rfl rfl 46 (.tmp 7) rfl w1.heap.size rfl (c := tab 32 (pw (8 * 2 ^ j)) 32) (t := 46) hco.a 32 22 Try.underlying46 (size32 _ 32) ?_)
        refine (applied_pw _ _ _).mono ?_
        rintro e w3 ⟨rfl, hb3⟩
        have hco3 := hco.below hb3
        go_wp2_with (with_reducible refine arm_load 23 rfl rfl 46 (.tmp 7) rfl w1.heap.size rfl (c := tab 32 (pw (8 * 2 ^ j)) 32) (t := 46) hco3.a 32 22 Try.underlying46 (size32 _ 32) ?_)
        refine (squared_pw _ _).mono ?_
        rintro e w2 ⟨rfl, hb2⟩
        go_wp2_with (with_reducible refine arm_store 7 (.tmp 24) 46 rfl rfl w1.heap.size rfl (c := tab 32 (pw (8 * 2 ^ j + 8 * 2 ^ j)) 32) rfl (t := 46) (old := tab 32 (pw (8 * 2 ^ j)) 32) (hco3.a.below hb2) (size32 _ 32) (by rw [tab_size, tab_size]) (tab_one _ _ _) ?_)
        refine ⟨⟨j + 1, _, q / 2, rfl, by first | rfl | go_num, HC.out, ?_⟩, by simp [intOf]; omega⟩
        exact co_step hco3 hb2 HE.out
end Go.Proofs.Ythejhofnoolpcaa
