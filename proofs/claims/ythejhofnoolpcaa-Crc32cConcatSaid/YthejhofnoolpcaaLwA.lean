/- The walks of the laws Sum, Combine, Open, Concat, Seals, Associative. -/
import Derived.Test.YthejhofnoolpcaaWkL
namespace Go.Proofs.Ythejhofnoolpcaa
open Go.RowKit Crc

theorem bt {w w1 w2 : World} (h1 : Below w.heap.size w w1) (h2 : Below w1.heap.size w1 w2) : Below w.heap.size w w2 := h1.trans (h2.mono h1.size)

set_option maxHeartbeats 400000 in
theorem lawSum (x : BitVec 32) (s : ByteArray) (hs : s.size ≤ 140737488351232) (w : World) :
    Calls Try.prog 3 #[.int .u32 (u x), .string s] w fun e w' => e = .returned (.bool true) ∧ Below w.heap.size w w' := by
  by_cases h : 600 < s.size
  · go_enter Try.func3, Try.ntmps3
    go_wp2_with fail
    refine (awake_any _).mono ?_
    rintro e w1 ⟨rfl, h1⟩
    go_wp2_with fail
    go_ret
    exact ⟨rfl, h1⟩
  · have hm : s.size ≤ maxLen := by unfold maxLen; omega
    go_enter Try.func3, Try.ntmps3
    go_wp2_with fail
    refine (sum_any s hm _).mono ?_
    rintro e w1 ⟨rfl, h1⟩
    go_wp2_with fail
    refine (sumR_any s hm _).mono ?_
    rintro e w1 ⟨rfl, rfl⟩
    go_wp2_with fail
    refine (update_any x s hm _).mono ?_
    rintro e w2 ⟨rfl, h2⟩
    go_wp2_with fail
    refine (updateR_any x s hm _).mono ?_
    rintro e w2 ⟨rfl, rfl⟩
    go_wp2_with fail
    refine (awake_any _).mono ?_
    rintro e w3 ⟨rfl, h3⟩
    go_wp2_with fail
    go_ret
    exact ⟨rfl, bt (bt h1 h2) h3⟩

set_option maxHeartbeats 400000 in
theorem lawCombine (a b : BitVec 32) (n : Int) (h0 : -9223372036854775808 ≤ n) (hn : n ≤ 9223372036854775807) (w : World) :
    Calls Try.prog 4 #[.int .u32 (u a), .int .u32 (u b), .int .i64 n] w fun e w' => e = .returned (.bool true) ∧ Below w.heap.size w w' := by
  by_cases h : n < 0
  · go_enter Try.func4, Try.ntmps4
    go_wp2_with fail
    refine (combine_neg a b n h _).mono ?_
    rintro e w1 ⟨rfl, h1⟩
    go_wp2_with fail
    refine (combineR_neg a b n h _).mono ?_
    rintro e w2 ⟨rfl, h2⟩
    go_wp2_with fail
    refine (awake_any _).mono ?_
    rintro e w3 ⟨rfl, h3⟩
    go_wp2_with fail
    go_ret
    exact ⟨rfl, bt (bt h1 h2) h3⟩
  · obtain ⟨m, rfl⟩ : ∃ m : Nat, n = (m : Int) := ⟨n.toNat, by omega⟩
    have hm : m ≤ 9223372036854775807 := by omega
    clear hn h h0
    go_enter Try.func4, Try.ntmps4
    go_wp2_with fail
    refine (combine_any a b m hm _).mono ?_
    rintro e w1 ⟨rfl, h1⟩
    go_wp2_with fail
    refine (combineR_any a b m hm _).mono ?_
    rintro e w2 ⟨rfl, h2⟩
    go_wp2_with fail
    refine (awake_any _).mono ?_
    rintro e w3 ⟨rfl, h3⟩
    go_wp2_with fail
    go_ret
    exact ⟨rfl, bt (bt h1 h2) h3⟩

set_option maxHeartbeats 400000 in
theorem lawOpen (s : ByteArray) (hs : s.size ≤ 140737488351232) (w : World) :
    Calls Try.prog 5 #[.string s] w fun e w' => e = .returned (.bool true) ∧ Below w.heap.size w w' := by
  by_cases h : 600 < s.size
  · go_enter Try.func5, Try.ntmps5
    go_wp2_with fail
    refine (awake_any _).mono ?_
    rintro e w1 ⟨rfl, h1⟩
    go_wp2_with fail
    go_ret
    exact ⟨rfl, h1⟩
  · have hm : s.size ≤ 100000 := by omega
    by_cases h4 : s.size < 4
    · go_enter Try.func5, Try.ntmps5
      go_wp2_with fail
      refine (open_short s h4 _).mono ?_
      rintro e w1 ⟨rfl, h1⟩
      go_wp2_with fail
      refine (openR_short s h4 _).mono ?_
      rintro e w2 ⟨rfl, h2⟩
      go_wp2_with fail
      refine (seal_any s hm _).mono ?_
      rintro e w3 ⟨rfl, h3⟩
      go_wp2_with fail
      refine (sealR_any s hm _).mono ?_
      rintro e w4 ⟨rfl, h4'⟩
      go_wp2_with fail
      refine (awake_any _).mono ?_
      rintro e w5 ⟨rfl, h5⟩
      go_wp2_with fail
      go_ret
      exact ⟨rfl, bt (bt (bt (bt h1 h2) h3) h4') h5⟩
    · have h4 : 4 ≤ s.size := by omega
      by_cases hg : Whole s
      · have HG := Lib.hid hg
        clear hg
        go_enter Try.func5, Try.ntmps5
        go_wp2_with fail
        refine (open_good s hm h4 HG.out _).mono ?_
        rintro e w1 ⟨rfl, h1⟩
        go_wp2_with fail
        refine (openR_good s hm h4 HG.out _).mono ?_
        rintro e w2 ⟨rfl, h2⟩
        go_wp2_with fail
        refine (seal_any s hm _).mono ?_
        rintro e w3 ⟨rfl, h3⟩
        go_wp2_with fail
        refine (sealR_any s hm _).mono ?_
        rintro e w4 ⟨rfl, h4'⟩
        go_wp2_with fail
        refine (awake_any _).mono ?_
        rintro e w5 ⟨rfl, h5⟩
        go_wp2_with fail
        go_ret
        exact ⟨rfl, bt (bt (bt (bt h1 h2) h3) h4') h5⟩
      · have HG := Lib.hid hg
        clear hg
        go_enter Try.func5, Try.ntmps5
        go_wp2_with fail
        refine (open_bad s hm h4 HG.out _).mono ?_
        rintro e w1 ⟨rfl, h1⟩
        go_wp2_with fail
        refine (openR_bad s hm h4 HG.out _).mono ?_
        rintro e w2 ⟨rfl, h2⟩
        go_wp2_with fail
        refine (seal_any s hm _).mono ?_
        rintro e w3 ⟨rfl, h3⟩
        go_wp2_with fail
        refine (sealR_any s hm _).mono ?_
        rintro e w4 ⟨rfl, h4'⟩
        go_wp2_with fail
        refine (awake_any _).mono ?_
        rintro e w5 ⟨rfl, h5⟩
        go_wp2_with fail
        go_ret
        exact ⟨rfl, bt (bt (bt (bt h1 h2) h3) h4') h5⟩
end Go.Proofs.Ythejhofnoolpcaa
