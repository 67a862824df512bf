/- The walks of the laws Concat, Seals and Associative. -/
import Derived.Test.YthejhofnoolpcaaLwA
namespace Go.Proofs.Ythejhofnoolpcaa
open Go.RowKit Crc

theorem comb_assoc (a b c : BitVec 32) (n m : Nat) : comb (comb a b n) c m = comb a (comb b c m) (n + m) := by
  unfold comb
  rw [sh_xor, ← sh_add, Nat.mul_add, Nat.add_comm (8 * n) (8 * m), BitVec.xor_assoc]
theorem not_sum (s : List UInt8) : ~~~ sum s = feed (~~~ 0#32) s := by unfold sum; rw [BitVec.not_not]
theorem sum_append (s t : List UInt8) : ~~~ feed (~~~ sum s) t = sum (s ++ t) := by
  rw [not_sum, ← feed_append]; rfl
theorem comb_sum (s t : List UInt8) : comb (sum s) (sum t) t.length = sum (s ++ t) := by
  have h := feed_reg (~~~ 0#32) (sum s) t
  have e : ~~~ 0#32 ^^^ sum s = feed (~~~ 0#32) s := by
    unfold sum
    rw [not0, ← BitVec.xor_allOnes, BitVec.xor_comm _ (BitVec.allOnes 32), ← BitVec.xor_assoc, BitVec.xor_self, BitVec.zero_xor]
  rw [e, ← feed_append] at h
  unfold comb
  have : sum (s ++ t) = ~~~ (feed (~~~ 0#32) t ^^^ sh (8 * t.length) (sum s)) := by rw [← h]; rfl
  rw [this]
  show _ ^^^ ~~~ (feed (~~~ 0#32) t) = _
  rw [← BitVec.xor_allOnes, ← BitVec.xor_allOnes]
  ac_rfl
theorem bs_append (s t : ByteArray) : bs (s ++ t) = bs s ++ bs t := by
  unfold bs; rw [ByteArray.data_append, Array.toList_append]

set_option maxHeartbeats 400000 in
theorem lawConcat (s t : ByteArray) (hs : s.size ≤ 140737488351232) (ht : t.size ≤ 140737488351232) (w : World) :
    Calls Try.prog 6 #[.string s, .string t] w fun e w' => e = .returned (.bool true) ∧ Below w.heap.size w w' := by
  by_cases g : s.size ≤ 300 ∧ t.size ≤ 300
  · obtain ⟨g1, g2⟩ := g
    have k1 : s.size ≤ maxLen := by unfold maxLen; omega
    have k2 : t.size ≤ maxLen := by unfold maxLen; omega
    have k3 : (s ++ t).size ≤ maxLen := by rw [ByteArray.size_append]; unfold maxLen; omega
    have H1 := Lib.hid (sum_append (bs s) (bs t))
    have H2 := Lib.hid (comb_sum (bs s) (bs t))
    have H3 := Lib.hid (bs_append s t)
    have hn : ∀ n : Nat, n = 9223372036854775807 → ¬ n < s.size + t.size := fun n h => by omega
    have HN := Lib.hid hn
    clear hn
    go_enter Try.func6, Try.ntmps6
    go_wp2_with fail
    refine (sum_any s k1 _).mono ?_
    rintro e w1 ⟨rfl, h1⟩
    go_wp2_with fail
    refine (sum_any t k2 _).mono ?_
    rintro e w2 ⟨rfl, h2⟩
    have hn := HN.out _ rfl
    go_wp2_with fail
    refine (sum_any (s ++ t) k3 _).mono ?_
    rintro e w3 ⟨rfl, h3⟩
    go_wp2_with fail
    refine (update_any _ t k2 _).mono ?_
    rintro e w4 ⟨rfl, h4⟩
    rw [H1.out, H3.out]
    go_wp2_with fail
    refine (combine_any _ _ t.size (by omega) _).mono ?_
    rintro e w5 ⟨rfl, h5⟩
    rw [show t.size = (bs t).length from rfl, H2.out]
    go_wp2_with fail
    refine (update_any 0#32 s k1 _).mono ?_
    rintro e w6 ⟨rfl, h6⟩
    rw [show ~~~ feed (~~~ 0#32) (bs s) = sum (bs s) from rfl]
    go_wp2_with fail
    refine (awake_any _).mono ?_
    rintro e w7 ⟨rfl, h7⟩
    go_wp2_with fail
    go_ret
    exact ⟨rfl, bt (bt (bt (bt (bt (bt h1 h2) h3) h4) h5) h6) h7⟩
  · by_cases g1 : 300 < s.size
    · clear g
      go_enter Try.func6, Try.ntmps6
      go_wp2_with fail
      refine (awake_any _).mono ?_
      rintro e w1 ⟨rfl, h1⟩
      go_wp2_with fail
      go_ret
      exact ⟨rfl, h1⟩
    · have g2 : 300 < t.size := by omega
      clear g
      go_enter Try.func6, Try.ntmps6
      go_wp2_with fail
      refine (awake_any _).mono ?_
      rintro e w1 ⟨rfl, h1⟩
      go_wp2_with fail
      go_ret
      exact ⟨rfl, h1⟩

theorem body_seal (l : List UInt8) (x : BitVec 32) : body (str (l ++ ending x)) = str l := by
  apply ByteArray.ext
  apply Array.toList_inj.1
  have h := body_tail (str (l ++ ending x))
  rw [bs_str] at h
  have h1 : (bs (body (str (l ++ ending x)))).length = l.length := by
    rw [bs_length, body_size, str_size, List.length_append]
    show l.length + 4 - 4 = _
    omega
  have := List.append_inj_left h h1.symm
  exact this.symm

set_option maxHeartbeats 400000 in
theorem lawSeals (s : ByteArray) (hs : s.size ≤ 140737488351232) (w : World) :
    Calls Try.prog 10 #[.string s] w fun e w' => e = .returned (.bool true) ∧ Below w.heap.size w w' := by
  by_cases h : 600 < s.size
  · go_enter Try.func10, Try.ntmps10
    go_wp2_with fail
    refine (awake_any _).mono ?_
    rintro e w1 ⟨rfl, h1⟩
    go_wp2_with fail
    go_ret
    exact ⟨rfl, h1⟩
  · have hm : s.size ≤ 100000 := by omega
    have hl : (str (bs s ++ ending (sum (bs s)))).size = s.size + 4 := by
      rw [str_size, List.length_append, bs_length]; rfl
    have HW : Hid (Whole (str (bs s ++ ending (sum (bs s))))) := Lib.hid (by
      rw [whole_iff, body_seal, bs_str])
    have HB : Hid (body (str (bs s ++ ending (sum (bs s)))) = s) := Lib.hid (by rw [body_seal]; rfl)
    have HG : Hid (u (sum (bs (str (bs s ++ ending (sum (bs s)))))) = 1214729159) := Lib.hid (by
      rw [bs_str, show sum (bs s ++ ending (sum (bs s))) = ~~~ feed (~~~ 0#32) (bs s ++ ending (sum (bs s))) from rfl, seal_good, good_val]; rfl)
    have HL := Lib.hid hl
    generalize hx : str (bs s ++ ending (sum (bs s))) = x at *
    have hx1 : x.size ≤ 100000 := by omega
    have hx2 : 4 ≤ x.size := by omega
    have hx3 : x.size ≤ maxLen := by unfold maxLen; omega
    have HX := Lib.hid hx
    clear hl hx
    go_enter Try.func10, Try.ntmps10
    go_wp2_with fail
    refine (seal_any s hm _).mono ?_
    rintro e w1 ⟨rfl, h1⟩
    rw [HX.out]
    go_wp2_with fail
    refine (open_good x hx1 hx2 HW.out _).mono ?_
    rintro e w2 ⟨rfl, h2⟩
    rw [HB.out]
    go_wp2_with fail
    refine (sum_any x hx3 _).mono ?_
    rintro e w3 ⟨rfl, h3⟩
    rw [HG.out]
    go_wp2_with fail
    refine (awake_any _).mono ?_
    rintro e w4 ⟨rfl, h4⟩
    go_wp2_with fail
    go_ret
    exact ⟨rfl, bt (bt (bt h1 h2) h3) h4⟩

set_option maxHeartbeats 400000 in
theorem lawAssoc (a b c : BitVec 32) (n m : Int) (h0 : -9223372036854775808 ≤ n) (h1 : n ≤ 9223372036854775807) (h2 : -9223372036854775808 ≤ m) (h3 : m ≤ 9223372036854775807) (w : World) :
    Calls Try.prog 11 #[.int .u32 (u a), .int .u32 (u b), .int .u32 (u c), .int .i64 n, .int .i64 m] w fun e w' => e = .returned (.bool true) ∧ Below w.heap.size w w' := by
  by_cases g : 0 ≤ n ∧ 0 ≤ m ∧ n ≤ 576460752303423488 ∧ m ≤ 576460752303423488
  · obtain ⟨g1, g2, g3, g4⟩ := g
    obtain ⟨n, rfl⟩ : ∃ k : Nat, n = (k : Int) := ⟨n.toNat, by omega⟩
    obtain ⟨m, rfl⟩ : ∃ k : Nat, m = (k : Int) := ⟨m.toNat, by omega⟩
    have k1 : n ≤ 9223372036854775807 := by omega
    have k2 : m ≤ 9223372036854775807 := by omega
    have k3 : n + m ≤ 9223372036854775807 := by omega
    have H := Lib.hid (comb_assoc a b c n m)
    go_enter Try.func11, Try.ntmps11
    go_wp2_with fail
    refine (combine_any a b n k1 _).mono ?_
    rintro e w1 ⟨rfl, h1⟩
    go_wp2_with fail
    refine (combine_any _ c m k2 _).mono ?_
    rintro e w2 ⟨rfl, h2⟩
    go_wp2_with fail
    refine (combine_any b c m k2 _).mono ?_
    rintro e w3 ⟨rfl, h3⟩
    go_wp2_with fail
    rw [show ((n : Int) + (m : Int)) = ((n + m : Nat) : Int) from by omega]
    refine (combine_any a _ (n + m) k3 _).mono ?_
    rintro e w4 ⟨rfl, h4⟩
    rw [H.out]
    go_wp2_with fail
    refine (awake_any _).mono ?_
    rintro e w5 ⟨rfl, h5⟩
    go_wp2_with fail
    go_ret
    exact ⟨rfl, bt (bt (bt (bt h1 h2) h3) h4) h5⟩
  · by_cases c1 : n < 0
    · clear g
      go_enter Try.func11, Try.ntmps11
      go_wp2_with fail
      refine (awake_any _).mono ?_
      rintro e w1 ⟨rfl, h1⟩
      go_wp2_with fail
      go_ret
      exact ⟨rfl, h1⟩
    · by_cases c2 : m < 0
      · clear g
        go_enter Try.func11, Try.ntmps11
        go_wp2_with fail
        refine (awake_any _).mono ?_
        rintro e w1 ⟨rfl, h1⟩
        go_wp2_with fail
        go_ret
        exact ⟨rfl, h1⟩
      · by_cases c3 : 576460752303423488 < n
        · clear g
          go_enter Try.func11, Try.ntmps11
          go_wp2_with fail
          refine (awake_any _).mono ?_
          rintro e w1 ⟨rfl, h1⟩
          go_wp2_with fail
          go_ret
          exact ⟨rfl, h1⟩
        · have c4 : 576460752303423488 < m := by omega
          clear g
          go_enter Try.func11, Try.ntmps11
          go_wp2_with fail
          refine (awake_any _).mono ?_
          rintro e w1 ⟨rfl, h1⟩
          go_wp2_with fail
          go_ret
          exact ⟨rfl, h1⟩
end Go.Proofs.Ythejhofnoolpcaa
