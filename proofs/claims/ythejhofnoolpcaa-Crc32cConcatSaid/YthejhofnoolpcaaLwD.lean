/- Linear, and the walk of burst: bits of a string inverted. -/
import Derived.Test.YthejhofnoolpcaaLwC
namespace Go.Proofs.Ythejhofnoolpcaa
open Go.RowKit Crc

theorem byte_xor (x y : UInt8) : byte (x ^^^ y) = byte x ^^^ byte y := by
  unfold byte
  apply BitVec.eq_of_toNat_eq
  have h1 := x.toNat_lt
  have h2 := y.toNat_lt
  have h3 := (x ^^^ y).toNat_lt
  rw [BitVec.toNat_xor, BitVec.toNat_ofNat, BitVec.toNat_ofNat, BitVec.toNat_ofNat, Nat.mod_eq_of_lt (by omega), Nat.mod_eq_of_lt (by omega), Nat.mod_eq_of_lt (by omega), UInt8.toNat_xor]
theorem feed_xor (r q : BitVec 32) (l m : List UInt8) (h : l.length = m.length) : feed (r ^^^ q) (List.zipWith (· ^^^ ·) l m) = feed r l ^^^ feed q m := by
  induction l generalizing r q m with
  | nil =>
    have : m = [] := List.eq_nil_of_length_eq_zero h.symm
    subst this; rfl
  | cons a l ih =>
    rcases m with _ | ⟨b, m⟩
    · simp at h
    · simp only [List.zipWith_cons_cons, feed_cons]
      rw [byte_xor, xor4, sh_xor, ih _ _ _ (by simpa using h)]
theorem sum_mix3 (a b c : List UInt8) (hb : b.length = a.length) (hc : c.length = a.length) : sum (mix3 a b c) = sum a ^^^ sum b ^^^ sum c := by
  unfold mix3
  have h1 := feed_xor (~~~ 0#32) (~~~ 0#32) b c (by omega)
  rw [BitVec.xor_self] at h1
  have h2 := feed_xor (~~~ 0#32) 0#32 a (List.zipWith (· ^^^ ·) b c) (by simp [hb, hc])
  rw [BitVec.xor_zero, h1] at h2
  unfold sum
  rw [h2]
  have n : ∀ x : BitVec 32, ~~~ x = x ^^^ BitVec.allOnes 32 := fun x => BitVec.xor_allOnes.symm
  generalize feed (~~~ 0#32) a = x
  generalize feed (~~~ 0#32) b = y
  generalize feed (~~~ 0#32) c = z
  rw [n, n x, n y, n z]
  have e : ∀ x y z o : BitVec 32, x ^^^ (y ^^^ z) ^^^ o = x ^^^ o ^^^ (y ^^^ o) ^^^ (z ^^^ o) := fun x y z o => by
    have : x ^^^ o ^^^ (y ^^^ o) ^^^ (z ^^^ o) = x ^^^ (y ^^^ z) ^^^ o ^^^ (o ^^^ o) := by ac_rfl
    rw [this, BitVec.xor_self, BitVec.xor_zero]
  exact e _ _ _ _

set_option maxHeartbeats 400000 in
theorem lawLinear (a b c : ByteArray) (w : World) (hx : a.size ≤ 140737488351232) (_hy : b.size ≤ 140737488351232) (_hz : c.size ≤ 140737488351232) :
    Calls Try.prog 7 #[.string a, .string b, .string c] w fun e w' => e = .returned (.bool true) ∧ Below w.heap.size w w' := by
  by_cases g1 : 300 < a.size
  · go_enter Try.func7, Try.ntmps7
    go_wp2_with fail
    refine (awake_any _).mono ?_
    rintro e w1 ⟨rfl, h1⟩
    go_wp2_with fail
    go_ret
    exact ⟨rfl, h1⟩
  · by_cases g2 : b.size = a.size
    · by_cases g3 : c.size = a.size
      · have hl := mix3_length (bs a) (bs b) (bs c) g2 g3
        have HM := Lib.hid (sum_mix3 (bs a) (bs b) (bs c) g2 g3)
        have ha : a.size ≤ 300 := by omega
        have k1 : a.size ≤ maxLen := by unfold maxLen; omega
        have k2 : b.size ≤ maxLen := by unfold maxLen; omega
        have k3 : c.size ≤ maxLen := by unfold maxLen; omega
        rw [bs_length] at hl
        have k4 : (str (mix3 (bs a) (bs b) (bs c))).size ≤ maxLen := by rw [str_size, hl]; exact k1
        have G2 := Lib.hid g2
        have G3 := Lib.hid g3
        have c1 : (↑b.size == (↑a.size : Int)) = true := by rw [g2]; exact beq_self_eq_true _
        have c2 : (↑c.size == (↑a.size : Int)) = true := by rw [g3]; exact beq_self_eq_true _
        have d1 : (↑b.size != (↑a.size : Int)) = false := by rw [g2]; simp
        have d2 : (↑c.size != (↑a.size : Int)) = false := by rw [g3]; simp
        have e1 : (b.size != a.size) = false := by rw [g2]; simp
        have e2 : (c.size != a.size) = false := by rw [g3]; simp
        clear hl g2 g3
        go_enter Try.func7, Try.ntmps7
        go_wp2_with fail
        refine (xor_any a b c ha G2.out G3.out _).mono ?_
        rintro e w1 ⟨rfl, h1⟩
        go_wp2_with fail
        refine (sum_any _ k4 _).mono ?_
        rintro e w2 ⟨rfl, h2⟩
        rw [bs_str, HM.out]
        go_wp2_with fail
        refine (sum_any a k1 _).mono ?_
        rintro e w3 ⟨rfl, h3⟩
        go_wp2_with fail
        refine (sum_any b k2 _).mono ?_
        rintro e w4 ⟨rfl, h4⟩
        have hx1 := u_xor (sum (bs a)) (sum (bs b))
        have hx2 := u_xor (sum (bs a) ^^^ sum (bs b)) (sum (bs c))
        go_wp2_with fail
        refine (sum_any c k3 _).mono ?_
        rintro e w5 ⟨rfl, h5⟩
        go_wp2_with fail
        refine (awake_any _).mono ?_
        rintro e w6 ⟨rfl, h6⟩
        go_wp2_with fail
        go_ret
        exact ⟨rfl, bt (bt (bt (bt (bt h1 h2) h3) h4) h5) h6⟩
      · have d1 : (↑b.size != (↑a.size : Int)) = false := by rw [g2]; simp
        have d2 : (↑c.size != (↑a.size : Int)) = true := by rw [bne_iff_ne]; omega
        have ha : a.size ≤ 300 := by omega
        have e1 : (b.size != a.size) = false := by rw [g2]; simp
        have e2 : (c.size != a.size) = true := by rw [bne_iff_ne]; omega
        clear g1 g2 g3
        go_enter Try.func7, Try.ntmps7
        go_wp2_with fail
        refine (awake_any _).mono ?_
        rintro e w1 ⟨rfl, h1⟩
        go_wp2_with fail
        go_ret
        exact ⟨rfl, h1⟩
    · have d2 : (↑b.size != (↑a.size : Int)) = true := by rw [bne_iff_ne]; omega
      have ha : a.size ≤ 300 := by omega
      have e2 : (b.size != a.size) = true := by rw [bne_iff_ne]; omega
      clear g1 g2
      go_enter Try.func7, Try.ntmps7
      go_wp2_with fail
      refine (awake_any _).mono ?_
      rintro e w1 ⟨rfl, h1⟩
      go_wp2_with fail
      go_ret
      exact ⟨rfl, h1⟩
end Go.Proofs.Ythejhofnoolpcaa
