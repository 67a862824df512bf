/- Bits of a string inverted: plain mathematics. -/
import Derived.Test.YthejhofnoolpcaaMath
namespace Go.Proofs.Ythejhofnoolpcaa.Crc

/-- One bit of a string inverted. -/
def flip (l : List UInt8) (k : Nat) : List UInt8 := l.set (k / 8) (l.getD (k / 8) 0 ^^^ (1 : UInt8) <<< UInt8.ofNat (k % 8))
theorem flip_length (l : List UInt8) (k : Nat) : (flip l k).length = l.length := by simp [flip]

/-- The bit at a place. -/
def bitAt (l : List UInt8) (k : Nat) : Bool := (l.getD (k / 8) 0).toNat.testBit (k % 8)

theorem lo_get (j m q : Nat) (h : q < (lo j m).length) : (lo j m)[q] = m.testBit q := by
  induction j generalizing m q with
  | zero => simp [lo] at h
  | succ j ih =>
    rcases q with _ | q
    · simp [lo, Nat.testBit_zero]
      rcases Nat.mod_two_eq_zero_or_one m with h | h <;> simp [h]
    · simp only [lo, List.getElem_cons_succ]
      rw [ih, Nat.testBit_succ]
theorem bitsOf_get (s : List UInt8) (k : Nat) (h : k < (bitsOf s).length) : (bitsOf s)[k] = bitAt s k := by
  induction s generalizing k with
  | nil => simp [bitsOf] at h
  | cons c s ih =>
    have e : bitsOf (c :: s) = lo 8 c.toNat ++ bitsOf s := by simp [bitsOf]
    rw [List.getElem_of_eq e h]
    by_cases h8 : k < 8
    · rw [List.getElem_append_left (by rw [lo_length]; exact h8), lo_get]
      unfold bitAt
      rw [Nat.div_eq_of_lt h8, Nat.mod_eq_of_lt h8]; rfl
    · have e1 : k / 8 = (k - 8) / 8 + 1 := by omega
      have e2 : k % 8 = (k - 8) % 8 := by omega
      rw [List.getElem_append_right (by rw [lo_length]; omega)]
      simp only [lo_length]
      rw [ih]
      unfold bitAt
      rw [e1, e2]; rfl

theorem one_shl (r : Nat) (h : r < 8) (q : Nat) : ((1 : UInt8) <<< UInt8.ofNat r).toNat.testBit q = decide (q = r) := by
  have e : ((1 : UInt8) <<< UInt8.ofNat r).toNat = 2 ^ r := by
    rcases r with _ | _ | _ | _ | _ | _ | _ | _ | r <;> first | rfl | omega
  rw [e, Nat.testBit_two_pow]
  exact decide_eq_decide.2 eq_comm
theorem flip_bit (l : List UInt8) (k q : Nat) (hk : k < 8 * l.length) : bitAt (flip l k) q = (bitAt l q ^^ decide (q = k)) := by
  unfold bitAt flip
  by_cases e : k / 8 = q / 8
  · rw [e]
    have hq : q / 8 < l.length := by omega
    rw [List.getD_eq_getElem?_getD, List.getElem?_set_self (by exact hq), Option.getD_some, UInt8.toNat_xor, Nat.testBit_xor, one_shl _ (by omega)]
    congr 1
    exact decide_eq_decide.2 (by omega)
  · rw [List.getD_eq_getElem?_getD, List.getElem?_set_ne e]
    have : decide (q = k) = false := by rw [decide_eq_false_iff_not]; intro h; exact e (by rw [h])
    rw [this]; simp

/-- Two strings whose bits differ as told. -/
theorem bits_diff (l m : List UInt8) (d : List Bool) (hl : m.length = l.length) (hd : d.length = 8 * l.length) (h : ∀ k (hk : k < d.length), bitAt m k = (bitAt l k ^^ d[k])) :
    bitsOf m = List.zipWith (· ^^ ·) (bitsOf l) d := by
  apply List.ext_getElem
  · rw [List.length_zipWith, bitsOf_length, bitsOf_length, hl, hd, Nat.min_self]
  · intro k h1 h2
    rw [bitsOf_get, List.getElem_zipWith, bitsOf_get]
    exact h k _
theorem differ_feed (l m : List UInt8) (d : List Bool) (hd : d.length = 8 * l.length) (h : bitsOf m = List.zipWith (· ^^ ·) (bitsOf l) d) (h0 : fb 0#32 d ≠ 0#32) (r : BitVec 32) : feed r m ≠ feed r l := by
  intro e
  rw [feed_bits, feed_bits, h, fb_reg0 _ _ _ (by rw [bitsOf_length, hd])] at e
  have := congrArg (fb r (bitsOf l) ^^^ ·) e
  simp only [← BitVec.xor_assoc, BitVec.xor_self, BitVec.zero_xor] at this
  exact h0 this

/-- The first i of 32 bits of a mask inverted, from a bit on. -/
def burstTo (l : List UInt8) (mask bit : Nat) : Nat → List UInt8
  | 0 => l
  | i + 1 => if mask.testBit i then flip (burstTo l mask bit i) (bit + i) else burstTo l mask bit i
theorem burstTo_length (l : List UInt8) (mask bit i : Nat) : (burstTo l mask bit i).length = l.length := by
  induction i with
  | zero => rfl
  | succ i ih => rw [burstTo]; split <;> simp [flip_length, ih]
/-- All of the first i bits have room. -/
def Room (n mask bit i : Nat) : Prop := ∀ j, j < i → mask.testBit j = true → bit + j < 8 * n
theorem Room.zero (n mask bit : Nat) : Room n mask bit 0 := fun j h => by omega
theorem Room.no {n mask bit i : Nat} (h : Room n mask bit i) (hb : mask.testBit i = false) : Room n mask bit (i + 1) := fun j hj ht => by
  by_cases e : j = i
  · subst e; rw [hb] at ht; cases ht
  · exact h j (by omega) ht
theorem Room.yes {n mask bit i : Nat} (h : Room n mask bit i) (hr : bit + i < 8 * n) : Room n mask bit (i + 1) := fun j hj ht => by
  by_cases e : j = i
  · subst e; exact hr
  · exact h j (by omega) ht
theorem burstTo_bit (l : List UInt8) (mask bit i q : Nat) (h : Room l.length mask bit i) : bitAt (burstTo l mask bit i) q = (bitAt l q ^^ (decide (bit ≤ q ∧ q < bit + i) && mask.testBit (q - bit))) := by
  induction i with
  | zero =>
    have : decide (bit ≤ q ∧ q < bit + 0) = false := by rw [decide_eq_false_iff_not]; omega
    rw [this]; simp [burstTo]
  | succ i ih =>
    have ih := ih (fun j hj ht => h j (by omega) ht)
    rw [burstTo]
    by_cases e : q = bit + i
    · have e1 : decide (bit ≤ q ∧ q < bit + i) = false := by rw [decide_eq_false_iff_not]; omega
      have e2 : decide (bit ≤ q ∧ q < bit + (i + 1)) = true := by rw [decide_eq_true_iff]; omega
      have e3 : q - bit = i := by omega
      rw [e1] at ih
      rw [e2, e3]
      split
      · rename_i ht
        rw [flip_bit _ _ _ (by rw [burstTo_length]; exact h i (by omega) ht), ih, ht, e]; simp
      · rename_i ht
        have : mask.testBit i = false := by simpa using ht
        rw [ih, this]; simp
    · have e1 : decide (bit ≤ q ∧ q < bit + i) = decide (bit ≤ q ∧ q < bit + (i + 1)) := decide_eq_decide.2 (by omega)
      rw [← e1]
      split
      · rename_i ht
        rw [flip_bit _ _ _ (by rw [burstTo_length]; exact h i (by omega) ht), ih]
        simp [e]
      · exact ih
/-- A burst changes what is fed. -/
theorem burst_feed (l : List UInt8) (mask bit : Nat) (hm : mask < 2 ^ 32) (h0 : mask ≠ 0) (h : Room l.length mask bit 32) (r : BitVec 32) : feed r (burstTo l mask bit 32) ≠ feed r l := by
  -- where the bits that differ begin there is room for one of them at least
  have hb : bit < 8 * l.length := by
    rcases Nat.lt_or_ge bit (8 * l.length) with h1 | h1
    · exact h1
    · exfalso
      apply h0
      apply Nat.eq_of_testBit_eq
      intro j
      rw [Nat.zero_testBit]
      rcases ht : mask.testBit j
      · rfl
      · by_cases hj : j < 32
        · have := h j hj ht; omega
        · rw [Nat.testBit_lt_two_pow (Nat.lt_of_lt_of_le hm (Nat.pow_le_pow_right (by decide) (by omega)))] at ht
          cases ht
  obtain ⟨j, hj⟩ : ∃ j, j = min 32 (8 * l.length - bit) := ⟨_, rfl⟩
  have hmj : mask < 2 ^ j := by
    apply Nat.lt_pow_two_of_testBit
    intro i hi
    rcases ht : mask.testBit i
    · rfl
    · exfalso
      by_cases h32 : i < 32
      · have := h i h32 ht; omega
      · rw [Nat.testBit_lt_two_pow (Nat.lt_of_lt_of_le hm (Nat.pow_le_pow_right (by decide) (by omega)))] at ht
        cases ht
  refine differ_feed l _ (List.replicate bit false ++ (lo j mask ++ List.replicate (8 * l.length - bit - j) false)) ?_ (bits_diff _ _ _ (burstTo_length _ _ _ _) ?_ ?_) (fb_burst bit j _ mask hmj (by omega) h0) r
  · simp [lo_length]; omega
  · simp [lo_length]; omega
  · intro k hk
    rw [burstTo_bit _ _ _ _ _ h]
    congr 1
    simp only [List.getElem_append, List.length_replicate, lo_length, List.getElem_replicate, lo_get]
    have hk2 : k < 8 * l.length := by simp [lo_length] at hk; omega
    by_cases c1 : k < bit
    · rw [dif_pos c1]; simp; omega
    · rw [dif_neg c1]
      by_cases c2 : k - bit < j
      · rw [dif_pos c2]; simp; omega
      · rw [dif_neg c2]; simp; omega

/-! ### Parity -/
theorem parity_append (l m : List Bool) : parity (l ++ m) = (parity l ^^ parity m) := by
  unfold parity
  rw [List.foldl_append, foldl_xor]; rfl
theorem parity_zip (l d : List Bool) (h : d.length = l.length) : parity (List.zipWith (· ^^ ·) l d) = (parity l ^^ parity d) := by
  induction l generalizing d with
  | nil => 
    have : d = [] := List.eq_nil_of_length_eq_zero h
    subst this; rfl
  | cons a l ih =>
    rcases d with _ | ⟨b, d⟩
    · simp at h
    · rw [List.zipWith_cons_cons, parity_cons, parity_cons, parity_cons, ih d (by simpa using h)]
      cases a <;> cases b <;> cases parity l <;> cases parity d <;> rfl
theorem parity_false (n : Nat) : parity (List.replicate n false) = false := by
  induction n with
  | zero => rfl
  | succ n ih => rw [List.replicate_succ, parity_cons, ih]; rfl
theorem parity_flip (l : List UInt8) (k : Nat) (hk : k < 8 * l.length) : parity (bitsOf (flip l k)) = !parity (bitsOf l) := by
  have h := bits_diff l (flip l k) (List.replicate k false ++ (true :: List.replicate (8 * l.length - k - 1) false)) (flip_length l k) (by simp; omega) (fun q hq => by
    rw [flip_bit l k q hk]
    congr 1
    simp only [List.getElem_append, List.length_replicate, List.getElem_replicate, List.getElem_cons]
    by_cases c1 : q < k
    · rw [dif_pos c1]; simp; omega
    · rw [dif_neg c1]
      by_cases c2 : q - k = 0
      · rw [dif_pos c2]; simp; omega
      · rw [dif_neg c2]; simp; omega)
  rw [h, parity_zip _ _ (by simp [bitsOf_length]; omega), parity_append, parity_cons, parity_false, parity_false]
  cases parity (bitsOf l) <;> rfl
/-- A string whose bits have another parity comes to another register. -/
theorem parity_feed (l m : List UInt8) (h : parity (bitsOf m) = !parity (bitsOf l)) (r : BitVec 32) : feed r m ≠ feed r l := by
  intro e
  rw [feed_bits, feed_bits] at e
  have h2 := congrArg (par 32) e
  rw [par_fb, par_fb, h] at h2
  cases par 32 r <;> cases parity (bitsOf l) <;> simp at h2
end Go.Proofs.Ythejhofnoolpcaa.Crc
