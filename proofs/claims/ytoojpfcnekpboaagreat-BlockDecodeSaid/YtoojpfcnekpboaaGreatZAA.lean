/- Plain mathematics of CRC-32C: shifting, feeding, parity, seals; no program. -/
namespace Go.Proofs.YtoojpfcnekpboaaGreat.Crc

def P : BitVec 32 := 0x82F63B78#32
def sh1 (r : BitVec 32) : BitVec 32 := (r >>> 1) ^^^ (if r.getLsbD 0 then P else 0#32)

theorem xor4 (a b p q : BitVec 32) : (a ^^^ b) ^^^ (p ^^^ q) = (a ^^^ p) ^^^ (b ^^^ q) := by ac_rfl
theorem sh1_xor (a b : BitVec 32) : sh1 (a ^^^ b) = sh1 a ^^^ sh1 b := by
  unfold sh1
  rw [BitVec.getLsbD_xor, BitVec.ushiftRight_xor_distrib, ← xor4]
  congr 1
  cases a.getLsbD 0 <;> cases b.getLsbD 0 <;> simp

theorem sh1_zero : sh1 0#32 = 0#32 := by decide

theorem sh1_eq_zero {a : BitVec 32} (h : sh1 a = 0#32) : a = 0#32 := by
  have h31 : (sh1 a).getLsbD 31 = a.getLsbD 0 := by
    unfold sh1
    rw [BitVec.getLsbD_xor, BitVec.getLsbD_ushiftRight]
    cases a.getLsbD 0 <;> simp [P]
  have h0 : a.getLsbD 0 = false := by rw [← h31, h]; simp
  unfold sh1 at h
  rw [h0] at h
  simp at h
  apply BitVec.eq_of_getLsbD_eq
  intro i hi
  rcases i with _ | i
  · rw [h0]; simp
  · have := congrArg (fun x => x.getLsbD i) h
    simp at this
    rw [Nat.add_comm]; simpa using this

def sh : Nat → BitVec 32 → BitVec 32
  | 0, r => r
  | n + 1, r => sh n (sh1 r)

theorem sh_xor (n : Nat) (a b : BitVec 32) : sh n (a ^^^ b) = sh n a ^^^ sh n b := by
  induction n generalizing a b with
  | zero => rfl
  | succ n ih => simp only [sh, sh1_xor, ih]
theorem sh_zero (n : Nat) : sh n 0#32 = 0#32 := by
  induction n with
  | zero => rfl
  | succ n ih => simp only [sh, sh1_zero, ih]
theorem sh_eq_zero {n : Nat} {a : BitVec 32} (h : sh n a = 0#32) : a = 0#32 := by
  induction n generalizing a with
  | zero => exact h
  | succ n ih => exact sh1_eq_zero (ih h)
theorem xor_eq_zero {a b : BitVec 32} (h : a ^^^ b = 0#32) : a = b := by
  have := congrArg (· ^^^ b) h
  simpa [BitVec.xor_assoc] using this
theorem sh_inj {n : Nat} {a b : BitVec 32} (h : sh n a = sh n b) : a = b := by
  apply xor_eq_zero
  apply sh_eq_zero (n := n)
  rw [sh_xor, h, BitVec.xor_self]
theorem sh_add (m n : Nat) (a : BitVec 32) : sh (m + n) a = sh m (sh n a) := by
  induction n generalizing a with
  | zero => rfl
  | succ n ih => rw [← Nat.add_assoc]; simp only [sh, ih]

/-- One bit fed. -/
def bit (b : Bool) : BitVec 32 := if b then 1#32 else 0#32
def fb (r : BitVec 32) (l : List Bool) : BitVec 32 := l.foldl (fun r b => sh1 (r ^^^ bit b)) r
theorem fb_nil (r : BitVec 32) : fb r [] = r := rfl
theorem fb_cons (r : BitVec 32) (b : Bool) (l : List Bool) : fb r (b :: l) = fb (sh1 (r ^^^ bit b)) l := rfl
theorem fb_append (r : BitVec 32) (l m : List Bool) : fb r (l ++ m) = fb (fb r l) m := by simp [fb, List.foldl_append]

/-- The low j bits of a number, the least first. -/
def lo : Nat → Nat → List Bool
  | 0, _ => []
  | j + 1, m => (m % 2 == 1) :: lo j (m / 2)
theorem lo_length (j m : Nat) : (lo j m).length = j := by
  induction j generalizing m with
  | zero => rfl
  | succ j ih => simp [lo, ih]
theorem sh1_bit (m : Nat) (h : m < 4294967296) : sh1 (BitVec.ofNat 32 m) = sh1 (bit (m % 2 == 1)) ^^^ BitVec.ofNat 32 (m / 2) := by
  have e : BitVec.ofNat 32 m = bit (m % 2 == 1) ^^^ BitVec.ofNat 32 (m / 2 * 2) := by
    apply BitVec.eq_of_getLsbD_eq
    intro i hi
    rw [BitVec.getLsbD_xor, BitVec.getLsbD_ofNat, BitVec.getLsbD_ofNat]
    unfold bit
    rcases i with _ | i
    · rcases Nat.mod_two_eq_zero_or_one m with h0 | h0 <;> simp [h0, Nat.testBit_zero]
    · rcases Nat.mod_two_eq_zero_or_one m with h0 | h0 <;> simp [h0, Nat.testBit_succ, hi]
  have e2 : sh1 (BitVec.ofNat 32 (m / 2 * 2)) = BitVec.ofNat 32 (m / 2) := by
    unfold sh1
    have h0 : (BitVec.ofNat 32 (m / 2 * 2)).getLsbD 0 = false := by rw [BitVec.getLsbD_ofNat]; simp [Nat.testBit_zero]
    rw [h0]
    simp
    apply BitVec.eq_of_toNat_eq
    rw [BitVec.toNat_ushiftRight, BitVec.toNat_ofNat, BitVec.toNat_ofNat, Nat.shiftRight_eq_div_pow]
    omega
  rw [e, sh1_xor, e2]
theorem fb_lo (j m : Nat) (r : BitVec 32) (h : m < 2 ^ j) (hj : j ≤ 32) : fb r (lo j m) = sh j (r ^^^ BitVec.ofNat 32 m) := by
  induction j generalizing m r with
  | zero => 
    have : m = 0 := by omega
    subst this
    simp [lo, fb, sh]
  | succ j ih =>
    have hm : m < 4294967296 := Nat.lt_of_lt_of_le h (Nat.le_trans (Nat.pow_le_pow_right (by decide) hj) (by decide))
    rw [lo, fb_cons, ih (m / 2) _ (by rw [Nat.pow_succ] at h; omega) (by omega)]
    simp only [sh]
    rw [sh1_xor, sh1_xor, sh1_bit m hm, BitVec.xor_assoc]

/-- The register fed with a string. -/
def byte (c : UInt8) : BitVec 32 := BitVec.ofNat 32 c.toNat
def feed (r : BitVec 32) (s : List UInt8) : BitVec 32 := s.foldl (fun r c => sh 8 (r ^^^ byte c)) r
def bitsOf (s : List UInt8) : List Bool := s.flatMap fun c => lo 8 c.toNat
theorem feed_nil (r : BitVec 32) : feed r [] = r := rfl
theorem feed_cons (r : BitVec 32) (c : UInt8) (l : List UInt8) : feed r (c :: l) = feed (sh 8 (r ^^^ byte c)) l := rfl
theorem feed_append (r : BitVec 32) (l m : List UInt8) : feed r (l ++ m) = feed (feed r l) m := by simp [feed, List.foldl_append]
theorem feed_bits (r : BitVec 32) (s : List UInt8) : feed r s = fb r (bitsOf s) := by
  induction s generalizing r with
  | nil => rfl
  | cons c s ih =>
    rw [feed_cons, ih]
    have : bitsOf (c :: s) = lo 8 c.toNat ++ bitsOf s := by simp [bitsOf]
    rw [this, fb_append, fb_lo 8 c.toNat r c.toNat_lt (by decide)]
    rfl
theorem bitsOf_length (s : List UInt8) : (bitsOf s).length = 8 * s.length := by
  induction s with
  | nil => rfl
  | cons c s ih =>
    have : bitsOf (c :: s) = lo 8 c.toNat ++ bitsOf s := by simp [bitsOf]
    rw [this, List.length_append, ih, lo_length, List.length_cons]; omega

/-- Feeding is linear in the register and the bits. -/
theorem bit_xor (a b : Bool) : bit (a ^^ b) = bit a ^^^ bit b := by cases a <;> cases b <;> simp [bit]
theorem fb_xor (r q : BitVec 32) (l m : List Bool) (h : l.length = m.length) : fb (r ^^^ q) (List.zipWith (· ^^ ·) l m) = fb r l ^^^ fb q m := by
  induction l generalizing r q m with
  | nil => 
    have : m = [] := List.eq_nil_of_length_eq_zero h.symm
    subst this
    rfl
  | cons a l ih =>
    rcases m with _ | ⟨b, m⟩
    · simp at h
    · simp only [List.zipWith_cons_cons, fb_cons]
      rw [bit_xor, xor4, sh1_xor, ih _ _ _ (by simpa using h)]
theorem feed_reg (r q : BitVec 32) (l : List UInt8) : feed (r ^^^ q) l = feed r l ^^^ sh (8 * l.length) q := by
  induction l generalizing r q with
  | nil => rfl
  | cons c l ih =>
    rw [feed_cons, feed_cons]
    have : r ^^^ q ^^^ byte c = (r ^^^ byte c) ^^^ q := by ac_rfl
    rw [this, sh_xor, ih, List.length_cons, Nat.mul_succ, Nat.add_comm (8 * l.length) 8, Nat.add_comm 8, sh_add]

theorem fb_reg0 (r : BitVec 32) (l m : List Bool) (h : l.length = m.length) : fb r (List.zipWith (· ^^ ·) l m) = fb r l ^^^ fb 0#32 m := by
  have := fb_xor r 0#32 l m h
  simpa using this

/-! ### Nonzero differences -/
theorem fb_zeros (r : BitVec 32) (n : Nat) : fb r (List.replicate n false) = sh n r := by
  induction n generalizing r with
  | zero => rfl
  | succ n ih => rw [List.replicate_succ, fb_cons, ih]; simp [bit, sh]
/-- A burst. -/
theorem fb_burst (a j b m : Nat) (hm : m < 2 ^ j) (hj : j ≤ 32) (h0 : m ≠ 0) : fb 0#32 (List.replicate a false ++ (lo j m ++ List.replicate b false)) ≠ 0#32 := by
  rw [fb_append, fb_zeros, sh_zero, fb_append, fb_lo j m _ hm hj, fb_zeros]
  intro h
  have h2 := sh_eq_zero (sh_eq_zero h)
  have h3 := congrArg BitVec.toNat h2
  have : m < 4294967296 := Nat.lt_of_lt_of_le hm (Nat.le_trans (Nat.pow_le_pow_right (by decide) hj) (by decide))
  simp at h3
  omega

/-- The parity of a register. -/
def par : Nat → BitVec 32 → Bool
  | 0, _ => false
  | n + 1, r => par n r ^^ r.getLsbD n
theorem par_xor (n : Nat) (a b : BitVec 32) : par n (a ^^^ b) = (par n a ^^ par n b) := by
  induction n with
  | zero => rfl
  | succ n ih => simp only [par, ih, BitVec.getLsbD_xor]; cases par n a <;> cases par n b <;> cases a.getLsbD n <;> simp
theorem par_shr (n : Nat) (a : BitVec 32) (h : n ≤ 31) : (par n (a >>> 1) ^^ a.getLsbD 0) = par (n + 1) a := by
  induction n with
  | zero => simp [par]
  | succ n ih =>
    rw [par, par, ← ih (by omega), BitVec.getLsbD_ushiftRight, Nat.add_comm 1 n]
    cases par n (a >>> 1) <;> cases a.getLsbD 0 <;> cases a.getLsbD (n + 1) <;> rfl
theorem par_sh1 (a : BitVec 32) : par 32 (sh1 a) = par 32 a := by
  unfold sh1
  rw [par_xor, ← par_shr 31 a (by decide)]
  have h1 : par 32 (a >>> 1) = par 31 (a >>> 1) := by
    show (par 31 (a >>> 1) ^^ (a >>> 1).getLsbD 31) = _
    rw [BitVec.getLsbD_ushiftRight]
    simp
  rw [h1]
  have p0 : par 32 (0#32) = false := by decide
  have p1 : par 32 P = true := by decide
  cases h : a.getLsbD 0 <;> simp [p0, p1]
def parity (l : List Bool) : Bool := l.foldl (· ^^ ·) false
theorem foldl_xor (l : List Bool) (b : Bool) : l.foldl (· ^^ ·) b = (b ^^ parity l) := by
  unfold parity
  induction l generalizing b with
  | nil => simp
  | cons a l ih => rw [List.foldl_cons, List.foldl_cons, ih, ih (false ^^ a)]; cases a <;> cases b <;> simp
theorem parity_cons (b : Bool) (l : List Bool) : parity (b :: l) = (b ^^ parity l) := by
  show l.foldl (· ^^ ·) (false ^^ b) = _
  rw [foldl_xor]; simp
theorem par_fb (r : BitVec 32) (l : List Bool) : par 32 (fb r l) = (par 32 r ^^ parity l) := by
  induction l generalizing r with
  | nil => simp [fb, parity]
  | cons b l ih =>
    rw [fb_cons, ih, par_sh1, par_xor, parity_cons]
    have : par 32 (bit b) = b := by cases b <;> decide
    rw [this]; cases par 32 r <;> cases b <;> simp
theorem fb_odd (l : List Bool) (h : parity l = true) : fb 0#32 l ≠ 0#32 := by
  intro e
  have := par_fb 0#32 l
  rw [e, h] at this
  revert this
  decide

/-! ### Sum, seals -/
def sum (s : List UInt8) : BitVec 32 := ~~~ (feed (~~~ 0#32) s)
def ending (c : BitVec 32) : List UInt8 := [UInt8.ofNat (c.toNat % 256), UInt8.ofNat (c.toNat / 256 % 256), UInt8.ofNat (c.toNat / 65536 % 256), UInt8.ofNat (c.toNat / 16777216 % 256)]
theorem lo_append (i j m : Nat) : lo (i + j) m = lo i m ++ lo j (m / 2 ^ i) := by
  induction i generalizing m with
  | zero => simp [lo]
  | succ i ih =>
    rw [Nat.succ_add, lo, lo, ih, Nat.pow_succ, Nat.mul_comm, ← Nat.div_div_eq_div_mul]; rfl
theorem lo_mod (i m : Nat) : lo i (m % 2 ^ i) = lo i m := by
  induction i generalizing m with
  | zero => rfl
  | succ i ih =>
    have e1 : m % 2 ^ (i + 1) % 2 = m % 2 := Nat.mod_mod_of_dvd m ⟨2 ^ i, by rw [Nat.pow_succ, Nat.mul_comm]⟩
    have e2 : m % 2 ^ (i + 1) / 2 = m / 2 % 2 ^ i := by
      rw [Nat.pow_succ, Nat.mul_comm, Nat.mod_mul_right_div_self]
    rw [lo, lo, ← ih (m / 2), e1, e2]
theorem lo32 (n : Nat) : lo 32 n = lo 8 n ++ (lo 8 (n / 256) ++ (lo 8 (n / 65536) ++ lo 8 (n / 16777216))) := by
  rw [show (32 : Nat) = 8 + (8 + (8 + 8)) from rfl, lo_append, lo_append, lo_append, Nat.div_div_eq_div_mul, Nat.div_div_eq_div_mul]
theorem bits_ending (c : BitVec 32) : bitsOf (ending c) = lo 32 c.toNat := by
  rw [lo32]
  unfold bitsOf ending
  have e : ∀ n, lo 8 (UInt8.ofNat (n % 256)).toNat = lo 8 n := by
    intro n
    rw [UInt8.toNat_ofNat']
    exact (congrArg (lo 8) (Nat.mod_mod _ _)).trans (lo_mod 8 n)
  simp only [List.flatMap_cons, List.flatMap_nil, e, List.append_nil]
theorem ofNat_toNat (c : BitVec 32) : BitVec.ofNat 32 c.toNat = c := by simp
theorem feed_ending (r c : BitVec 32) : feed r (ending c) = sh 32 (r ^^^ c) := by
  rw [feed_bits, bits_ending, fb_lo 32 _ _ c.isLt (Nat.le_refl _), ofNat_toNat]
theorem not0 : ~~~ 0#32 = BitVec.allOnes 32 := by decide
theorem xor_not (r : BitVec 32) : r ^^^ ~~~ r = ~~~ 0#32 := by
  rw [not0, ← BitVec.xor_allOnes, ← BitVec.xor_assoc, BitVec.xor_self, BitVec.zero_xor]
/-- What a sealed string comes to. -/
def good : BitVec 32 := sh 32 (~~~ 0#32)
theorem seal_good (s : List UInt8) : feed (~~~ 0#32) (s ++ ending (sum s)) = good := by
  rw [feed_append, feed_ending]
  unfold sum good
  rw [xor_not]
theorem good_seal (s : List UInt8) (c : BitVec 32) (h : feed (~~~ 0#32) (s ++ ending c) = good) : c = sum s := by
  rw [feed_append, feed_ending] at h
  have := sh_inj h
  unfold sum
  have h2 := congrArg (feed (~~~ 0#32) s ^^^ ·) this
  simp only [← BitVec.xor_assoc, BitVec.xor_self] at h2
  rw [BitVec.zero_xor] at h2
  rw [h2, not0, BitVec.xor_allOnes]
theorem good_val : ~~~ good = 0x48674BC7#32 := by decide

/-! ### Several bits at a time -/
theorem sh_lo (j m : Nat) (hm : m < 4294967296) : sh j (BitVec.ofNat 32 m) = sh j (BitVec.ofNat 32 (m % 2 ^ j)) ^^^ BitVec.ofNat 32 (m / 2 ^ j) := by
  induction j generalizing m with
  | zero => simp [sh, Nat.mod_one]
  | succ j ih =>
    have hm2 : m % 2 ^ (j + 1) < 4294967296 := Nat.lt_of_le_of_lt (Nat.mod_le _ _) hm
    have e1 : m % 2 ^ (j + 1) % 2 = m % 2 := Nat.mod_mod_of_dvd m ⟨2 ^ j, by rw [Nat.pow_succ, Nat.mul_comm]⟩
    have e2 : m % 2 ^ (j + 1) / 2 = m / 2 % 2 ^ j := by
      rw [Nat.pow_succ, Nat.mul_comm, Nat.mod_mul_right_div_self]
    simp only [sh]
    rw [sh1_bit m hm, sh1_bit _ hm2, sh_xor, sh_xor, e1, e2, ih (m / 2) (by omega), Nat.div_div_eq_div_mul, Nat.pow_succ, Nat.mul_comm 2, BitVec.xor_assoc]
theorem sh_four (y : BitVec 32) : (y >>> 4) ^^^ sh 4 (BitVec.ofNat 32 (y.toNat % 16)) = sh 4 y := by
  have h := sh_lo 4 y.toNat y.isLt
  rw [ofNat_toNat] at h
  rw [h, BitVec.xor_comm]
  congr 1
  apply BitVec.eq_of_toNat_eq
  rw [BitVec.toNat_ushiftRight, BitVec.toNat_ofNat, Nat.shiftRight_eq_div_pow]
  have := y.isLt
  omega

/-! ### Operators -/
/-- The image of a register, its first k bits looked at. -/
def app (f : Nat → BitVec 32) : Nat → BitVec 32 → BitVec 32
  | 0, _ => 0#32
  | k + 1, x => app f k x ^^^ (if x.getLsbD k then f k else 0#32)
theorem app_more (f : Nat → BitVec 32) (i j : Nat) (x : BitVec 32) (h : x >>> i = 0#32) : app f (i + j) x = app f i x := by
  induction j with
  | zero => rfl
  | succ j ih =>
    rw [← Nat.add_assoc, app, ih]
    have := congrArg (fun y => y.getLsbD j) h
    simp only [BitVec.getLsbD_ushiftRight] at this
    rw [this]
    simp
theorem shr_top (x : BitVec 32) : x >>> 32 = 0#32 := by
  apply BitVec.eq_of_getLsbD_eq
  intro i hi
  rw [BitVec.getLsbD_ushiftRight, BitVec.getLsbD_of_ge _ _ (by omega)]
  simp
def one (i : Nat) : BitVec 32 := BitVec.ofNat 32 (2 ^ i)
theorem one_bit (i j : Nat) (hj : j < 32) : (one i).getLsbD j = decide (i = j) := by
  unfold one
  rw [BitVec.getLsbD_ofNat, Nat.testBit_two_pow]
  simp [hj]
theorem app_bit (k : Nat) (x : BitVec 32) (j : Nat) (hj : j < 32) : (app one k x).getLsbD j = (decide (j < k) && x.getLsbD j) := by
  induction k with
  | zero => simp [app]
  | succ k ih =>
    rw [app, BitVec.getLsbD_xor, ih]
    by_cases e : k = j
    · subst e
      cases h : x.getLsbD k
      · simp
      · simp only [if_true]
        rw [one_bit k k hj]
        simp
    · have h1 : (if x.getLsbD k then one k else 0#32).getLsbD j = false := by
        split
        · rw [one_bit k j hj]; simp [e]
        · simp
      rw [h1]
      have : decide (j < k) = decide (j < k + 1) := decide_eq_decide.2 (by omega)
      rw [this]; simp
theorem app_one (x : BitVec 32) : app one 32 x = x := by
  apply BitVec.eq_of_getLsbD_eq
  intro j hj
  rw [app_bit 32 x j hj]; simp [hj]
theorem app_sh (n k : Nat) (x : BitVec 32) : app (fun i => sh n (one i)) k x = sh n (app one k x) := by
  induction k with
  | zero => exact (sh_zero n).symm
  | succ k ih =>
    rw [app, app, ih, sh_xor]
    congr 1
    split
    · rfl
    · exact (sh_zero n).symm
theorem app_all (n : Nat) (x : BitVec 32) : app (fun i => sh n (one i)) 32 x = sh n x := by rw [app_sh, app_one]
end Go.Proofs.YtoojpfcnekpboaaGreat.Crc
