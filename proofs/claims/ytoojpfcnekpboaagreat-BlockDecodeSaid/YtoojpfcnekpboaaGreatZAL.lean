/- Numbers in groups of 7 bits that are read: plain Lean. -/
import Derived.Test.YtoojpfcnekpboaaGreatZAC
import Derived.Laws.Bits64b
import Derived.Laws.BitsLemmas
import Derived.Shelf.RegionOpen
namespace Go.Proofs.YtoojpfcnekpboaaGreat
open Go.RowKit

/-- How many bytes come. -/
def mB : List UInt8 → Nat
  | [] => 0
  | c :: r => if c < 128 then 1 else mB r + 1
def mS (s : ByteArray) : Nat := mB ((bs s).take 9)
theorem mB_le : ∀ l : List UInt8, mB l ≤ l.length
  | [] => Nat.le_refl _
  | c :: r => by
    unfold mB
    split
    · simp
    · have := mB_le r; simp; omega
theorem mS_le (s : ByteArray) : mS s ≤ s.size ∧ mS s ≤ 9 := by
  have h := mB_le ((bs s).take 9)
  rw [List.length_take, bs_length] at h
  unfold mS
  omega
theorem mB_more : ∀ (l : List UInt8) (k : Nat) (h : k < l.length), k < mB l → (k + 1 < mB l ↔ (¬ l[k] < 128 ∧ k + 1 < l.length))
  | [], k, h, _ => by simp at h
  | c :: r, 0, h, hk => by
    unfold mB
    by_cases hc : c < 128
    · simp [hc]
    · simp only [hc, if_false, List.getElem_cons_zero, not_false_eq_true, true_and, List.length_cons]
      cases r with
      | nil => simp [mB]
      | cons d q =>
        unfold mB
        split <;> simp
  | c :: r, k + 1, h, hk => by
    unfold mB at hk ⊢
    by_cases hc : c < 128
    · simp [hc] at hk
    · simp only [hc, if_false] at hk ⊢
      have := mB_more r k (by simpa using h) (by omega)
      simp only [List.getElem_cons_succ, List.length_cons, Nat.add_lt_add_iff_right]
      exact this
theorem mB_pos {l : List UInt8} (h : 0 < l.length) : 0 < mB l := by
  cases l with
  | nil => simp at h
  | cons c r => unfold mB; split <;> omega
theorem byteAt {s : ByteArray} {k : Nat} (h : k < s.size) : (bs s)[k]'(by rw [bs_length]; exact h) = s[k] := rfl
/-- Another byte comes. -/
theorem mS_more {s : ByteArray} {k : Nat} (hk : k < mS s) (h : k < s.size) : k + 1 < mS s ↔ (¬ s[k] < 128 ∧ k + 1 < s.size ∧ k + 1 < 9) := by
  have h9 := (mS_le s).2
  have hl : k < ((bs s).take 9).length := by rw [List.length_take, bs_length]; omega
  have := mB_more ((bs s).take 9) k hl hk
  unfold mS
  rw [this, List.getElem_take, byteAt h, List.length_take, bs_length]
  constructor
  · rintro ⟨h1, h2⟩; exact ⟨h1, by omega, by omega⟩
  · rintro ⟨h1, h2, h3⟩; exact ⟨h1, by omega⟩
def byteS (s : ByteArray) (k : Fin (mS s)) : UInt8 := s[k.1]'(Nat.lt_of_lt_of_le k.2 (mS_le s).1)
/-- One byte more. -/
def zsh (i : Nat) (c : UInt8) : Int := IntKind.u64.wrap (((c.toNat % 128 : Nat) : Int) * 2 ^ ((7 : Int) * (i : Int)).toNat)
def vst (V : Int) (i : Nat) (c : UInt8) : Int := bits .or .u64 V (zsh i c)
def vfold (s : ByteArray) (pre : List (Fin (mS s))) : Int := pre.foldl (fun V x => vst V x.1 (byteS s x)) 0
theorem vfold_snoc (s : ByteArray) (pre : List (Fin (mS s))) (x : Fin (mS s)) : vfold s (pre ++ [x]) = vst (vfold s pre) x.1 (byteS s x) := by simp [vfold]
def badX (i : Nat) (c : UInt8) : Prop := (128 ≤ (c.toNat : Int) ∧ (i : Int) = 8) ∨ ((c.toNat : Int) = 0 ∧ 0 < (i : Int))
instance (i : Nat) (c : UInt8) : Decidable (badX i c) := by unfold badX; infer_instance
def resV (s : ByteArray) (pre : List (Fin (mS s))) : Int × Int × Int := match pre.getLast? with
  | none => (0, 0, 0)
  | some x => if badX x.1 (byteS s x) then (0, 0, 12) else (vfold s pre, (x.1 : Int) + 1, 0)
theorem resV_snoc (s : ByteArray) (pre : List (Fin (mS s))) (x : Fin (mS s)) : resV s (pre ++ [x]) = if badX x.1 (byteS s x) then (0, 0, 12) else (vst (vfold s pre) x.1 (byteS s x), (x.1 : Int) + 1, 0) := by
  unfold resV
  rw [List.getLast?_concat, vfold_snoc]
def endX (i : Nat) (c : UInt8) : Prop := badX i c ∨ (c.toNat : Int) < 128
instance (i : Nat) (c : UInt8) : Decidable (endX i c) := by unfold endX; infer_instance
/-- What 'read' answers: the number, its bytes, the error. -/
def vres (s : ByteArray) : Int × Int × Int := if (List.finRange (mS s)).any (fun x => decide (endX x.1 (byteS s x))) = true then resV s (List.finRange (mS s)) else (0, 0, 11)
/-- A byte that ends it is the last one. -/
theorem endX_last (s : ByteArray) (x : Fin (mS s)) (h : endX x.1 (byteS s x)) : x.1 + 1 = mS s := by
  rcases Nat.lt_or_ge (x.1 + 1) (mS s) with h1 | h1
  · have h2 := (mS_more x.2 (Nat.lt_of_lt_of_le x.2 (mS_le s).1)).1 h1
    have h3 : ¬ (byteS s x).toNat < 128 := h2.1
    rcases h with (h4 | h4) | h4 <;> omega
  · have := x.2; omega
theorem finTake_full (n : Nat) : (List.finRange n).take n = List.finRange n := List.take_of_length_le (by simp)
theorem vres_stop (s : ByteArray) (k : Nat) (hk : k ≤ mS s) (q : List (Fin (mS s))) (x : Fin (mS s)) (hq : (List.finRange (mS s)).take k = q ++ [x]) (hx : endX x.1 (byteS s x)) : vres s = resV s ((List.finRange (mS s)).take k) := by
  have hl := congrArg List.length hq
  rw [List.length_take, List.length_finRange, List.length_append, List.length_cons, List.length_nil] at hl
  have hlt : q.length < mS s := by omega
  have hxe : x.1 = q.length := by
    have h1 : ((List.finRange (mS s)).take k)[q.length]? = some x := by rw [hq]; simp
    rw [List.getElem?_take, if_pos (by omega)] at h1
    rw [List.getElem?_eq_getElem (by simpa using hlt)] at h1
    injection h1 with h1
    rw [← h1]
    simp
  have hlast := endX_last s x hx
  have hkm : k = mS s := by omega
  subst hkm
  rw [finTake_full]
  unfold vres
  rw [if_pos]
  rw [List.any_eq_true]
  exact ⟨x, List.mem_finRange x, by simpa using hx⟩
theorem vres_done (s : ByteArray) (h : ∀ x ∈ List.finRange (mS s), ¬ endX x.1 (byteS s x)) : vres s = (0, 0, 11) := by
  unfold vres
  rw [if_neg]
  rw [List.any_eq_true]
  rintro ⟨x, hx, hd⟩
  exact h x hx (by simpa using hd)

/-! ### What it tells -/
def val7 : List UInt8 → Nat
  | [] => 0
  | c :: r => c.toNat % 128 + 128 * val7 r
theorem val7_lt : ∀ l : List UInt8, val7 l < 128 ^ l.length
  | [] => by simp [val7]
  | c :: r => by
    have := val7_lt r
    have h : c.toNat % 128 < 128 := Nat.mod_lt _ (by decide)
    unfold val7
    rw [List.length_cons, Nat.pow_succ]
    omega
theorem val7_snoc : ∀ (l : List UInt8) (c : UInt8), val7 (l ++ [c]) = val7 l + c.toNat % 128 * 128 ^ l.length
  | [], c => by simp [val7]
  | d :: r, c => by
    rw [List.cons_append]
    unfold val7
    rw [val7_snoc r c, List.length_cons, Nat.pow_succ, Nat.mul_add, ← Nat.add_assoc]
    congr 1
    rw [← Nat.mul_assoc, Nat.mul_comm 128, Nat.mul_assoc, Nat.mul_comm 128]
theorem vst_nat (V : Nat) (i : Nat) (c : UInt8) (hi : i < 9) (hV : V < 128 ^ i) : vst (V : Int) i c = ((V + c.toNat % 128 * 128 ^ i : Nat) : Int) := by
  have h128 : (128 : Nat) ^ i = 2 ^ (7 * i) := by rw [Nat.pow_mul]
  have hc : c.toNat % 128 < 2 ^ 7 := Nat.mod_lt _ (by decide)
  have hle : c.toNat % 128 * 2 ^ (7 * i) < 2 ^ 63 := by
    have h1 : c.toNat % 128 * 2 ^ (7 * i) < 2 ^ 7 * 2 ^ (7 * i) := Nat.mul_lt_mul_of_pos_right hc (Nat.two_pow_pos _)
    rw [← Nat.pow_add] at h1
    exact Nat.lt_of_lt_of_le h1 (Nat.pow_le_pow_right (by decide) (by omega))
  have hz : zsh i c = ((c.toNat % 128 * 2 ^ (7 * i) : Nat) : Int) := by
    unfold zsh
    have e : ((c.toNat % 128 : Nat) : Int) * 2 ^ ((7 : Int) * (i : Int)).toNat = ((c.toNat % 128 * 2 ^ (7 * i) : Nat) : Int) := by
      rw [show ((7 : Int) * (i : Int)).toNat = 7 * i by omega]
      push_cast
      rfl
    rw [e, IntKind.wrap_u64]
    generalize c.toNat % 128 * 2 ^ (7 * i) = q at *
    have : (2 : Nat) ^ 63 = 9223372036854775808 := by decide
    omega
  have hV2 : V < 2 ^ (7 * i) := by rw [← h128]; exact hV
  have hV3 : V < 2 ^ 63 := Nat.lt_of_lt_of_le hV2 (Nat.pow_le_pow_right (by decide) (by omega))
  have h63 : (2 : Nat) ^ 63 = 9223372036854775808 := by decide
  have hor : V ||| c.toNat % 128 * 2 ^ (7 * i) = V + c.toNat % 128 * 2 ^ (7 * i) := by
    have h1 := Nat.two_pow_add_eq_or_of_lt (i := 7 * i) (b := V) hV2 (c.toNat % 128)
    rw [Nat.or_comm, Nat.mul_comm (c.toNat % 128), ← h1]
    omega
  unfold vst
  rw [hz, bits_or_u64_nat V _ (by omega) (by omega), hor, h128]
theorem finTake_get {n k : Nat} (h : k < n) : (List.finRange n).take (k + 1) = (List.finRange n).take k ++ [⟨k, h⟩] := by
  rw [List.take_succ_eq_append_getElem (by simpa using h)]
  simp
theorem vfold_val (s : ByteArray) : ∀ k, k ≤ mS s → vfold s ((List.finRange (mS s)).take k) = (val7 ((bs s).take k) : Nat)
  | 0, _ => by simp [vfold, val7]
  | k + 1, h => by
    have h9 := mS_le s
    have hks : k < (bs s).length := by rw [bs_length]; omega
    have hl : ((bs s).take k).length = k := by rw [List.length_take]; omega
    rw [finTake_get h, vfold_snoc, vfold_val s k (by omega), vst_nat _ _ _ (by show k < 9; omega) (by have := val7_lt ((bs s).take k); rw [hl] at this; exact this),
      List.take_succ_eq_append_getElem hks, val7_snoc, hl]
    rfl
/-- A list as vE writes it. -/
def Can (l : List UInt8) : Prop := 0 < l.length ∧ (∀ k (h : k < l.length), k + 1 < l.length → 128 ≤ (l[k]).toNat) ∧ (∀ h : l.length - 1 < l.length, (l[l.length - 1]).toNat < 128 ∧ (1 < l.length → (l[l.length - 1]).toNat ≠ 0))
theorem Can.tail {c d : UInt8} {r : List UInt8} (h : Can (c :: d :: r)) : 128 ≤ c.toNat ∧ Can (d :: r) ∧ 0 < val7 (d :: r) := by
  obtain ⟨_, h2, h3⟩ := h
  have h4 : ∀ k (h : k < (d :: r).length), k + 1 < (d :: r).length → 128 ≤ ((d :: r)[k]).toNat := fun k hk hk1 => by
    have := h2 (k + 1) (by simp at hk ⊢; omega) (by simp at hk1 ⊢; omega)
    simpa using this
  have h5 : ∀ h : (d :: r).length - 1 < (d :: r).length, ((d :: r)[(d :: r).length - 1]).toNat < 128 ∧ ((d :: r)[(d :: r).length - 1]).toNat ≠ 0 := fun hh => by
    have := h3 (by simp)
    simp only [List.length_cons, Nat.add_sub_cancel] at this ⊢
    rw [List.getElem_cons_succ] at this
    exact ⟨this.1, this.2 (by omega)⟩
  refine ⟨h2 0 (by simp) (by simp), ⟨by simp, h4, fun hh => ⟨(h5 hh).1, fun _ => (h5 hh).2⟩⟩, ?_⟩
  have hpos : ∀ l : List UInt8, (∀ h : l.length - 1 < l.length, (l[l.length - 1]).toNat < 128 ∧ (l[l.length - 1]).toNat ≠ 0) → 0 < l.length → 0 < val7 l := by
    intro l
    induction l with
    | nil => intro _ h; simp at h
    | cons a q ih =>
      intro hl _
      cases q with
      | nil =>
        have := hl (by simp)
        simp only [List.length_cons, List.length_nil, Nat.zero_add, Nat.sub_self, List.getElem_cons_zero] at this
        unfold val7
        omega
      | cons b q =>
        have := ih (fun hh => by
          have := hl (by simp)
          simp only [List.length_cons, Nat.add_sub_cancel] at this ⊢
          rw [List.getElem_cons_succ] at this
          exact this) (by simp)
        unfold val7
        omega
  exact hpos _ h5 (by simp)
theorem vEf_val : ∀ (k : Nat) (l : List UInt8), Can l → l.length ≤ k → vEf k (val7 l) = l
  | 0, l, h, hk => by have := h.1; omega
  | k + 1, [], h, _ => by have := h.1; simp at this
  | k + 1, [c], h, _ => by
    have := (h.2.2 (by simp)).1
    simp only [List.length_cons, List.length_nil, Nat.zero_add, Nat.sub_self, List.getElem_cons_zero] at this
    have e : val7 [c] = c.toNat := by unfold val7 val7; omega
    rw [e, vEf_small this]
    simp
  | k + 1, c :: d :: r, h, hk => by
    obtain ⟨h1, h2, h3⟩ := h.tail
    have hc := c.toNat_lt
    have e : val7 (c :: d :: r) = c.toNat % 128 + 128 * val7 (d :: r) := rfl
    rw [vEf_more (by omega)]
    have e1 : val7 (c :: d :: r) % 128 = c.toNat % 128 := by omega
    have e2 : val7 (c :: d :: r) / 128 = val7 (d :: r) := by omega
    rw [e1, e2, vEf_val k (d :: r) h2 (by simp at hk ⊢; omega), show c.toNat % 128 + 128 = c.toNat by omega]
    simp
theorem vEf_can : ∀ (k n : Nat), n < 128 ^ k → 0 < k → Can (vEf k n) ∧ val7 (vEf k n) = n ∧ (0 < n → ∀ h : (vEf k n).length - 1 < (vEf k n).length, ((vEf k n)[(vEf k n).length - 1]).toNat ≠ 0)
  | 0, _, _, h => absurd h (by omega)
  | k + 1, n, hn, _ => by
    by_cases h : n < 128
    · rw [vEf_small h]
      refine ⟨⟨by simp, fun j hj hj2 => by simp at hj2, fun _ => ⟨by simp; omega, by simp⟩⟩, by unfold val7 val7; rw [toNat_byte (by omega)]; omega, fun h0 _ => ?_⟩
      simp only [List.length_cons, List.length_nil, Nat.zero_add, Nat.sub_self, List.getElem_cons_zero]
      rw [toNat_byte (by omega)]
      omega
    · have hk : 0 < k := by
        rcases Nat.eq_zero_or_pos k with rfl | hk
        · simp at hn; omega
        · exact hk
      have hd : n / 128 < 128 ^ k := by rw [Nat.pow_succ] at hn; exact Nat.div_lt_of_lt_mul (by omega)
      obtain ⟨⟨i1, i2, i3⟩, i4, i5⟩ := vEf_can k (n / 128) hd hk
      have i6 := i5 (by omega)
      rw [vEf_more (by omega)]
      generalize vEf k (n / 128) = r at *
      have hb : (UInt8.ofNat (n % 128 + 128)).toNat = n % 128 + 128 := toNat_byte (by omega)
      refine ⟨⟨by simp, fun j hj hj2 => ?_, fun hh => ?_⟩, by unfold val7; rw [hb, i4]; omega, fun _ hh => ?_⟩
      · cases j with
        | zero => rw [List.getElem_cons_zero, hb]; omega
        | succ j =>
          rw [List.getElem_cons_succ]
          exact i2 j (by simp at hj; omega) (by simp at hj2; omega)
      · have e : (UInt8.ofNat (n % 128 + 128) :: r)[(UInt8.ofNat (n % 128 + 128) :: r).length - 1] = r[r.length - 1]'(by omega) := by
          simp only [List.length_cons, Nat.add_sub_cancel]
          rw [List.getElem_cons, dif_neg (by omega)]
        rw [e]
        exact ⟨(i3 (by omega)).1, fun _ => i6 (by omega)⟩
      · have e : (UInt8.ofNat (n % 128 + 128) :: r)[(UInt8.ofNat (n % 128 + 128) :: r).length - 1] = r[r.length - 1]'(by omega) := by
          simp only [List.length_cons, Nat.add_sub_cancel]
          rw [List.getElem_cons, dif_neg (by omega)]
        rw [e]
        exact i6 (by omega)
theorem vE_can (n : Nat) (h : n < 2 ^ 63) : Can (vE n) ∧ val7 (vE n) = n ∧ (vE n).length ≤ 9 := by
  have h1 : n < 128 ^ 9 := h
  have e : vE n = vEf 9 n := vEf_fuel 9 10 n h1 (by decide) (by decide)
  rw [e]
  have := vEf_can 9 n h1 (by decide)
  exact ⟨this.1, this.2.1, vEf_len 9 n⟩
theorem mB_can : ∀ (l t : List UInt8), Can l → mB (l ++ t) = l.length
  | [], _, h => by have := h.1; simp at this
  | [c], t, h => by
    have := (h.2.2 (by simp)).1
    simp only [List.length_cons, List.length_nil, Nat.zero_add, Nat.sub_self, List.getElem_cons_zero] at this
    rw [List.cons_append]
    unfold mB
    rw [if_pos (show c < 128 from this)]
    rfl
  | c :: d :: r, t, h => by
    obtain ⟨h1, h2, _⟩ := h.tail
    have := mB_can (d :: r) t h2
    rw [List.cons_append]
    unfold mB
    rw [if_neg (fun h3 : c < 128 => by have h4 : c.toNat < 128 := h3; omega), this]
    rfl
/-- What is written is read. -/
theorem vres_vE (s : ByteArray) (n : Nat) (t : List UInt8) (hn : n < 2 ^ 63) (h : bs s = vE n ++ t) : vres s = ((n : Int), ((vE n).length : Int), 0) := by
  obtain ⟨hc, hv, hl⟩ := vE_can n hn
  have hm : mS s = (vE n).length := by
    unfold mS
    rw [h, List.take_append, List.take_of_length_le hl]
    exact mB_can _ _ hc
  have hpos := hc.1
  have hget : ∀ x : Fin (mS s), ∀ hx : x.1 < (vE n).length, byteS s x = (vE n)[x.1] := fun x hx => by
    have h1 : byteS s x = (bs s)[x.1]'(by rw [bs_length]; exact Nat.lt_of_lt_of_le x.2 (mS_le s).1) := rfl
    rw [h1]
    simp only [h]
    rw [List.getElem_append_left hx]
  have hlast : mS s - 1 < mS s := by omega
  have hb : ¬ badX (mS s - 1) (byteS s ⟨mS s - 1, hlast⟩) := by
    have h2 := hc.2.2 (by omega)
    have h3 := hget ⟨mS s - 1, hlast⟩ (by show mS s - 1 < _; omega)
    rw [h3]
    simp only [hm]
    rintro (h4 | h4)
    · omega
    · exact h2.2 (by omega) (by omega)
  have he : endX (mS s - 1) (byteS s ⟨mS s - 1, hlast⟩) := by
    have h2 := hc.2.2 (by omega)
    have h3 := hget ⟨mS s - 1, hlast⟩ (by show mS s - 1 < _; omega)
    refine .inr ?_
    rw [h3]
    simp only [hm]
    omega
  have hq : (List.finRange (mS s)).take (mS s) = (List.finRange (mS s)).take (mS s - 1) ++ [⟨mS s - 1, hlast⟩] := by
    have := finTake_get hlast
    rw [← this]
    congr 1
    omega
  rw [vres_stop s (mS s) (Nat.le_refl _) _ _ hq he, hq, resV_snoc, if_neg hb, ← vfold_snoc, ← hq, vfold_val s _ (Nat.le_refl _)]
  have e1 : (bs s).take (mS s) = vE n := by rw [h, hm, List.take_left]
  rw [e1, hv]
  congr 2
  show ((mS s - 1 : Nat) : Int) + 1 = _
  omega
/-- What is read was written. -/
theorem vres_ok (s : ByteArray) (n k : Int) (h : vres s = (n, k, 0)) : ∃ m : Nat, n = m ∧ m < 2 ^ 63 ∧ k = (vE m).length ∧ (vE m).length ≤ s.size ∧ bs s = vE m ++ (bs s).drop (vE m).length := by
  have h9 := mS_le s
  unfold vres at h
  split at h
  · rename_i hany
    rw [List.any_eq_true] at hany
    obtain ⟨x, _, hx⟩ := hany
    have hx : endX x.1 (byteS s x) := by simpa using hx
    have hlast := endX_last s x hx
    have hq : List.finRange (mS s) = (List.finRange (mS s)).take x.1 ++ [x] := by
      have := finTake_get x.2
      rw [hlast, finTake_full] at this
      exact this
    rw [hq, resV_snoc] at h
    split at h
    · cases h
    · rename_i hb
      rw [← vfold_snoc, ← hq] at h
      have hv := vfold_val s (mS s) (Nat.le_refl _)
      rw [finTake_full] at hv
      rw [hv] at h
      injection h with h1 h2
      injection h2 with h2 _
      have hlen : ((bs s).take (mS s)).length = mS s := by rw [List.length_take, bs_length]; omega
      have hcan : Can ((bs s).take (mS s)) := by
        refine ⟨by omega, fun j hj hj2 => ?_, fun hh => ?_⟩
        · rw [hlen] at hj hj2
          have := (mS_more hj (by omega)).1 hj2
          rw [List.getElem_take, byteAt (by omega)]
          have h3 : ¬ (s[j]).toNat < 128 := this.1
          omega
        · have e : ((bs s).take (mS s))[((bs s).take (mS s)).length - 1] = byteS s x := by
            rw [List.getElem_take]
            have e2 : ((bs s).take (mS s)).length - 1 = x.1 := by omega
            simp only [e2]
            rfl
          rw [e]
          rcases hx with hx | hx
          · exact absurd hx hb
          · refine ⟨by omega, fun hl h0 => hb (.inr ⟨by omega, by omega⟩)⟩
      have hval := val7_lt ((bs s).take (mS s))
      rw [hlen] at hval
      have hle : (128 : Nat) ^ mS s ≤ 128 ^ 9 := Nat.pow_le_pow_right (by decide) h9.2
      have hvE : vE (val7 ((bs s).take (mS s))) = (bs s).take (mS s) := vEf_val 10 _ hcan (by omega)
      refine ⟨val7 ((bs s).take (mS s)), h1.symm, Nat.lt_of_lt_of_le hval hle, ?_, ?_, ?_⟩
      · rw [hvE, hlen, ← h2]; omega
      · rw [hvE, hlen]; exact h9.1
      · rw [hvE, hlen, List.take_append_drop]
  · cases h
theorem vres_err (s : ByteArray) : vres s = (0, 0, 11) ∨ vres s = (0, 0, 12) ∨ ∃ n k, vres s = (n, k, 0) := by
  unfold vres
  split
  · unfold resV
    split
    · rename_i hany _ hl
      rw [List.getLast?_eq_none_iff] at hl
      rw [hl] at hany
      simp at hany
    · split
      · exact .inr (.inl rfl)
      · exact .inr (.inr ⟨_, _, rfl⟩)
  · exact .inl rfl
end Go.Proofs.YtoojpfcnekpboaaGreat
