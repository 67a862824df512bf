/- A zone that is read as the reference reads it: plain Lean. Numbers that are read: the reference's. Numbers that are read: the reference's Read and ReadSigned. -/
import Derived.Test.YtoojpfcnekpboaaGreatZAV
import Derived.Test.YtoojpfcnekpboaaGreatZAU
namespace Go.Proofs.YtoojpfcnekpboaaGreat

def rd5 (k : Nat) (t : ByteArray) : Int × Int × Int := if k = 3 then rdS t else rdG t
/-- The first k of the five numbers, and what is left. -/
def rzF (s : ByteArray) : Nat → Option (List Int × ByteArray)
  | 0 => some ([], s)
  | k + 1 => (rzF s k).bind fun p => if (rd5 k p.2).2.2 = 0 ∧ ¬ (k = 0 ∧ (rd5 k p.2).1 = 0) then some (p.1 ++ [(rd5 k p.2).1], cutS p.2 (rd5 k p.2).2.1.toNat) else none
theorem rd5_rdK (k : Nat) (t : ByteArray) : rd5 (k + 1) t = rdK k t := by
  unfold rd5 rdK
  by_cases h : k = 2
  · rw [if_pos (by omega), if_pos h]
  · rw [if_neg (by omega), if_neg h]
theorem rzF_zF (s : ByteArray) : ∀ k, rzF s (k + 1) = if (rdG s).2.2 = 0 ∧ (rdG s).1 ≠ 0 then (zF (cutS s (rdG s).2.1.toNat) k).map (fun p => ((rdG s).1 :: p.1, p.2)) else none
  | 0 => by
    have e0 : rd5 0 s = rdG s := if_neg (by decide)
    show (if (rd5 0 s).2.2 = 0 ∧ ¬ (0 = 0 ∧ (rd5 0 s).1 = 0) then some ([] ++ [(rd5 0 s).1], cutS s (rd5 0 s).2.1.toNat) else none) = _
    rw [e0]
    by_cases h : (rdG s).2.2 = 0 ∧ (rdG s).1 ≠ 0
    · rw [if_pos h, if_pos ⟨h.1, fun h2 => h.2 h2.2⟩]
      rfl
    · rw [if_neg h, if_neg (fun h2 => h ⟨h2.1, fun h3 => h2.2 ⟨rfl, h3⟩⟩)]
  | k + 1 => by
    have ih := rzF_zF s k
    show (rzF s (k + 1)).bind _ = _
    rw [ih]
    by_cases h : (rdG s).2.2 = 0 ∧ (rdG s).1 ≠ 0
    · rw [if_pos h, if_pos h]
      show _ = ((zF (cutS s (rdG s).2.1.toNat) k).bind _).map _
      cases zF (cutS s (rdG s).2.1.toNat) k with
      | none => rfl
      | some p =>
        simp only [Option.map_some, Option.bind_some, rd5_rdK]
        by_cases hb : (rdK k p.2).2.2 = 0
        · rw [if_pos hb, if_pos ⟨hb, fun h2 => by omega⟩]
          rfl
        · rw [if_neg hb, if_neg (fun h2 => hb h2.1)]
          rfl
    · rw [if_neg h, if_neg h]
      rfl
theorem rzF_step {s t : ByteArray} {k : Nat} {l : List Int} (h : rzF s k = some (l, t)) (hb : (rd5 k t).2.2 = 0) (hz : ¬ (k = 0 ∧ (rd5 k t).1 = 0)) : rzF s (k + 1) = some (l ++ [(rd5 k t).1], cutS t (rd5 k t).2.1.toNat) := by
  show (rzF s k).bind _ = _
  rw [h]
  simp only [Option.bind_some]
  rw [if_pos ⟨hb, hz⟩]
theorem zP_rz0 {s t : ByteArray} {l : List Int} (h : rzF s 0 = some (l, t)) (h1 : (rd5 0 t).2.2 = 0) (h2 : (rd5 0 t).1 = 0) : t = s ∧ zP s = if (cutS t (rd5 0 t).2.1.toNat).size = 0 then some Zn.zero else none := by
  injection h with h
  injection h with _ h
  subst h
  refine ⟨rfl, ?_⟩
  have h1' : (rdG s).2.2 = 0 := h1
  have h2' : (rdG s).1 = 0 := h2
  unfold zP
  rw [if_neg (by rw [h1']; decide), if_pos h2']
  rfl
theorem zP_no {s t : ByteArray} {k : Nat} {l : List Int} (h : rzF s k = some (l, t)) (hb : (rd5 k t).2.2 ≠ 0) (hk : k < 5) : zP s = none := by
  cases k with
  | zero =>
    injection h with h
    injection h with _ h
    subst h
    unfold zP
    exact if_pos hb
  | succ k =>
    rw [rzF_zF] at h
    split at h
    · rename_i hc
      cases hz : zF (cutS s (rdG s).2.1.toNat) k with
      | none => rw [hz] at h; cases h
      | some p =>
        rw [hz] at h
        simp only [Option.map_some, Option.some.injEq, Prod.mk.injEq] at h
        have hp : p = (p.1, t) := by rw [← h.2]
        rw [rd5_rdK] at hb
        have hs := zF_stop (s := cutS s (rdG s).2.1.toNat) (t := t) (k := k) (l := p.1) (by rw [hz, ← hp]) hb (by omega)
        unfold zP
        rw [if_neg (by rw [hc.1]; decide), if_neg hc.2, hs]
        rfl
    · cases h
theorem zP_five {s t : ByteArray} {c a b d e : Int} (h : rzF s 5 = some ([c, a, b, d, e], t)) : zP s = if t.size = 32 then some (zAt c a (a + b) d (d + e) (bs t) 32) else none := by
  rw [rzF_zF] at h
  split at h
  · rename_i hc
    cases hz : zF (cutS s (rdG s).2.1.toNat) 4 with
    | none => rw [hz] at h; cases h
    | some p =>
      rw [hz] at h
      simp only [Option.map_some, Option.some.injEq, Prod.mk.injEq, List.cons.injEq] at h
      obtain ⟨⟨h1, h2⟩, h3⟩ := h
      have hp : p = ([a, b, d, e], t) := by rw [← h2, ← h3]
      unfold zP
      rw [if_neg (by rw [hc.1]; decide), if_neg hc.2, hz, hp, h1]
      rfl
  · cases h
theorem rd5_ok (k : Nat) (t : ByteArray) (h : (rd5 k t).2.2 = 0) : -1152921504606846976 ≤ (rd5 k t).1 ∧ (rd5 k t).1 ≤ 1152921504606846976 ∧ (k ≠ 3 → 0 ≤ (rd5 k t).1) ∧ 0 ≤ (rd5 k t).2.1 ∧ (rd5 k t).2.1 ≤ t.size := by
  unfold rd5 at h ⊢
  by_cases hk : k = 3
  · rw [if_pos hk] at h ⊢
    obtain ⟨h1, h2, h3, h4, _⟩ := rdS_ok t _ _ (trip_eta _ h)
    exact ⟨h1, h2, fun h => absurd hk h, by omega, by omega⟩
  · rw [if_neg hk] at h ⊢
    obtain ⟨m, h1, h2, h3, h4, _⟩ := rdG_ok t _ _ (trip_eta _ h)
    exact ⟨by omega, by omega, fun _ => by omega, by omega, by omega⟩
theorem zchk_bounds {z : Zn} (h : zchk z = 0) (hc : z.count ≠ 0) : tmB z.minT = true ∧ tmB z.maxT = true ∧ vlB z.minV = true ∧ vlB z.maxV = true := by
  unfold zchk at h
  by_cases h1 : z.count < 0 ∨ 1152921504606846976 < z.count
  · rw [if_pos h1] at h; exact absurd h (by decide)
  rw [if_neg h1, if_neg hc] at h
  by_cases h2 : tmB z.minT = false ∨ tmB z.maxT = false
  · rw [if_pos h2] at h; exact absurd h (by decide)
  rw [if_neg h2] at h
  by_cases h3 : z.maxT < z.minT
  · rw [if_pos h3] at h; exact absurd h (by decide)
  rw [if_neg h3] at h
  by_cases h4 : vlB z.minV = false ∨ vlB z.maxV = false
  · rw [if_pos h4] at h; exact absurd h (by decide)
  simp only [not_or, Bool.not_eq_false] at h2 h4
  exact ⟨h2.1, h2.2, h4.1, h4.2⟩
/-- Zones whose numbers are too large are not valid. -/
theorem zP_wide {s t : ByteArray} {c a b d e : Int} (h : rzF s 5 = some ([c, a, b, d, e], t)) (hc : 0 < c) (hd : 1099511627776 < a ∨ 1099511627776 < b ∨ 2199023255552 < e) : (zD s).2 ≠ 0 := by
  unfold zD
  rw [zP_five h]
  by_cases h32 : t.size = 32
  · rw [if_pos h32]
    simp only
    rw [if_neg]
    · show (12 : Int) ≠ 0
      decide
    · intro hz
      have hk := zchk_bounds hz (show c ≠ 0 by omega)
      obtain ⟨k1, k2, k3, k4⟩ := hk
      have k1' : tmB a = true := k1
      have k2' : tmB (a + b) = true := k2
      have k3' : vlB d = true := k3
      have k4' : vlB (d + e) = true := k4
      unfold tmB at k1' k2'
      unfold vlB at k3' k4'
      have m1 := of_decide_eq_true k1'
      have m2 := of_decide_eq_true k2'
      have m3 := of_decide_eq_true k3'
      have m4 := of_decide_eq_true k4'
      omega
  · rw [if_neg h32]
    show (12 : Int) ≠ 0
    decide
end Go.Proofs.YtoojpfcnekpboaaGreat

namespace Go.Proofs.YtoojpfcnekpboaaGreat
open Go.RowKit Go.Shelf

/-- The first k bytes all say that another one comes. -/
structure VI (s : ByteArray) (k : Nat) : Prop where mk ::
  le8 : k ≤ 8
  le : k ≤ s.size
  more : k < s.size → k < mS s
  big : ∀ j (h : j < s.size), j < k → ¬ s[j] < 128
theorem VI.zero (s : ByteArray) : VI s 0 := ⟨by omega, by omega, fun h => mB_pos (by rw [List.length_take, bs_length]; omega), fun j _ h => by omega⟩
theorem VI.next {s : ByteArray} {k : Nat} (h : VI s k) (hk : k < s.size) (hb : ¬ s[k] < 128) (h8 : k < 8) : VI s (k + 1) := by
  refine ⟨by omega, hk, fun h1 => (mS_more (h.more hk) hk).2 ⟨hb, h1, by omega⟩, fun j hj hlt => ?_⟩
  by_cases e : j = k
  · subst e
    exact hb
  · exact h.big j hj (by omega)
theorem VI.short {s : ByteArray} {k : Nat} (h : VI s k) (hk : k = s.size) : vres s = (0, 0, 11) := by
  refine vres_done s fun x _ hx => ?_
  have h1 := (mS_le s).1
  have h2 := x.2
  have h3 : ¬ (byteS s x).toNat < 128 := h.big x.1 (by omega) (by omega)
  have h8 := h.le8
  rcases hx with (h4 | h4) | h4 <;> omega
theorem VI.stop {s : ByteArray} {k : Nat} (h : VI s k) (hk : k < s.size) (hx : endX k s[k]) : mS s = k + 1 ∧ vres s = if badX k s[k] then ((0 : Int), (0 : Int), (12 : Int)) else (((val7 ((bs s).take (k + 1)) : Nat) : Int), (k : Int) + 1, (0 : Int)) := by
  have hm := h.more hk
  have hx' : endX (⟨k, hm⟩ : Fin (mS s)).1 (byteS s ⟨k, hm⟩) := hx
  have hl := endX_last s ⟨k, hm⟩ hx'
  have hq : (List.finRange (mS s)).take (k + 1) = (List.finRange (mS s)).take k ++ [⟨k, hm⟩] := finTake_get hm
  refine ⟨hl.symm, ?_⟩
  rw [vres_stop s (k + 1) hm _ _ hq hx', hq, resV_snoc, ← vfold_snoc, ← hq, vfold_val s (k + 1) hm]
  rfl
theorem VI.over {s : ByteArray} {k : Nat} (h : VI s k) (hk : k < s.size) (hb : ¬ s[k] < 128) (h8 : ¬ k < 8) : vres s = (0, 0, 12) := by
  have hb' : ¬ (s[k]).toNat < 128 := hb
  have h1 := h.le8
  have hx : badX k s[k] := .inl ⟨by omega, by omega⟩
  rw [(h.stop hk (.inl hx)).2, if_pos hx]
theorem VI.last {s : ByteArray} {k : Nat} (h : VI s k) (hk : k < s.size) (hb : s[k] < 128) : vres s = if (s[k]).toNat = 0 ∧ 0 < k then ((0 : Int), (0 : Int), (12 : Int)) else (((val7 ((bs s).take (k + 1)) : Nat) : Int), (k : Int) + 1, (0 : Int)) := by
  have hb' : (s[k]).toNat < 128 := hb
  rw [(h.stop hk (.inr (by omega))).2]
  by_cases hc : (s[k]).toNat = 0 ∧ 0 < k
  · rw [if_pos hc, if_pos (.inr ⟨by omega, by omega⟩)]
  · rw [if_neg hc, if_neg]
    rintro (h1 | h1)
    · omega
    · exact hc ⟨by omega, by omega⟩
theorem val7_take {s : ByteArray} {k : Nat} (hk : k < s.size) : val7 ((bs s).take (k + 1)) = val7 ((bs s).take k) + (s[k]).toNat % 128 * 128 ^ k := by
  have hks : k < (bs s).length := by rw [bs_length]; exact hk
  rw [List.take_succ_eq_append_getElem hks, val7_snoc, List.length_take, Nat.min_eq_left (by omega)]
  rfl
theorem val7_take_lt (s : ByteArray) (k : Nat) : val7 ((bs s).take k) < 128 ^ k := by
  have h := val7_lt ((bs s).take k)
  refine Nat.lt_of_lt_of_le h (Nat.pow_le_pow_right (by decide) ?_)
  rw [List.length_take]
  omega
/-- What 'get' answers: a number up to 2^61. -/
def GPost (s : ByteArray) (w : World) (e : Ending) (w' : World) : Prop := Below w.heap.size w w' ∧
  (((vres s).2.2 = 0 ∧ (vres s).1 ≤ 2305843009213693952 ∧ e = .returned (tripV (vres s))) ∨ (¬ ((vres s).2.2 = 0 ∧ (vres s).1 ≤ 2305843009213693952) ∧ ∃ er, er ≠ 0 ∧ e = .returned (tripV (0, 0, er))))
set_option maxRecDepth 100000 in
set_option maxHeartbeats 1000000 in
theorem getR_any (s : ByteArray) (w : World) (hs : s.size ≤ 100000) : Calls Tryz.prog 159 #[.string s] w (GPost s w) := by
  have hsi : (s.size : Int) ≤ 100000 := by omega
  clear hs
  go_enter Tryz.func159, Tryz.ntmps159
  go_wp2_with fail
  go_loopw [5, 6] (fun n i wr => ∃ k : Nat, Hid (VI s k) ∧ n = .int .i64 (val7 ((bs s).take k) : Nat) ∧ i = .int .i64 k ∧ Hid (Below w.heap.size w wr)) (fun _ i _ => 9 - (intOf i).toNat)
  case atStart => exact ⟨0, Lib.hid (VI.zero s), by simp [val7], rfl, Lib.hid (Below.refl _ _)⟩
  case round =>
    obtain ⟨k, HV, rfl, rfl, HB⟩ := hrel
    have h8 := HV.out.le8
    have h8i : (k : Int) ≤ 8 := by omega
    by_cases hk : k < s.size
    · have hki : (k : Int) < (s.size : Int) := by omega
      have hkn : ¬ (s.size : Int) ≤ (k : Int) := by omega
      have hv2 := val7_take_lt s (k + 1)
      have hp1 : (128 : Nat) ^ (k + 1) ≤ 128 ^ 9 := Nat.pow_le_pow_right (by decide) (by omega)
      have h9 : (128 : Nat) ^ 9 = 9223372036854775808 := by decide
      have HT := val7_take hk
      have hc := (s[k]).toNat_lt
      obtain ⟨b, hb⟩ : ∃ b, s[k] = b := ⟨_, rfl⟩
      have HLT : Hid (b < 128 ↔ b.toNat < 128) := Lib.hid Iff.rfl
      have HNX := Lib.hid (fun h1 h2 => HV.out.next hk (by rw [hb]; exact h1) h2)
      have HOV := Lib.hid (fun h1 h2 => HV.out.over hk (by rw [hb]; exact h1) h2)
      have HLS := Lib.hid (fun h1 => HV.out.last hk (by rw [hb]; exact h1))
      rw [hb] at HT hc HLS
      have HBE := Lib.hid hb
      obtain ⟨N', hN'⟩ : ∃ n, val7 ((bs s).take (k + 1)) = n := ⟨_, rfl⟩
      obtain ⟨N, hN⟩ : ∃ n, val7 ((bs s).take k) = n := ⟨_, rfl⟩
      obtain ⟨P, hP⟩ : ∃ n, b.toNat % 128 * 128 ^ k = n := ⟨_, rfl⟩
      have hsh : ((b.toNat : Nat) : Int) % 128 * 2 ^ (7 * k) = (P : Int) := by
        rw [← hP, show (128 : Nat) ^ k = 2 ^ (7 * k) by rw [Nat.pow_mul]]
        push_cast
        rfl
      have hsh2 : Int.tmod ((b.toNat : Nat) : Int) 128 * 2 ^ (7 * k) = (P : Int) := by
        rw [Int.tmod_eq_emod_of_nonneg (by omega)]
        exact hsh
      rw [hN', hN, hP] at HT
      rw [hN'] at hv2 HLS
      rw [hN]
      have HNN := Lib.hid hN'
      have hNP : (N : Int) + (P : Int) = (N' : Int) := by omega
      have hN1 : (N' : Int) ≤ 9223372036854775807 := by omega
      have hP1 : (P : Int) ≤ 9223372036854775807 := by omega
      obtain ⟨e, he⟩ : ∃ e : Nat, b.toNat = e := ⟨_, rfl⟩
      have HEE := Lib.hid he
      rw [he] at hc hsh hsh2
      have hei : (e : Int) ≤ 255 := by omega
      clear hv2 hp1 h9 hN' hN hP HT HV
      by_cases hbig : e < 128
      · have hb1 : ¬ (128 : Int) ≤ (e : Int) := by omega
        have hbd : decide ((128 : Int) ≤ (e : Int)) = false := decide_eq_false hb1
        have HL := HLS.out (HLT.out.2 (by rw [he]; exact hbig))
        rw [he] at HL
        by_cases hA : e = 0 ∧ 0 < k
        · have HE : Hid (vres s = ((0 : Int), (0 : Int), (12 : Int))) := Lib.hid (by rw [HL, if_pos hA])
          have f1 : decide ((0 : Int) < (k : Int)) = true := decide_eq_true (by omega)
          have g1 : 0 < k := by omega
          have f2 : ((e : Int) == 0) = true := beq_iff_eq.2 (by omega)
          clear HL HLS HNX HOV
          have hfin : ∀ W' : World, Below w.heap.size w W' → GPost s w (.returned (.tuple #[.int .i64 0, .int .i64 0, .int .i64 12])) W' := fun W' hW => ⟨hW, .inr ⟨by rw [HE.out]; decide, 12, by decide, rfl⟩⟩
          have HFIN := Lib.hid hfin
          clear hfin
          by_cases h88 : k = 8
          · have h8n : ((k : Int) == 8) = true := beq_iff_eq.2 (by omega)
            clear h88
            go_upto_region 10 with fail
            clear hsh hsh2 hNP h8n
            go_wp2_with fail
            go_ret3
            exact HFIN.out _ HB.out
          · have h8n : ((k : Int) == 8) = false := beq_eq_false_iff_ne.2 (by omega)
            clear h88
            go_upto_region 10 with fail
            clear hsh hsh2 hNP h8n
            go_wp2_with fail
            go_ret3
            exact HFIN.out _ HB.out
        · have HE : Hid (vres s = (((N' : Nat) : Int), (k : Int) + 1, (0 : Int))) := Lib.hid (by rw [HL, if_neg hA])
          by_cases hbN : (2305843009213693952 : Int) < (N' : Int)
          · have hfin : ∀ W' : World, Below w.heap.size w W' → GPost s w (.returned (.tuple #[.int .i64 0, .int .i64 0, .int .i64 12])) W' := fun W' hW => ⟨hW, .inr ⟨by rw [HE.out]; simp only; omega, 12, by decide, rfl⟩⟩
            have HFIN := Lib.hid hfin
            have f3 : decide ((2305843009213693952 : Int) < (N' : Int)) = true := decide_eq_true hbN
            clear HL HLS HNX HOV hfin
            by_cases h88 : k = 8
            · have h8n : ((k : Int) == 8) = true := beq_iff_eq.2 (by omega)
              have f1 : decide ((0 : Int) < (k : Int)) = true := decide_eq_true (by omega)
              have g1 : 0 < k := by omega
              have f2 : ((e : Int) == 0) = false := beq_eq_false_iff_ne.2 (by omega)
              clear h88
              go_upto_region 10 with fail
              clear hsh hsh2 hNP h8n
              go_wp2_with fail
              go_ret3
              exact HFIN.out _ HB.out
            · have h8n : ((k : Int) == 8) = false := beq_eq_false_iff_ne.2 (by omega)
              clear h88
              go_upto_region 10 with fail
              clear hsh hsh2 hNP h8n
              by_cases h0 : 0 < k
              · have f1 : decide ((0 : Int) < (k : Int)) = true := decide_eq_true (by omega)
                have f2 : ((e : Int) == 0) = false := beq_eq_false_iff_ne.2 (by omega)
                go_wp2_with fail
                go_ret3
                exact HFIN.out _ HB.out
              · have f1 : decide ((0 : Int) < (k : Int)) = false := decide_eq_false (by omega)
                go_wp2_with fail
                go_ret3
                exact HFIN.out _ HB.out
          · have hfin : ∀ W' : World, Below w.heap.size w W' → GPost s w (.returned (.tuple #[.int .i64 (N' : Nat), .int .i64 ((k : Int) + 1), .int .i64 0])) W' := fun W' hW => ⟨hW, .inl ⟨by rw [HE.out], by rw [HE.out]; simp only; omega, by rw [HE.out]; rfl⟩⟩
            have HFIN := Lib.hid hfin
            have f3 : decide ((2305843009213693952 : Int) < (N' : Int)) = false := decide_eq_false hbN
            clear HL HLS HNX HOV hfin
            by_cases h88 : k = 8
            · have h8n : ((k : Int) == 8) = true := beq_iff_eq.2 (by omega)
              have f1 : decide ((0 : Int) < (k : Int)) = true := decide_eq_true (by omega)
              have g1 : 0 < k := by omega
              have f2 : ((e : Int) == 0) = false := beq_eq_false_iff_ne.2 (by omega)
              clear h88
              go_upto_region 10 with fail
              clear hsh hsh2 hNP h8n
              go_wp2_with fail
              go_ret3
              exact HFIN.out _ HB.out
            · have h8n : ((k : Int) == 8) = false := beq_eq_false_iff_ne.2 (by omega)
              clear h88
              go_upto_region 10 with fail
              clear hsh hsh2 hNP h8n
              by_cases h0 : 0 < k
              · have f1 : decide ((0 : Int) < (k : Int)) = true := decide_eq_true (by omega)
                have f2 : ((e : Int) == 0) = false := beq_eq_false_iff_ne.2 (by omega)
                go_wp2_with fail
                go_ret3
                exact HFIN.out _ HB.out
              · have f1 : decide ((0 : Int) < (k : Int)) = false := decide_eq_false (by omega)
                go_wp2_with fail
                go_ret3
                exact HFIN.out _ HB.out
      · have hb1 : (128 : Int) ≤ (e : Int) := by omega
        by_cases h88 : k < 8
        · have h8n : ((k : Int) == 8) = false := beq_eq_false_iff_ne.2 (by omega)
          go_upto_region 9 with fail
          have HN1 : Hid (VI s (k + 1)) := Lib.hid (HNX.out (fun h => hbig (by rw [← he]; exact HLT.out.1 h)) h88)
          go_upto_region 10 with fail
          clear hsh hsh2 hNP
          go_wp2_with fail
          go_roundw
          case rel => exact ⟨k + 1, HN1, by rw [HNN.out], by go_num, HB⟩
          case measure => simp [intOf]; omega
        · have h8n : ((k : Int) == 8) = true := beq_iff_eq.2 (by omega)
          have HE := Lib.hid (HOV.out (fun h => hbig (by rw [← he]; exact HLT.out.1 h)) h88)
          clear hsh hsh2 hNP
          go_wp2_with fail
          go_ret3
          refine ⟨HB.out, .inr ⟨by rw [HE.out]; decide, 12, by decide, rfl⟩⟩
    · have HE := Lib.hid (HV.out.short (by have := HV.out.le; omega))
      have hkn : (s.size : Int) ≤ (k : Int) := by omega
      go_wp2_with fail
      go_ret3
      refine ⟨HB.out, .inr ⟨by rw [HE.out]; decide, 11, by decide, rfl⟩⟩
end Go.Proofs.YtoojpfcnekpboaaGreat

namespace Go.Proofs.YtoojpfcnekpboaaGreat
open Go.RowKit Go.Shelf

def RPost (q : Int × Int × Int) (w : World) (e : Ending) (w' : World) : Prop := Below w.heap.size w w' ∧
  ((q.2.2 = 0 ∧ e = .returned (tripV q)) ∨ (q.2.2 ≠ 0 ∧ ∃ er, er ≠ 0 ∧ e = .returned (tripV (0, 0, er))))
theorem vres_nn (s : ByteArray) : 0 ≤ (vres s).1 ∧ (vres s).1 ≤ 9223372036854775807 ∧ 0 ≤ (vres s).2.1 ∧ (vres s).2.1 ≤ 10 := by
  rcases vres_err s with h | h | ⟨n, k, h⟩
  · rw [h]; decide
  · rw [h]; decide
  · obtain ⟨m, h1, h2, h3, _⟩ := vres_ok s n k h
    have := vE_len m
    rw [h]
    simp only
    omega
set_option maxRecDepth 100000 in
set_option maxHeartbeats 1000000 in
theorem readR_any (s : ByteArray) (w : World) (hs : s.size ≤ 100000) : Calls Tryz.prog 129 #[.string s] w (RPost (rdG s) w) := by
  have HG := Lib.hid (getR_any s w hs)
  clear hs
  go_enter Tryz.func129, Tryz.ntmps129
  go_wp2_with fail
  refine HG.out.mono ?_
  rintro e w1 ⟨hb, ⟨h0, h1, rfl⟩ | ⟨hn, er, her, rfl⟩⟩
  · have HB := Lib.hid hb
    obtain ⟨⟨n, k, z⟩, hq⟩ : ∃ q, vres s = q := ⟨_, rfl⟩
    rw [hq] at h0 h1
    rw [hq]
    simp only at h0 h1
    subst h0
    simp only [tripV]
    by_cases hg : (1152921504606846976 : Int) < n
    · have f1 : decide ((1152921504606846976 : Int) < n) = true := decide_eq_true hg
      have HE : Hid (rdG s = ((0 : Int), (0 : Int), (12 : Int))) := Lib.hid (by unfold rdG; rw [hq]; simp only [if_true]; rw [if_pos hg])
      clear hb hq h1 HG
      go_wp2_with fail
      go_ret3
      exact ⟨HB.out, .inr ⟨by rw [HE.out]; decide, 12, by decide, rfl⟩⟩
    · have f1 : decide ((1152921504606846976 : Int) < n) = false := decide_eq_false hg
      have HE : Hid (rdG s = (n, k, (0 : Int))) := Lib.hid (by unfold rdG; rw [hq]; simp only [if_true]; rw [if_neg hg])
      clear hb hq h1 HG
      go_wp2_with fail
      go_ret3
      exact ⟨HB.out, .inl ⟨by rw [HE.out], by rw [HE.out]; rfl⟩⟩
  · have HB := Lib.hid hb
    have d1 : (er == 0) = false := beq_eq_false_iff_ne.2 her
    have HER := Lib.hid her
    have HE : Hid ((rdG s).2.2 ≠ 0) := Lib.hid (by
      unfold rdG
      by_cases h0 : (vres s).2.2 = 0
      · rw [if_pos h0, if_pos (by
          by_cases h2 : (vres s).1 ≤ 2305843009213693952
          · exact absurd ⟨h0, h2⟩ hn
          · omega)]
        decide
      · rw [if_neg h0]
        exact h0)
    simp only [tripV]
    clear hb hn her HG
    go_wp2_with fail
    go_ret3
    exact ⟨HB.out, .inr ⟨HE.out, er, HER.out, rfl⟩⟩
set_option maxRecDepth 100000 in
set_option maxHeartbeats 1000000 in
theorem readSR_any (s : ByteArray) (w : World) (hs : s.size ≤ 100000) : Calls Tryz.prog 161 #[.string s] w (RPost (rdS s) w) := by
  have HG := Lib.hid (getR_any s w hs)
  clear hs
  go_enter Tryz.func161, Tryz.ntmps161
  go_wp2_with fail
  refine HG.out.mono ?_
  rintro e w1 ⟨hb, ⟨h0, h1, rfl⟩ | ⟨hn, er, her, rfl⟩⟩
  · have HB := Lib.hid hb
    have hnn := (vres_nn s).1
    obtain ⟨⟨n, k, z⟩, hq⟩ : ∃ q, vres s = q := ⟨_, rfl⟩
    rw [hq] at h0 h1 hnn
    rw [hq]
    simp only at h0 h1 hnn
    subst h0
    simp only [tripV]
    have hr : -1152921504606846976 ≤ unz n ∧ unz n ≤ 1152921504606846976 := by unfold unz; split <;> omega
    have HE : Hid (rdS s = (unz n, k, (0 : Int))) := Lib.hid (by unfold rdS; rw [hq]; simp only [if_true]; rw [if_pos hr])
    have ht : Int.tmod n 2 = n % 2 := Int.tmod_eq_emod_of_nonneg hnn
    have hd : Int.tdiv n 2 = n / 2 := Int.tdiv_eq_ediv_of_nonneg hnn
    by_cases hm : n % 2 = 0
    · have f1 : ((n % 2) == 1) = false := beq_eq_false_iff_ne.2 (by omega)
      have HU : Hid (unz n = n / 2) := Lib.hid (by unfold unz; rw [if_pos hm])
      clear hb hq HG hr hm
      go_wp2_with fail
      go_ret3
      exact ⟨HB.out, .inl ⟨by rw [HE.out], by rw [HE.out, HU.out]; rfl⟩⟩
    · have f1 : ((n % 2) == 1) = true := beq_iff_eq.2 (by omega)
      have HU : Hid (unz n = -(n / 2) - 1) := Lib.hid (by unfold unz; rw [if_neg hm])
      have g1 : -1152921504606846976 ≤ -(n / 2) - 1 := by omega
      have g2 : -(n / 2) - 1 ≤ 0 := by omega
      clear hb hq HG hr hm
      go_wp2_with fail
      go_ret3
      exact ⟨HB.out, .inl ⟨by rw [HE.out], by rw [HE.out, HU.out]; rfl⟩⟩
  · have HB := Lib.hid hb
    have d1 : (er != 0) = true := bne_iff_ne.2 her
    have HER := Lib.hid her
    have hnn := (vres_nn s).1
    have HE : Hid ((rdS s).2.2 ≠ 0) := Lib.hid (by
      unfold rdS
      by_cases h0 : (vres s).2.2 = 0
      · rw [if_pos h0, if_neg]
        · decide
        · intro hu
          apply hn
          refine ⟨h0, ?_⟩
          unfold unz at hu
          split at hu <;> omega
      · rw [if_neg h0]
        exact h0)
    simp only [tripV]
    clear hb hn her HG hnn
    go_wp2_with fail
    go_ret3
    exact ⟨HB.out, .inr ⟨HE.out, er, HER.out, rfl⟩⟩
end Go.Proofs.YtoojpfcnekpboaaGreat
