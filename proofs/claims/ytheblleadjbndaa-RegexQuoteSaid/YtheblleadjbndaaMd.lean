/- The machine's walks: add at sequences and alternatives. -/
import Derived.Test.YtheblleadjbndaaMc
namespace Go.Proofs.Ytheblleadjbndaa
open Go.RowKit Rx

def lenS : Ss → Nat
  | .nil => 0
  | .cons _ s => lenS s + 1
def dropS : Nat → Ss → Ss
  | 0, s => s
  | _ + 1, .nil => .nil
  | k + 1, .cons _ s => dropS k s
/-- All factors of a sequence. -/
def AllS (P : U → Prop) : Ss → Prop
  | .nil => True
  | .cons u s => P u ∧ AllS P s
theorem dropS_len : ∀ s, dropS (lenS s) s = .nil
  | .nil => rfl
  | .cons _ s => dropS_len s
theorem isSl_len {S : Nat → Prop} {W : World} : ∀ (s : Ss) (xs : List Value), IsSl S W s xs → xs.length = lenS s
  | .nil, xs, h => by unfold IsSl at h; subst h; rfl
  | .cons u s, xs, h => by
    unfold IsSl at h
    obtain ⟨x, ys, rfl, _, h2⟩ := h
    have := isSl_len s ys h2
    simp [lenS, this]
theorem isSl_at {S : Nat → Prop} {W : World} {P : U → Prop} : ∀ (s : Ss) (xs : List Value), IsSl S W s xs → AllS P s → ∀ j, j < lenS s → ∃ u x, dropS j s = .cons u (dropS (j + 1) s) ∧ xs[j]? = some x ∧ IsU S W u x ∧ P u
  | .nil, xs, h, _, j, hj => by simp [lenS] at hj
  | .cons u s, xs, h, ha, j, hj => by
    unfold IsSl at h
    obtain ⟨x, ys, rfl, h1, h2⟩ := h
    rcases j with _ | j
    · exact ⟨u, x, rfl, rfl, h1, ha.1⟩
    · obtain ⟨u', x', h3, h4, h5, h6⟩ := isSl_at s ys h2 ha.2 j (by simp only [lenS] at hj; omega)
      exact ⟨u', x', h3, h4, h5, h6⟩
theorem dropS_sz : ∀ (k : Nat) (s : Ss), szS (dropS k s) ≤ szS s
  | 0, s => Nat.le_refl _
  | _ + 1, .nil => Nat.le_refl _
  | k + 1, .cons u s => by simp only [dropS, szS]; have := dropS_sz k s; omega
theorem Fresh.next {Z : Nat → Prop} {W w1 w2 : World} {g : Nat} (h : (Z g ∨ Fresh W w1 g) ∨ Fresh w1 w2 g) (h1 : W.heap.size ≤ w1.heap.size) (h2 : w1.heap.size ≤ w2.heap.size) : Z g ∨ Fresh W w2 g := by
  rcases h with (h | h) | h
  · exact .inl h
  · exact .inr ⟨h.1, Nat.lt_of_lt_of_le h.2 h2⟩
  · exact .inr ⟨Nat.le_trans h1 h.1, h.2⟩
/-- add does what is told at the node of this sequence. -/
def SeqAdd (s : Ss) : Prop := ∀ (B : Nat) (S Z : Nat → Prop) (W : World) (m : Nat) (st : Int) (M : List St) (v : Value) (q : Nat), Mach B Z m st M W → Node S W 1 v (fun xs => IsSl S W s xs) → M.length + szS s ≤ 9000 → q ≤ 9000 → Calls Try.prog 39 #[ptr m, v, .int .i64 q] W (AddPost B Z m st W (addS s M q))

set_option maxRecDepth 100000 in
set_option maxHeartbeats 1000000 in
theorem seq_add (s : Ss) (hS : AllS AddOK s) : SeqAdd s := by
  intro B S Z W m st M v q hm hu hsz hq
  obtain ⟨b, sv, xs, _, rfl, hat, hpa, hsl⟩ := hu
  have hlen := isSl_len s xs hsl
  obtain ⟨sa, sn, sc, rfl⟩ := owns_slice hpa.1
  have hsn : sn = xs.length := by
    rcases hpa.1.2 with ⟨e, h0⟩ | ⟨g, cap, cur, e, _⟩
    · injection e with _ e _; omega
    · injection e with _ e _
  subst hsn
  have c0 : W.cell? ⟨b, 0, none⟩ = some (.int .i64 1) := hat.cell 0
  have c4 : W.cell? ⟨b, 4, none⟩ = some (.slice sa xs.length sc) := hat.cell 4
  have HM := Lib.hid hm
  have HAT := Lib.hid hat
  have HPA := Lib.hid hpa
  have HSL := Lib.hid hsl
  have HLEN := Lib.hid hlen
  have HS := Lib.hid hS
  have hxl : xs.length ≤ 9000 := by
    have h1 : lenS s ≤ szS s := by
      clear hsz hsl hlen HSL HLEN HS hS
      induction s using Ss.rec (motive_1 := fun _ => True) (motive_3 := fun _ => True) with
      | nil => exact Nat.le_refl _
      | cons u s _ ih => have := szU_byte_pos u; simp only [lenS, szS]; omega
      | _ => trivial
    omega
  clear hm hat hpa hsl hlen hS
  unfold ptr at *
  go_enter Try.func39, Try.ntmps39
  go_wp2_with fail
  go_loopw [2, 7] (fun nx i wr => ∃ k : Nat, k ≤ xs.length ∧ i = .int .i64 ((k : Int) - 1) ∧ nx = .int .i64 (addS (dropS k s) M q).1 ∧ Mach B (fun g => Z g ∨ Fresh W wr g) m st (addS (dropS k s) M q).2 wr ∧ FrM B W wr) (fun _ i _ => (intOf i + 1).toNat)
  case atStart =>
    refine ⟨xs.length, Nat.le_refl _, rfl, ?_, ?_, Fr.refl _⟩
    · rw [HLEN.out, dropS_len]; simp [addS]
    · rw [HLEN.out, dropS_len]; simp only [addS]; exact HM.out.mono fun _ => .inl
  case round =>
    obtain ⟨k, hk, rfl, rfl, hmk, hfk⟩ := hrel
    have HMK := Lib.hid hmk
    have HFK := Lib.hid hfk
    clear hmk hfk
    rcases k with _ | j
    · have e0 : dropS 0 s = s := rfl
      rw [e0] at HMK ⊢
      clear e0
      go_wp2_with fail
      go_ret
      exact ⟨rfl, HMK.out, HFK.out⟩
    · have hj : j < lenS s := by rw [← HLEN.out]; omega
      obtain ⟨u, x, h1, h2, h3, h4⟩ := isSl_at s xs HSL.out HS.out j hj
      obtain ⟨vb, rfl⟩ := IsU.ptr u x h3
      have hsa : ∃ g, sa = some ⟨g, 0, none⟩ := by
        rcases HPA.out.1.2 with ⟨e, h0⟩ | ⟨g, cap, cur, e, _⟩
        · omega
        · injection e with e _ _; exact ⟨g, e⟩
      obtain ⟨g, rfl⟩ := hsa
      have hat := HAT.out.fr HFK.out (fun h => h) rfl
      have hpa := HPA.out.fr HFK.out rfl
      have d4 : wr.cell? ⟨b, 4, none⟩ = some (.slice (some ⟨g, 0, none⟩) xs.length sc) := hat.cell 4
      have d5 : wr.cell? ⟨g, j, none⟩ = some (.pointer (some ⟨vb, 0, none⟩)) := owns_cell hpa.1 rfl h2
      have hlen := addS_len (dropS (j + 1) s) M q
      have hat1 := addS_at (dropS (j + 1) s) M q
      have hsz1 := dropS_sz (j + 1) s
      have hsz2 := dropS_sz j s
      rw [h1] at hsz2
      simp only [szS] at hsz2
      have HU := Lib.hid (h4 B S (fun g => Z g ∨ Fresh W wr g) wr m st (addS (dropS (j + 1) s) M q).2 _ (addS (dropS (j + 1) s) M q).1 HMK.out (IsU.fr HFK.out rfl rfl rfl u _ h3) (by omega) (by omega))
      have HD : Hid (addU u (addS (dropS (j + 1) s) M q).2 (addS (dropS (j + 1) s) M q).1 = addS (dropS j s) M q) := Lib.hid (by rw [h1]; simp only [addS])
      have hi : ((j + 1 : Nat) : Int) - 1 = (j : Int) := by omega
      rw [hi]
      have hjl : (j : Int) < (xs.length : Int) := by omega
      clear hat hpa hlen hat1 hsz1 hsz2 h1 h2 h3 h4 hi
      unfold ptr at *
      go_wp2_with fail
      refine (HU.out).mono ?_
      rw [HD.out]
      rintro e w2 ⟨rfl, hm2, hf2⟩
      have HM2 := Lib.hid hm2
      have HF2 := Lib.hid hf2
      clear hm2 hf2
      go_wp2_with fail
      go_roundw
      case rel => exact ⟨j, by omega, by go_num, rfl, HM2.out.mono (fun g hg => Fresh.next hg HFK.out.size HF2.out.size), HFK.out.trans HF2.out⟩
      case measure => first | (simp [intOf]; done) | (simp [intOf]; omega)
end Go.Proofs.Ytheblleadjbndaa
