/- The machine's walks: acceptance, and the states of bytes. -/
import Derived.Test.YtheblleadjbndaaMa
namespace Go.Proofs.Ytheblleadjbndaa
open Go.RowKit Rx

section
variable {B : Nat} {T : TypeId → Bool} {W W' : World} {S : Nat → Prop}
theorem Parts.fr {B : Nat} (hf : Fr B T (fun _ => False) W W') (hp : T 37 = false) {sv : Value} {xs : List Value} (h : Parts S W sv xs) : Parts S W' sv xs := ⟨owns_fr h.1 hf (fun _ _ h => h) hp, h.2⟩
theorem Node.fr {B : Nat} (hf : Fr B T (fun _ => False) W W') (ht : T 54 = false) (hp : T 37 = false) {kind : Int} {v : Value} {P Q : List Value → Prop} (h : Node S W kind v P) (hq : ∀ xs, P xs → Q xs) : Node S W' kind v Q := by
  obtain ⟨b, sv, xs, h1, h2, h3, h4, h5⟩ := h
  exact ⟨b, sv, xs, h1, h2, h3.fr hf (fun h => h) ht, h4.fr hf hp, hq xs h5⟩
mutual
theorem IsU.fr {B : Nat} (hf : Fr B T (fun _ => False) W W') (ht : T 54 = false) (hp : T 37 = false) (hc : T 102 = false) : ∀ (u : U) (v : Value), IsU S W u v → IsU S W' u v
  | .byte c, v, h => by
    unfold IsU at h ⊢
    obtain ⟨b, h1, h2, h3⟩ := h
    exact ⟨b, h1, h2, h3.fr hf (fun h => h) ht⟩
  | .cls f, v, h => by
    unfold IsU at h ⊢
    obtain ⟨b, k, h1, h2, h3, h4, h5⟩ := h
    exact ⟨b, k, h1, h2, h3, h4.fr hf (fun h => h) ht, h5.fr hf (fun h => h) hc⟩
  | .grp a, v, h => by
    unfold IsU at h ⊢
    exact IsA.fr hf ht hp hc a v h
  | .star u, v, h => by
    unfold IsU at h ⊢
    exact h.fr hf ht hp fun xs ⟨x, e, hx⟩ => ⟨x, e, IsU.fr hf ht hp hc u x hx⟩
  | .plus u, v, h => by
    unfold IsU at h ⊢
    exact h.fr hf ht hp fun xs ⟨x, e, hx⟩ => ⟨x, e, IsU.fr hf ht hp hc u x hx⟩
  | .opt u, v, h => by
    unfold IsU at h ⊢
    exact h.fr hf ht hp fun xs ⟨x, e, hx⟩ => ⟨x, e, IsU.fr hf ht hp hc u x hx⟩
theorem IsA.fr {B : Nat} (hf : Fr B T (fun _ => False) W W') (ht : T 54 = false) (hp : T 37 = false) (hc : T 102 = false) : ∀ (a : As) (v : Value), IsA S W a v → IsA S W' a v
  | .one s, v, h => by
    unfold IsA at h ⊢
    exact h.fr hf ht hp fun xs hx => IsSl.fr hf ht hp hc s xs hx
  | .more s a, v, h => by
    unfold IsA at h ⊢
    exact h.fr hf ht hp fun xs ⟨x, ys, e, h1, h2⟩ => ⟨x, ys, e, h1.fr hf ht hp fun zs hz => IsSl.fr hf ht hp hc s zs hz, IsAl.fr hf ht hp hc a ys h2⟩
theorem IsAl.fr {B : Nat} (hf : Fr B T (fun _ => False) W W') (ht : T 54 = false) (hp : T 37 = false) (hc : T 102 = false) : ∀ (a : As) (xs : List Value), IsAl S W a xs → IsAl S W' a xs
  | .one s, xs, h => by
    unfold IsAl at h ⊢
    obtain ⟨x, e, h1⟩ := h
    exact ⟨x, e, h1.fr hf ht hp fun zs hz => IsSl.fr hf ht hp hc s zs hz⟩
  | .more s a, xs, h => by
    unfold IsAl at h ⊢
    obtain ⟨x, ys, e, h1, h2⟩ := h
    exact ⟨x, ys, e, h1.fr hf ht hp fun zs hz => IsSl.fr hf ht hp hc s zs hz, IsAl.fr hf ht hp hc a ys h2⟩
theorem IsSl.fr {B : Nat} (hf : Fr B T (fun _ => False) W W') (ht : T 54 = false) (hp : T 37 = false) (hc : T 102 = false) : ∀ (s : Ss) (xs : List Value), IsSl S W s xs → IsSl S W' s xs
  | .nil, xs, h => by
    unfold IsSl at h ⊢
    exact h
  | .cons u s, xs, h => by
    unfold IsSl at h ⊢
    obtain ⟨x, ys, e, h1, h2⟩ := h
    exact ⟨x, ys, e, IsU.fr hf ht hp hc u x h1, IsSl.fr hf ht hp hc s ys h2⟩
end
end

set_option maxHeartbeats 400000 in
theorem accept_byte (b : Nat) (c : UInt8) (W : World) (h : At W b (nd 0 true c.toNat (.pointer none) (.slice none 0 0)) 54) :
    Calls Try.prog 52 #[ptr b] W fun e w' => e = .returned (.func (.func 60) #[] #[ptr W.heap.size]) ∧ w' = W.alloc (.cells #[.int .u8 c.toNat] 5) := by
  have c1 : W.cell? ⟨b, 1, none⟩ = some (.bool true) := h.cell 1
  have c2 : W.cell? ⟨b, 2, none⟩ = some (.int .u8 c.toNat) := h.cell 2
  unfold ptr
  go_enter Try.func52, Try.ntmps52
  go_wp2_with fail
  go_ret
  exact ⟨rfl, rfl⟩
set_option maxHeartbeats 400000 in
theorem accept_cls (b k : Nat) (W : World) (h : At W b (nd 0 false 0 (ptr k) (.slice none 0 0)) 54) :
    Calls Try.prog 52 #[ptr b] W fun e w' => e = .returned (.func (.func 61) #[] #[ptr W.heap.size]) ∧ w' = W.alloc (.cells #[ptr k] 51) := by
  have c1 : W.cell? ⟨b, 1, none⟩ = some (.bool false) := h.cell 1
  have c2 : W.cell? ⟨b, 3, none⟩ = some (ptr k) := h.cell 3
  unfold ptr at *
  go_enter Try.func52, Try.ntmps52
  go_wp2_with fail
  go_ret
  exact ⟨rfl, rfl⟩

/-- What add hands back. -/
def AddPost (B : Nat) (Z : Nat → Prop) (m : Nat) (st : Int) (W : World) (r : Nat × List St) (e : Ending) (w' : World) : Prop := e = .returned (.int .i64 r.1) ∧ Mach B (fun k => Z k ∨ Fresh W w' k) m st r.2 w' ∧ FrM B W w'
/-- add does what is told at this tree. -/
def AddOK (u : U) : Prop := ∀ (B : Nat) (S Z : Nat → Prop) (W : World) (m : Nat) (st : Int) (M : List St) (v : Value) (q : Nat), Mach B Z m st M W → IsU S W u v → M.length + szU u ≤ 9000 → q ≤ 9000 → Calls Try.prog 39 #[ptr m, v, .int .i64 q] W (AddPost B Z m st W (addU u M q))
theorem Mach.frM {B : Nat} {Z : Nat → Prop} {m : Nat} {st : Int} {M : List St} {W W' : World} (h : Mach B Z m st M W) (hb : Below W.heap.size W W') : Mach B Z m st M W' := by
  obtain ⟨sv, xs, h1, h2, h3, h4⟩ := h
  exact ⟨sv, xs, h1.below hb, owns_same (S := fun k => k < W.heap.size) h2 (fun g hg => by obtain ⟨C, hC⟩ := owns_type h2 hg; exact hC.lt) (fun k hk => hb.block k hk), h3.frM (B := B) (Fr.below hb), h4⟩
theorem ints_one (W : World) (q : Nat) : Ints (W.alloc (.cells #[.int .i64 q] 3)) (.slice (some ⟨W.heap.size, 0, none⟩) 1 1) [q] :=
  ⟨rfl, .inr ⟨W.heap.size, 1, #[.int .i64 q], rfl, Nat.zero_le _, heap_alloc_new _ _, Nat.le_refl _, by decide, rfl, rfl⟩⟩
/-- The arrays of Z, and one more. -/
def And1 (Z : Nat → Prop) (b k : Nat) : Prop := Z k ∨ k = b
theorem own_new (Z : Nat → Prop) (b n c : Nat) : Own (And1 Z b) (.slice (some ⟨b, 0, none⟩) n c) := fun g hg => by
  injection hg with hg
  exact .inr hg.symm
theorem And1.fresh {Z : Nat → Prop} {W w1 w2 : World} (h1 : W.heap.size ≤ w1.heap.size) (h2 : w1.heap.size < w2.heap.size) : ∀ k, And1 Z w1.heap.size k → Z k ∨ Fresh W w2 k := fun k hk => by
  rcases hk with h | h
  · exact .inl h
  · exact .inr (by subst h; exact ⟨h1, h2⟩)
theorem Fresh.step {Z : Nat → Prop} {W w1 w2 : World} {k : Nat} (h : (Z k ∨ Fresh W w1 k) ∨ Fresh W w2 k) (hs : w1.heap.size ≤ w2.heap.size) : Z k ∨ Fresh W w2 k := by
  rcases h with (h | h) | h
  · exact .inl h
  · exact .inr ⟨h.1, Nat.lt_of_lt_of_le h.2 hs⟩
  · exact .inr h
theorem ints_two (W : World) (p q : Nat) : Ints (W.alloc (.cells #[.int .i64 p, .int .i64 q] 3)) (.slice (some ⟨W.heap.size, 0, none⟩) 2 2) [p, q] :=
  ⟨rfl, .inr ⟨W.heap.size, 2, #[.int .i64 p, .int .i64 q], rfl, Nat.zero_le _, heap_alloc_new _ _, Nat.le_refl _, by decide, rfl, rfl⟩⟩

set_option maxRecDepth 100000 in
set_option maxHeartbeats 1000000 in
theorem add_byte (c : UInt8) : AddOK (.byte c) := by
  intro B S Z W m st M v q hm hu hsz hq
  unfold IsU at hu
  obtain ⟨b, _, rfl, hat⟩ := hu
  have c0 : W.cell? ⟨b, 0, none⟩ = some (.int .i64 0) := hat.cell 0
  have HAC := Lib.hid (accept_byte b c W hat)
  have HM := Lib.hid hm
  have hsz : M.length ≤ 9000 := by omega
  clear hm hat
  unfold ptr
  go_enter Try.func39, Try.ntmps39
  go_wp2_with fail
  refine (HAC.out).mono ?_
  rintro e w1 ⟨rfl, rfl⟩
  have hA : At (W.alloc (.cells #[.int .u8 c.toNat] 5)) W.heap.size #[.int .u8 c.toNat] 5 := At.new _ _ _
  have hm1 : Mach B Z m st M (W.alloc (.cells #[.int .u8 c.toNat] 5)) := HM.out.frM ((Below.refl _ _).alloc (Nat.le_refl _) _)
  have hf1 : FrM B W (W.alloc (.cells #[.int .u8 c.toNat] 5)) := (Fr.refl _).alloc _
  generalize (W.alloc (.cells #[.int .u8 c.toNat] 5)) = w1 at *
  have HP := Lib.hid (put_any (B := B) (And1 Z w1.heap.size) m st M (.rd (fun x => x == c) q) (.func (.func 60) #[] #[ptr W.heap.size]) (.slice (some ⟨w1.heap.size, 0, none⟩) 1 1) (w1.alloc (.cells #[.int .i64 q] 3)) (by omega) ((hm1.frM ((Below.refl _ _).alloc (Nat.le_refl _) _)).mono fun _ => .inl) ⟨.inl ⟨_, c, rfl, hA.alloc _, rfl⟩, ints_one w1 q, own_new _ _ _ _⟩)
  have HF1 := Lib.hid hf1
  clear hA hm1 hf1
  unfold ptr at *
  go_wp2_with fail
  refine (HP.out).mono ?_
  rintro e w2 ⟨rfl, hm2, hf2⟩
  have HM2 := Lib.hid hm2
  have HF2 := Lib.hid hf2
  clear hm2 hf2
  go_wp2_with fail
  go_ret
  exact ⟨rfl, HM2.out.mono (And1.fresh HF1.out.size (by have := HF2.out.size; rw [alloc_size] at this; omega)), ((HF1.out.alloc _).trans HF2.out)⟩

set_option maxRecDepth 100000 in
set_option maxHeartbeats 1000000 in
theorem add_cls (f : UInt8 → Bool) : AddOK (.cls f) := by
  intro B S Z W m st M v q hm hu hsz hq
  unfold IsU at hu
  obtain ⟨b, k, _, _, rfl, hat, hcl⟩ := hu
  have c0 : W.cell? ⟨b, 0, none⟩ = some (.int .i64 0) := hat.cell 0
  have HAC := Lib.hid (accept_cls b k W hat)
  have HM := Lib.hid hm
  have HC := Lib.hid hcl
  have hsz : M.length ≤ 9000 := by omega
  clear hm hat hcl
  unfold ptr
  go_enter Try.func39, Try.ntmps39
  go_wp2_with fail
  refine (HAC.out).mono ?_
  rintro e w1 ⟨rfl, rfl⟩
  have hA : At (W.alloc (.cells #[ptr k] 51)) W.heap.size #[ptr k] 51 := At.new _ _ _
  have hC : At (W.alloc (.cells #[ptr k] 51)) k (btab f 256) 102 := HC.out.alloc _
  have hm1 : Mach B Z m st M (W.alloc (.cells #[ptr k] 51)) := HM.out.frM ((Below.refl _ _).alloc (Nat.le_refl _) _)
  have hf1 : FrM B W (W.alloc (.cells #[ptr k] 51)) := (Fr.refl _).alloc _
  generalize (W.alloc (.cells #[ptr k] 51)) = w1 at *
  have HP := Lib.hid (put_any (B := B) (And1 Z w1.heap.size) m st M (.rd f q) (.func (.func 61) #[] #[ptr W.heap.size]) (.slice (some ⟨w1.heap.size, 0, none⟩) 1 1) (w1.alloc (.cells #[.int .i64 q] 3)) (by omega) ((hm1.frM ((Below.refl _ _).alloc (Nat.le_refl _) _)).mono fun _ => .inl) ⟨.inr ⟨_, k, rfl, hA.alloc _, hC.alloc _⟩, ints_one w1 q, own_new _ _ _ _⟩)
  have HF1 := Lib.hid hf1
  clear hA hC hm1 hf1
  unfold ptr at *
  go_wp2_with fail
  refine (HP.out).mono ?_
  rintro e w2 ⟨rfl, hm2, hf2⟩
  have HM2 := Lib.hid hm2
  have HF2 := Lib.hid hf2
  clear hm2 hf2
  go_wp2_with fail
  go_ret
  exact ⟨rfl, HM2.out.mono (And1.fresh HF1.out.size (by have := HF2.out.size; rw [alloc_size] at this; omega)), ((HF1.out.alloc _).trans HF2.out)⟩

set_option maxRecDepth 100000 in
set_option maxHeartbeats 1000000 in
theorem add_opt (u : U) (hU : AddOK u) : AddOK (.opt u) := by
  intro B S Z W m st M v q hm hu hsz hq
  unfold IsU at hu
  obtain ⟨b, sv, xs, _, rfl, hat, hpa, x, rfl, hx⟩ := hu
  obtain ⟨g, cap, rfl, hcap, hcell⟩ := owns_some hpa.1 (by simp)
  obtain ⟨vb, rfl⟩ := IsU.ptr u x hx
  have c0 : W.cell? ⟨b, 0, none⟩ = some (.int .i64 5) := hat.cell 0
  have c4 : W.cell? ⟨b, 4, none⟩ = some (.slice (some ⟨g, 0, none⟩) 1 cap) := hat.cell 4
  have c5 : W.cell? ⟨g, 0, none⟩ = some (.pointer (some ⟨vb, 0, none⟩)) := hcell 0 _ rfl
  simp only [szU] at hsz
  have hlen := addU_len u M q
  have HU := Lib.hid (hU B S Z W m st M (ptr vb) q hm hx (by omega) hq)
  clear hm hat hcell hpa hx hU hcap
  obtain ⟨r, M1, hr⟩ : ∃ r M1, addU u M q = (r, M1) := ⟨_, _, rfl⟩
  have HE : Hid (addU (.opt u) M q = (M1.length, M1 ++ [.ep [r, q]])) := Lib.hid (by simp only [addU, hr])
  rw [hr] at HU hlen
  simp only at hlen
  have hlen1 : M1.length ≤ 9000 := by omega
  rw [HE.out]
  clear hr HE hlen
  unfold ptr at *
  go_enter Try.func39, Try.ntmps39
  go_wp2_with fail
  refine (HU.out).mono ?_
  rintro e w1 ⟨rfl, hm1, hf1⟩
  have HF1 := Lib.hid hf1
  have HP := Lib.hid (put_any (B := B) (And1 (fun k => Z k ∨ Fresh W w1 k) w1.heap.size) m st M1 (.ep [r, q]) .nilFunc (.slice (some ⟨w1.heap.size, 0, none⟩) 2 2) (w1.alloc (.cells #[.int .i64 r, .int .i64 q] 3)) (by omega) ((hm1.frM ((Below.refl _ _).alloc (Nat.le_refl _) _)).mono fun _ => .inl) ⟨rfl, ints_two w1 r q, own_new _ _ _ _⟩)
  clear hf1 hm1 HU
  unfold ptr at *
  go_wp2_with fail
  refine (HP.out).mono ?_
  rintro e w2 ⟨rfl, hm2, hf2⟩
  have HM2 := Lib.hid hm2
  have HF2 := Lib.hid hf2
  clear hm2 hf2
  go_wp2_with fail
  go_ret
  exact ⟨rfl, HM2.out.mono (fun k hk => Fresh.step (And1.fresh HF1.out.size (by have := HF2.out.size; rw [alloc_size] at this; omega) k hk) (by have := HF2.out.size; rw [alloc_size] at this; omega)), ((HF1.out.alloc _).trans HF2.out)⟩
end Go.Proofs.Ytheblleadjbndaa
