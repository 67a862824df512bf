/- The machine's walks: acceptance, and the states of bytes. The machine's walks: add at a repetition. -/
import Derived.Test.YthckgmbadmilfaaGreatMAO
namespace Go.Proofs.YthckgmbadmilfaaGreat
open Go.RowKit Rx

section
variable {B : Nat} {T : TypeId → Bool} {W W' : World} {S : Nat → Prop}
theorem Parts.fr {B : Nat} (hf : Fr B T (fun _ => False) W W') (hp : T 115 = false) {sv : Value} {xs : List Value} (h : Parts S W sv xs) : Parts S W' sv xs := ⟨owns_fr h.1 hf (fun _ _ h => h) hp, h.2⟩
theorem Node.fr {B : Nat} (hf : Fr B T (fun _ => False) W W') (ht : T 121 = false) (hp : T 115 = false) {kind : Int} {v : Value} {P Q : List Value → Prop} (h : Node S W kind v P) (hq : ∀ xs, P xs → Q xs) : Node S W' kind v Q := by
  obtain ⟨b, sv, xs, h1, h2, h3, h4, h5⟩ := h
  exact ⟨b, sv, xs, h1, h2, h3.fr hf (fun h => h) ht, h4.fr hf hp, hq xs h5⟩
mutual
theorem IsU.fr {B : Nat} (hf : Fr B T (fun _ => False) W W') (ht : T 121 = false) (hp : T 115 = false) (hc : T 202 = false) : ∀ (u : U) (v : Value), IsU S W u v → IsU S W' u v
  | .byte c, v, h => by
    unfold IsU at h ⊢
    obtain ⟨b, h1, h2, h3⟩ := h
    exact ⟨b, h1, h2, h3.fr hf (fun h => h) ht⟩
  | .cls f, v, h => by
    unfold IsU at h ⊢
    obtain ⟨b, k, h1, h2, h3, h4, h5⟩ := h
    exact ⟨b, k, h1, h2, h3, h4.fr hf (fun h => h) ht, h5.fr hf (fun h => h) hc⟩
  | .grp a, v, h => by
    unfold IsU at h ⊢
    exact IsA.fr hf ht hp hc a v h
  | .star u, v, h => by
    unfold IsU at h ⊢
    exact h.fr hf ht hp fun xs ⟨x, e, hx⟩ => ⟨x, e, IsU.fr hf ht hp hc u x hx⟩
  | .plus u, v, h => by
    unfold IsU at h ⊢
    exact h.fr hf ht hp fun xs ⟨x, e, hx⟩ => ⟨x, e, IsU.fr hf ht hp hc u x hx⟩
  | .opt u, v, h => by
    unfold IsU at h ⊢
    exact h.fr hf ht hp fun xs ⟨x, e, hx⟩ => ⟨x, e, IsU.fr hf ht hp hc u x hx⟩
theorem IsA.fr {B : Nat} (hf : Fr B T (fun _ => False) W W') (ht : T 121 = false) (hp : T 115 = false) (hc : T 202 = false) : ∀ (a : As) (v : Value), IsA S W a v → IsA S W' a v
  | .one s, v, h => by
    unfold IsA at h ⊢
    exact h.fr hf ht hp fun xs hx => IsSl.fr hf ht hp hc s xs hx
  | .more s a, v, h => by
    unfold IsA at h ⊢
    exact h.fr hf ht hp fun xs ⟨x, ys, e, h1, h2⟩ => ⟨x, ys, e, h1.fr hf ht hp fun zs hz => IsSl.fr hf ht hp hc s zs hz, IsAl.fr hf ht hp hc a ys h2⟩
theorem IsAl.fr {B : Nat} (hf : Fr B T (fun _ => False) W W') (ht : T 121 = false) (hp : T 115 = false) (hc : T 202 = false) : ∀ (a : As) (xs : List Value), IsAl S W a xs → IsAl S W' a xs
  | .one s, xs, h => by
    unfold IsAl at h ⊢
    obtain ⟨x, e, h1⟩ := h
    exact ⟨x, e, h1.fr hf ht hp fun zs hz => IsSl.fr hf ht hp hc s zs hz⟩
  | .more s a, xs, h => by
    unfold IsAl at h ⊢
    obtain ⟨x, ys, e, h1, h2⟩ := h
    exact ⟨x, ys, e, h1.fr hf ht hp fun zs hz => IsSl.fr hf ht hp hc s zs hz, IsAl.fr hf ht hp hc a ys h2⟩
theorem IsSl.fr {B : Nat} (hf : Fr B T (fun _ => False) W W') (ht : T 121 = false) (hp : T 115 = false) (hc : T 202 = false) : ∀ (s : Ss) (xs : List Value), IsSl S W s xs → IsSl S W' s xs
  | .nil, xs, h => by
    unfold IsSl at h ⊢
    exact h
  | .cons u s, xs, h => by
    unfold IsSl at h ⊢
    obtain ⟨x, ys, e, h1, h2⟩ := h
    exact ⟨x, ys, e, IsU.fr hf ht hp hc u x h1, IsSl.fr hf ht hp hc s ys h2⟩
end
end

set_option maxHeartbeats 400000 in
theorem accept_byte (b : Nat) (c : UInt8) (W : World) (h : At W b (nd 0 true c.toNat (.pointer none) (.slice none 0 0)) 121) :
    Calls Tryz.prog 161 #[ptr b] W fun e w' => e = .returned (.func (.func 169) #[] #[ptr W.heap.size]) ∧ w' = W.alloc (.cells #[.int .u8 c.toNat] 5) := by
  have c1 : W.cell? ⟨b, 1, none⟩ = some (.bool true) := h.cell 1
  have c2 : W.cell? ⟨b, 2, none⟩ = some (.int .u8 c.toNat) := h.cell 2
  unfold ptr
  go_enter Tryz.func161, Tryz.ntmps161
  go_wp2_with fail
  go_ret
  exact ⟨rfl, rfl⟩
set_option maxHeartbeats 400000 in
theorem accept_cls (b k : Nat) (W : World) (h : At W b (nd 0 false 0 (ptr k) (.slice none 0 0)) 121) :
    Calls Tryz.prog 161 #[ptr b] W fun e w' => e = .returned (.func (.func 170) #[] #[ptr W.heap.size]) ∧ w' = W.alloc (.cells #[ptr k] 118) := by
  have c1 : W.cell? ⟨b, 1, none⟩ = some (.bool false) := h.cell 1
  have c2 : W.cell? ⟨b, 3, none⟩ = some (ptr k) := h.cell 3
  unfold ptr at *
  go_enter Tryz.func161, Tryz.ntmps161
  go_wp2_with fail
  go_ret
  exact ⟨rfl, rfl⟩

/-- What add hands back. -/
def AddPost (B : Nat) (Z : Nat → Prop) (m : Nat) (st : Int) (W : World) (r : Nat × List St) (e : Ending) (w' : World) : Prop := e = .returned (.int .i64 r.1) ∧ Mach B (fun k => Z k ∨ Fresh W w' k) m st r.2 w' ∧ FrM B W w'
/-- add does what is told at this tree. -/
def AddOK (u : U) : Prop := ∀ (B : Nat) (S Z : Nat → Prop) (W : World) (m : Nat) (st : Int) (M : List St) (v : Value) (q : Nat), Mach B Z m st M W → IsU S W u v → M.length + szU u ≤ 9000 → q ≤ 9000 → Calls Tryz.prog 145 #[ptr m, v, .int .i64 q] W (AddPost B Z m st W (addU u M q))
theorem Mach.frM {B : Nat} {Z : Nat → Prop} {m : Nat} {st : Int} {M : List St} {W W' : World} (h : Mach B Z m st M W) (hb : Below W.heap.size W W') : Mach B Z m st M W' := by
  obtain ⟨sv, xs, h1, h2, h3, h4⟩ := h
  exact ⟨sv, xs, h1.below hb, owns_same (S := fun k => k < W.heap.size) h2 (fun g hg => by obtain ⟨C, hC⟩ := owns_type h2 hg; exact hC.lt) (fun k hk => hb.block k hk), h3.frM (B := B) (Fr.below hb), h4⟩
theorem ints_one (W : World) (q : Nat) : Ints (W.alloc (.cells #[.int .i64 q] 3)) (.slice (some ⟨W.heap.size, 0, none⟩) 1 1) [q] :=
  ⟨rfl, .inr ⟨W.heap.size, 1, #[.int .i64 q], rfl, Nat.zero_le _, heap_alloc_new _ _, Nat.le_refl _, by decide, rfl, rfl⟩⟩
/-- The arrays of Z, and one more. -/
def And1 (Z : Nat → Prop) (b k : Nat) : Prop := Z k ∨ k = b
theorem own_new (Z : Nat → Prop) (b n c : Nat) : Own (And1 Z b) (.slice (some ⟨b, 0, none⟩) n c) := fun g hg => by
  injection hg with hg
  exact .inr hg.symm
theorem And1.fresh {Z : Nat → Prop} {W w1 w2 : World} (h1 : W.heap.size ≤ w1.heap.size) (h2 : w1.heap.size < w2.heap.size) : ∀ k, And1 Z w1.heap.size k → Z k ∨ Fresh W w2 k := fun k hk => by
  rcases hk with h | h
  · exact .inl h
  · exact .inr (by subst h; exact ⟨h1, h2⟩)
theorem Fresh.step {Z : Nat → Prop} {W w1 w2 : World} {k : Nat} (h : (Z k ∨ Fresh W w1 k) ∨ Fresh W w2 k) (hs : w1.heap.size ≤ w2.heap.size) : Z k ∨ Fresh W w2 k := by
  rcases h with (h | h) | h
  · exact .inl h
  · exact .inr ⟨h.1, Nat.lt_of_lt_of_le h.2 hs⟩
  · exact .inr h
theorem ints_two (W : World) (p q : Nat) : Ints (W.alloc (.cells #[.int .i64 p, .int .i64 q] 3)) (.slice (some ⟨W.heap.size, 0, none⟩) 2 2) [p, q] :=
  ⟨rfl, .inr ⟨W.heap.size, 2, #[.int .i64 p, .int .i64 q], rfl, Nat.zero_le _, heap_alloc_new _ _, Nat.le_refl _, by decide, rfl, rfl⟩⟩

set_option maxRecDepth 100000 in
set_option maxHeartbeats 1000000 in
theorem add_byte (c : UInt8) : AddOK (.byte c) := by
  intro B S Z W m st M v q hm hu hsz hq
  unfold IsU at hu
  obtain ⟨b, _, rfl, hat⟩ := hu
  have c0 : W.cell? ⟨b, 0, none⟩ = some (.int .i64 0) := hat.cell 0
  have HAC := Lib.hid (accept_byte b c W hat)
  have HM := Lib.hid hm
  have hsz : M.length ≤ 9000 := by omega
  clear hm hat
  unfold ptr
  go_enter Tryz.func145, Tryz.ntmps145
  go_wp2_with fail
  refine (HAC.out).mono ?_
  rintro e w1 ⟨rfl, rfl⟩
  have hA : At (W.alloc (.cells #[.int .u8 c.toNat] 5)) W.heap.size #[.int .u8 c.toNat] 5 := At.new _ _ _
  have hm1 : Mach B Z m st M (W.alloc (.cells #[.int .u8 c.toNat] 5)) := HM.out.frM ((Below.refl _ _).alloc (Nat.le_refl _) _)
  have hf1 : FrM B W (W.alloc (.cells #[.int .u8 c.toNat] 5)) := (Fr.refl _).alloc _
  generalize (W.alloc (.cells #[.int .u8 c.toNat] 5)) = w1 at *
  have HP := Lib.hid (put_any6 (B := B) (And1 Z w1.heap.size) m st M (.rd (fun x => x == c) q) (.func (.func 169) #[] #[ptr W.heap.size]) (.slice (some ⟨w1.heap.size, 0, none⟩) 1 1) (w1.alloc (.cells #[.int .i64 q] 3)) (by omega) ((hm1.frM ((Below.refl _ _).alloc (Nat.le_refl _) _)).mono fun _ => .inl) ⟨.inl ⟨_, c, rfl, hA.alloc _, rfl⟩, ints_one w1 q, own_new _ _ _ _⟩)
  have HF1 := Lib.hid hf1
  clear hA hm1 hf1
  unfold ptr at *
  go_wp2_with fail
  refine (HP.out).mono ?_
  rintro e w2 ⟨rfl, hm2, hf2⟩
  have HM2 := Lib.hid hm2
  have HF2 := Lib.hid hf2
  clear hm2 hf2
  go_wp2_with fail
  go_ret
  exact ⟨rfl, HM2.out.mono (And1.fresh HF1.out.size (by have := HF2.out.size; rw [alloc_size] at this; omega)), ((HF1.out.alloc _).trans HF2.out)⟩

set_option maxRecDepth 100000 in
set_option maxHeartbeats 1000000 in
theorem add_cls (f : UInt8 → Bool) : AddOK (.cls f) := by
  intro B S Z W m st M v q hm hu hsz hq
  unfold IsU at hu
  obtain ⟨b, k, _, _, rfl, hat, hcl⟩ := hu
  have c0 : W.cell? ⟨b, 0, none⟩ = some (.int .i64 0) := hat.cell 0
  have HAC := Lib.hid (accept_cls b k W hat)
  have HM := Lib.hid hm
  have HC := Lib.hid hcl
  have hsz : M.length ≤ 9000 := by omega
  clear hm hat hcl
  unfold ptr
  go_enter Tryz.func145, Tryz.ntmps145
  go_wp2_with fail
  refine (HAC.out).mono ?_
  rintro e w1 ⟨rfl, rfl⟩
  have hA : At (W.alloc (.cells #[ptr k] 118)) W.heap.size #[ptr k] 118 := At.new _ _ _
  have hC : At (W.alloc (.cells #[ptr k] 118)) k (btab f 256) 202 := HC.out.alloc _
  have hm1 : Mach B Z m st M (W.alloc (.cells #[ptr k] 118)) := HM.out.frM ((Below.refl _ _).alloc (Nat.le_refl _) _)
  have hf1 : FrM B W (W.alloc (.cells #[ptr k] 118)) := (Fr.refl _).alloc _
  generalize (W.alloc (.cells #[ptr k] 118)) = w1 at *
  have HP := Lib.hid (put_any6 (B := B) (And1 Z w1.heap.size) m st M (.rd f q) (.func (.func 170) #[] #[ptr W.heap.size]) (.slice (some ⟨w1.heap.size, 0, none⟩) 1 1) (w1.alloc (.cells #[.int .i64 q] 3)) (by omega) ((hm1.frM ((Below.refl _ _).alloc (Nat.le_refl _) _)).mono fun _ => .inl) ⟨.inr ⟨_, k, rfl, hA.alloc _, hC.alloc _⟩, ints_one w1 q, own_new _ _ _ _⟩)
  have HF1 := Lib.hid hf1
  clear hA hC hm1 hf1
  unfold ptr at *
  go_wp2_with fail
  refine (HP.out).mono ?_
  rintro e w2 ⟨rfl, hm2, hf2⟩
  have HM2 := Lib.hid hm2
  have HF2 := Lib.hid hf2
  clear hm2 hf2
  go_wp2_with fail
  go_ret
  exact ⟨rfl, HM2.out.mono (And1.fresh HF1.out.size (by have := HF2.out.size; rw [alloc_size] at this; omega)), ((HF1.out.alloc _).trans HF2.out)⟩

set_option maxRecDepth 100000 in
set_option maxHeartbeats 1000000 in
theorem add_opt (u : U) (hU : AddOK u) : AddOK (.opt u) := by
  intro B S Z W m st M v q hm hu hsz hq
  unfold IsU at hu
  obtain ⟨b, sv, xs, _, rfl, hat, hpa, x, rfl, hx⟩ := hu
  obtain ⟨g, cap, rfl, hcap, hcell⟩ := owns_some hpa.1 (by simp)
  obtain ⟨vb, rfl⟩ := IsU.ptr u x hx
  have c0 : W.cell? ⟨b, 0, none⟩ = some (.int .i64 5) := hat.cell 0
  have c4 : W.cell? ⟨b, 4, none⟩ = some (.slice (some ⟨g, 0, none⟩) 1 cap) := hat.cell 4
  have c5 : W.cell? ⟨g, 0, none⟩ = some (.pointer (some ⟨vb, 0, none⟩)) := hcell 0 _ rfl
  simp only [szU] at hsz
  have hlen := addU_len u M q
  have HU := Lib.hid (hU B S Z W m st M (ptr vb) q hm hx (by omega) hq)
  clear hm hat hcell hpa hx hU hcap
  obtain ⟨r, M1, hr⟩ : ∃ r M1, addU u M q = (r, M1) := ⟨_, _, rfl⟩
  have HE : Hid (addU (.opt u) M q = (M1.length, M1 ++ [.ep [r, q]])) := Lib.hid (by simp only [addU, hr])
  rw [hr] at HU hlen
  simp only at hlen
  have hlen1 : M1.length ≤ 9000 := by omega
  rw [HE.out]
  clear hr HE hlen
  unfold ptr at *
  go_enter Tryz.func145, Tryz.ntmps145
  go_wp2_with fail
  refine (HU.out).mono ?_
  rintro e w1 ⟨rfl, hm1, hf1⟩
  have HF1 := Lib.hid hf1
  have HP := Lib.hid (put_any6 (B := B) (And1 (fun k => Z k ∨ Fresh W w1 k) w1.heap.size) m st M1 (.ep [r, q]) .nilFunc (.slice (some ⟨w1.heap.size, 0, none⟩) 2 2) (w1.alloc (.cells #[.int .i64 r, .int .i64 q] 3)) (by omega) ((hm1.frM ((Below.refl _ _).alloc (Nat.le_refl _) _)).mono fun _ => .inl) ⟨rfl, ints_two w1 r q, own_new _ _ _ _⟩)
  clear hf1 hm1 HU
  unfold ptr at *
  go_wp2_with fail
  refine (HP.out).mono ?_
  rintro e w2 ⟨rfl, hm2, hf2⟩
  have HM2 := Lib.hid hm2
  have HF2 := Lib.hid hf2
  clear hm2 hf2
  go_wp2_with fail
  go_ret
  exact ⟨rfl, HM2.out.mono (fun k hk => Fresh.step (And1.fresh HF1.out.size (by have := HF2.out.size; rw [alloc_size] at this; omega) k hk) (by have := HF2.out.size; rw [alloc_size] at this; omega)), ((HF1.out.alloc _).trans HF2.out)⟩
end Go.Proofs.YthckgmbadmilfaaGreat

namespace Go.Proofs.YthckgmbadmilfaaGreat
open Go.RowKit Rx

theorem owns_set {W : World} {e size n cap g j : Nat} {xs : List Value} {v : Value} (h : W.ownsRow 0 e size (.slice (some ⟨g, 0, none⟩) n cap) n xs) (_hj : j < xs.length) : (W.setCell ⟨g, j, none⟩ v).ownsRow 0 e size (.slice (some ⟨g, 0, none⟩) n cap) n (xs.set j v) := by
  obtain ⟨h1, ⟨h2, _⟩ | ⟨g', cap', cur, h3, h4, h5, h6, h7, h8, h9⟩⟩ := h
  · cases h2
  · injection h3 with h3 h3b h3c
    injection h3 with h3
    injection h3 with h3
    subst h3 h3c
    refine ⟨by simpa using h1, .inr ⟨g, cap, cur.setIfInBounds j v, rfl, h4, heap_setCell_same W g j cur e v h5, h6, h7, by simpa using h8, ?_⟩⟩
    rw [Array.toList_setIfInBounds, List.take_set, h9]
theorem owns_free {W : World} {e size n : Nat} {v : Value} {xs : List Value} (h : W.ownsRow 0 e size v n xs) {g : Nat} (hg : v.ownBlock = some g) (j : Nat) : W.frozen? ⟨g, j, none⟩ = false := by
  obtain ⟨C, hC⟩ := owns_type h hg
  exact hC.free j
theorem owns_cell {W : World} {e size n : Nat} {v : Value} {xs : List Value} (h : W.ownsRow 0 e size v n xs) {g : Nat} (hg : v.ownBlock = some g) {j : Nat} {u : Value} (hu : xs[j]? = some u) : W.cell? ⟨g, j, none⟩ = some u := by
  have := h.cells (g := g) hg j u hu
  have e1 : (⟨g, 0, none⟩ : Addr).add j = ⟨g, j, none⟩ := by unfold Addr.add; simp; omega
  rwa [e1] at this
theorem IsM.get {Z : Nat → Prop} {W : World} : ∀ {M : List St} {xs : List Value}, IsM Z W M xs → ∀ {i : Nat} {s : St}, M[i]? = some s → ∃ fv nv, xs[i * 2]? = some fv ∧ xs[i * 2 + 1]? = some nv ∧ IsSt Z W s fv nv
  | [], _, _, i, s, h => by simp at h
  | s0 :: M, _, ⟨fv, nv, ys, e, h1, h2⟩, i, s, h => by
    subst e
    rcases i with _ | i
    · simp at h; subst h; exact ⟨fv, nv, rfl, rfl, h1⟩
    · simp only [List.getElem?_cons_succ] at h
      obtain ⟨a, b, h3, h4, h5⟩ := IsM.get h2 h
      refine ⟨a, b, ?_, ?_, h5⟩
      · rw [Nat.succ_mul]; simpa using h3
      · rw [Nat.succ_mul]; simpa using h4
theorem IsM.length {Z : Nat → Prop} {W : World} : ∀ {M : List St} {xs : List Value}, IsM Z W M xs → xs.length = M.length * 2
  | [], _, h => by subst h; rfl
  | s0 :: M, _, ⟨fv, nv, ys, e, _, h2⟩ => by subst e; have := IsM.length h2; simp; omega
theorem IsM.set {Z : Nat → Prop} {W : World} {qs qs' : List Nat} {nv' : Value} (hn : Ints W nv' qs') (ho : Own Z nv') : ∀ {M : List St} {xs : List Value}, IsM Z W M xs → ∀ {i : Nat}, M[i]? = some (.ep qs) → IsM Z W (M.set i (.ep qs')) (xs.set (i * 2 + 1) nv')
  | [], _, _, i, h => by simp at h
  | s0 :: M, _, ⟨fv, nv, ys, e, h1, h2⟩, i, h => by
    subst e
    rcases i with _ | i
    · simp at h; subst h; exact ⟨fv, nv', ys, rfl, ⟨h1.1, hn, ho⟩, h2⟩
    · simp only [List.getElem?_cons_succ] at h
      refine ⟨fv, nv, ys.set (i * 2 + 1) nv', ?_, h1, IsM.set hn ho h2 h⟩
      rw [Nat.succ_mul]; rfl

/-- A state without reading gets its next states. -/
theorem mach_next {B : Nat} {Z : Nat → Prop} {m : Nat} {st : Int} {M : List St} {W : World} (h : Mach B Z m st M W) {i : Nat} {qs : List Nat} (hi : M[i]? = some (.ep qs)) : ∃ g cap old, At W m #[.slice (some ⟨g, 0, none⟩) M.length cap, .int .i64 st] 166 ∧ W.cell? ⟨g, i * 2 + 1, none⟩ = some old ∧ W.frozen? ⟨g, i * 2 + 1, none⟩ = false ∧ M.length ≤ cap ∧
    ∀ nv qs' w1, Below W.heap.size W w1 → Ints w1 nv qs' → Own Z nv → Mach B Z m st (M.set i (.ep qs')) (w1.setCell ⟨g, i * 2 + 1, none⟩ nv) ∧ FrM B W (w1.setCell ⟨g, i * 2 + 1, none⟩ nv) ∧ w1.cell? ⟨g, i * 2 + 1, none⟩ = some old ∧ w1.frozen? ⟨g, i * 2 + 1, none⟩ = false := by
  obtain ⟨sv, xs, hat, hown, hism, hBm, hBg⟩ := h
  have hlt : i < M.length := (List.getElem?_eq_some_iff.1 hi).1
  have hsv : ∃ g cap, sv = .slice (some ⟨g, 0, none⟩) M.length cap ∧ M.length ≤ cap := by
    rcases hown.2 with ⟨_, h0⟩ | ⟨g, cap, cur, rfl, _, _, hc, _⟩
    · omega
    · exact ⟨g, cap, rfl, hc⟩
  obtain ⟨g, cap, rfl, hcap⟩ := hsv
  obtain ⟨fv, nv0, h1, h2, h3⟩ := hism.get hi
  refine ⟨g, cap, nv0, hat, owns_cell hown rfl h2, owns_free hown rfl _, hcap, fun nv qs' w1 hb hn ho => ?_⟩
  have hown1 : w1.ownsRow 0 173 2 (.slice (some ⟨g, 0, none⟩) M.length cap) M.length xs := owns_same (S := fun k => k < W.heap.size) hown (fun g' hg => by obtain ⟨C, hC⟩ := owns_type hown hg; exact hC.lt) (fun k hk => hb.block k hk)
  obtain ⟨C, hC⟩ := owns_type hown1 (g := g) rfl
  have hf1 : FrM B w1 (w1.setCell ⟨g, i * 2 + 1, none⟩ nv) := (Fr.refl _).set g _ nv (.inr (.inl ⟨hBg g rfl, C, _, hC, rfl⟩))
  have hf0 : FrM B W w1 := Fr.below hb
  have hne : m ≠ g := fun e => owns_ne hown hat (by decide) (by rw [e]; rfl)
  have hj : i * 2 + 1 < xs.length := (List.getElem?_eq_some_iff.1 h2).1
  refine ⟨⟨_, xs.set (i * 2 + 1) nv, (hat.below hb).other _ hne, ?_, ?_, hBm, hBg⟩, hf0.trans hf1, owns_cell hown1 rfl h2, owns_free hown1 rfl _⟩
  · rw [List.length_set]; exact owns_set hown1 hj
  · exact IsM.set (hn.fr hf1 rfl) ho ((hism.frM hf0).frM hf1) hi

set_option maxRecDepth 100000 in
set_option maxHeartbeats 1000000 in
theorem add_star (u : U) (hU : AddOK u) : AddOK (.star u) := by
  intro B S Z W m st M v q hm hu hsz hq
  unfold IsU at hu
  obtain ⟨b, sv, xs, _, rfl, hat, hpa, x, rfl, hx⟩ := hu
  obtain ⟨g, cap, rfl, hcap, hcell⟩ := owns_some hpa.1 (by simp)
  obtain ⟨vb, rfl⟩ := IsU.ptr u x hx
  simp only [szU] at hsz
  have hlen := addU_len u (M ++ [.ep []]) M.length
  have hold := addU_old u (M ++ [.ep []]) M.length M.length (by simp)
  rw [List.getElem?_append_right (Nat.le_refl _), Nat.sub_self] at hold
  have HP0 := Lib.hid (put_any6 (B := B) Z m st M (.ep []) .nilFunc (.slice none 0 0) W (by omega) hm ⟨rfl, World.ownsRow_nil _ _ _ _, fun g hg => by cases hg⟩)
  have HU := Lib.hid (fun W1 (hm1 : Mach B Z m st (M ++ [.ep []]) W1) (hf1 : FrM B W W1) => hU B S Z W1 m st (M ++ [.ep []]) (ptr vb) M.length hm1 (IsU.fr hf1 rfl rfl rfl u _ hx) (by simp; omega) (by omega))
  have HAT := Lib.hid hat
  have HPA := Lib.hid hpa
  have c0 : W.cell? ⟨b, 0, none⟩ = some (.int .i64 3) := hat.cell 0
  obtain ⟨r, M1, hr⟩ : ∃ r M1, addU u (M ++ [.ep []]) M.length = (r, M1) := ⟨_, _, rfl⟩
  have HE : Hid (addU (.star u) M q = (M.length, M1.set M.length (.ep [r, q]))) := Lib.hid (by simp only [addU, hr])
  rw [hr] at HU hlen hold
  simp only [List.length_append, List.length_singleton] at hlen hold
  have HOLD := Lib.hid hold
  have hlen1 : M.length < M1.length := by omega
  have hlen2 : M1.length ≤ 9000 := by omega
  rw [HE.out]
  clear hr HE hlen hold hm hat hcell hpa hx hU hcap
  unfold ptr at *
  go_enter Tryz.func145, Tryz.ntmps145
  go_wp2_with fail
  refine (HP0.out).mono ?_
  rintro e w1 ⟨rfl, hm1, hf1⟩
  have hat1 := HAT.out.fr hf1 (fun h => h) rfl
  have hpa1 := HPA.out.fr hf1 rfl
  have d0 : w1.cell? ⟨b, 0, none⟩ = some (.int .i64 3) := hat1.cell 0
  have d4 : w1.cell? ⟨b, 4, none⟩ = some (.slice (some ⟨g, 0, none⟩) 1 cap) := hat1.cell 4
  have d5 : w1.cell? ⟨g, 0, none⟩ = some (.pointer (some ⟨vb, 0, none⟩)) := owns_cell hpa1.1 rfl rfl
  have HU1 := Lib.hid (HU.out w1 hm1 hf1)
  have HF1 := Lib.hid hf1
  clear hat1 hpa1 hm1 hf1 HU
  go_wp2_with fail
  refine (HU1.out).mono ?_
  rintro e w2 ⟨rfl, hm2, hf2⟩
  have hf12 := HF1.out.trans hf2
  have hs12 := hf2.size
  have hat2 := HAT.out.fr hf12 (fun h => h) rfl
  have e0 : w2.cell? ⟨b, 0, none⟩ = some (.int .i64 3) := hat2.cell 0
  obtain ⟨sg, sc, old, ha2, hc2, hfz2, hcap2, hst2⟩ := mach_next (hm2.mono (Z' := And1 (fun k => Z k ∨ Fresh w1 w2 k) w2.heap.size) fun _ => .inl) HOLD.out
  have m0 : w2.cell? ⟨m, 0, none⟩ = some (.slice (some ⟨sg, 0, none⟩) M1.length sc) := ha2.cell 0
  obtain ⟨hm3, hf3, hc3, hfz3⟩ := hst2 (.slice (some ⟨w2.heap.size, 0, none⟩) 2 2) [r, q] (w2.alloc (.cells #[.int .i64 r, .int .i64 q] 3)) ((Below.refl _ _).alloc (Nat.le_refl _) _) (ints_two w2 r q) (own_new _ _ _ _)
  have m3 : (w2.alloc (.cells #[.int .i64 r, .int .i64 q] 3)).cell? ⟨m, 0, none⟩ = some (.slice (some ⟨sg, 0, none⟩) M1.length sc) := (ha2.alloc _).cell 0
  have HM3 := Lib.hid hm3
  have HF3 := Lib.hid (hf12.trans hf3)
  have hb3 : ((w2.alloc (.cells #[.int .i64 r, .int .i64 q] 3)).setCell ⟨sg, M.length * 2 + 1, none⟩ (.slice (some ⟨w2.heap.size, 0, none⟩) 2 2)).cell? ⟨b, 0, none⟩ = some (.int .i64 3) := (hat2.fr hf3 (fun h => h) rfl).cell 0
  clear hat2 ha2 hst2 hm2 hf2 hm3 hf3 hf12 d0 d4 d5 HU1
  go_wp2_with fail
  go_ret
  exact ⟨rfl, HM3.out.mono (fun k hk => by
    rcases hk with (h | h) | h
    · exact .inl h
    · exact .inr ⟨Nat.le_trans HF1.out.size h.1, by have := h.2; simp; omega⟩
    · exact .inr (by subst h; exact ⟨Nat.le_trans HF1.out.size hs12, by simp⟩)), HF3.out⟩
set_option maxRecDepth 100000 in
set_option maxHeartbeats 1000000 in
theorem add_plus (u : U) (hU : AddOK u) : AddOK (.plus u) := by
  intro B S Z W m st M v q hm hu hsz hq
  unfold IsU at hu
  obtain ⟨b, sv, xs, _, rfl, hat, hpa, x, rfl, hx⟩ := hu
  obtain ⟨g, cap, rfl, hcap, hcell⟩ := owns_some hpa.1 (by simp)
  obtain ⟨vb, rfl⟩ := IsU.ptr u x hx
  simp only [szU] at hsz
  have hlen := addU_len u (M ++ [.ep []]) M.length
  have hold := addU_old u (M ++ [.ep []]) M.length M.length (by simp)
  rw [List.getElem?_append_right (Nat.le_refl _), Nat.sub_self] at hold
  have HP0 := Lib.hid (put_any6 (B := B) Z m st M (.ep []) .nilFunc (.slice none 0 0) W (by omega) hm ⟨rfl, World.ownsRow_nil _ _ _ _, fun g hg => by cases hg⟩)
  have HU := Lib.hid (fun W1 (hm1 : Mach B Z m st (M ++ [.ep []]) W1) (hf1 : FrM B W W1) => hU B S Z W1 m st (M ++ [.ep []]) (ptr vb) M.length hm1 (IsU.fr hf1 rfl rfl rfl u _ hx) (by simp; omega) (by omega))
  have HAT := Lib.hid hat
  have HPA := Lib.hid hpa
  have c0 : W.cell? ⟨b, 0, none⟩ = some (.int .i64 4) := hat.cell 0
  obtain ⟨r, M1, hr⟩ : ∃ r M1, addU u (M ++ [.ep []]) M.length = (r, M1) := ⟨_, _, rfl⟩
  have HE : Hid (addU (.plus u) M q = (r, M1.set M.length (.ep [r, q]))) := Lib.hid (by simp only [addU, hr])
  rw [hr] at HU hlen hold
  simp only [List.length_append, List.length_singleton] at hlen hold
  have HOLD := Lib.hid hold
  have hlen1 : M.length < M1.length := by omega
  have hlen2 : M1.length ≤ 9000 := by omega
  rw [HE.out]
  clear hr HE hlen hold hm hat hcell hpa hx hU hcap
  unfold ptr at *
  go_enter Tryz.func145, Tryz.ntmps145
  go_wp2_with fail
  refine (HP0.out).mono ?_
  rintro e w1 ⟨rfl, hm1, hf1⟩
  have hat1 := HAT.out.fr hf1 (fun h => h) rfl
  have hpa1 := HPA.out.fr hf1 rfl
  have d0 : w1.cell? ⟨b, 0, none⟩ = some (.int .i64 4) := hat1.cell 0
  have d4 : w1.cell? ⟨b, 4, none⟩ = some (.slice (some ⟨g, 0, none⟩) 1 cap) := hat1.cell 4
  have d5 : w1.cell? ⟨g, 0, none⟩ = some (.pointer (some ⟨vb, 0, none⟩)) := owns_cell hpa1.1 rfl rfl
  have HU1 := Lib.hid (HU.out w1 hm1 hf1)
  have HF1 := Lib.hid hf1
  clear hat1 hpa1 hm1 hf1 HU
  go_wp2_with fail
  refine (HU1.out).mono ?_
  rintro e w2 ⟨rfl, hm2, hf2⟩
  have hf12 := HF1.out.trans hf2
  have hs12 := hf2.size
  have hat2 := HAT.out.fr hf12 (fun h => h) rfl
  have e0 : w2.cell? ⟨b, 0, none⟩ = some (.int .i64 4) := hat2.cell 0
  obtain ⟨sg, sc, old, ha2, hc2, hfz2, hcap2, hst2⟩ := mach_next (hm2.mono (Z' := And1 (fun k => Z k ∨ Fresh w1 w2 k) w2.heap.size) fun _ => .inl) HOLD.out
  have m0 : w2.cell? ⟨m, 0, none⟩ = some (.slice (some ⟨sg, 0, none⟩) M1.length sc) := ha2.cell 0
  obtain ⟨hm3, hf3, hc3, hfz3⟩ := hst2 (.slice (some ⟨w2.heap.size, 0, none⟩) 2 2) [r, q] (w2.alloc (.cells #[.int .i64 r, .int .i64 q] 3)) ((Below.refl _ _).alloc (Nat.le_refl _) _) (ints_two w2 r q) (own_new _ _ _ _)
  have m3 : (w2.alloc (.cells #[.int .i64 r, .int .i64 q] 3)).cell? ⟨m, 0, none⟩ = some (.slice (some ⟨sg, 0, none⟩) M1.length sc) := (ha2.alloc _).cell 0
  have HM3 := Lib.hid hm3
  have HF3 := Lib.hid (hf12.trans hf3)
  have hb3 : ((w2.alloc (.cells #[.int .i64 r, .int .i64 q] 3)).setCell ⟨sg, M.length * 2 + 1, none⟩ (.slice (some ⟨w2.heap.size, 0, none⟩) 2 2)).cell? ⟨b, 0, none⟩ = some (.int .i64 4) := (hat2.fr hf3 (fun h => h) rfl).cell 0
  clear hat2 ha2 hst2 hm2 hf2 hm3 hf3 hf12 d0 d4 d5 HU1
  go_wp2_with fail
  go_ret
  exact ⟨rfl, HM3.out.mono (fun k hk => by
    rcases hk with (h | h) | h
    · exact .inl h
    · exact .inr ⟨Nat.le_trans HF1.out.size h.1, by have := h.2; simp; omega⟩
    · exact .inr (by subst h; exact ⟨Nat.le_trans HF1.out.size hs12, by simp⟩)), HF3.out⟩
end Go.Proofs.YthckgmbadmilfaaGreat
