/- The search in memory. -/
import Derived.Test.YtheblleadjbndaaFc
namespace Go.Proofs.Ytheblleadjbndaa
open Go.RowKit Rx

/-- A machine is kept where what changes holds cells of other types. -/
theorem Mach.frX {B : Nat} {Z : Nat → Prop} {m : Nat} {st : Int} {M : List St} {W W' : World} (h : Mach B Z m st M W) {X : Nat → Prop} (hf : Fr 0 (fun _ => false) X W W') (hx : ∀ b C t, X b → At W b C t → ¬ (t = 3 ∨ t = 74 ∨ t = 66 ∨ t = 5 ∨ t = 51 ∨ t = 102)) : Mach B Z m st M W' := by
  obtain ⟨sv, xs, h1, h2, h3, h4⟩ := h
  refine ⟨sv, xs, h1.fr hf (fun hX => hx _ _ _ hX h1 (by simp)) rfl, owns_fr h2 hf (fun g hg hX => ?_) rfl, ?_, h4⟩
  · obtain ⟨C, hC⟩ := owns_type h2 hg
    exact hx _ _ _ hX hC (by simp)
  · have hs : ∀ s fv nv, IsSt Z W s fv nv → IsSt Z W' s fv nv := fun s fv nv hh => by
      have hfn : ∀ v f, IsFn W v f → IsFn W' v f := fun v f hv => hv.fr hf rfl rfl rfl (fun b C t ha ht hX => hx _ _ _ hX ha (by rcases ht with e | e | e <;> simp [e]))
      have hin : ∀ v qs, Ints W v qs → Ints W' v qs := fun v qs hv => owns_fr hv hf (fun g hg hX => by
        obtain ⟨C, hC⟩ := owns_type hv hg
        exact hx _ _ _ hX hC (by simp)) rfl
      rcases s with ⟨f, q⟩ | qs
      · exact ⟨hfn _ _ hh.1, hin _ _ hh.2.1, hh.2.2⟩
      · exact ⟨hh.1, hin _ _ hh.2.1, hh.2.2⟩
    have : ∀ (M : List St) (xs : List Value), IsM Z W M xs → IsM Z W' M xs := by
      intro M
      induction M with
      | nil => exact fun _ h => h
      | cons s M ih => exact fun _ ⟨fv, nv, ys, e, h1, h2⟩ => ⟨fv, nv, ys, e, hs _ _ _ h1, ih _ h2⟩
    exact this M xs h3
/-- A part of a string as the program holds it. -/
def bestV : Option (Nat × Nat) → Array Value
  | none => #[.int .i64 0, .int .i64 0]
  | some x => #[.int .i64 (x.1 : Nat), .int .i64 (x.2 : Nat)]
/-- What find has in memory: the machine, the marks in block b, the threads nv here and xv there, the best part in block bb. -/
structure FIn (B : Nat) (Z : Nat → Prop) (m : Nat) (st : Int) (M : List St) (W : World) (b bb rb : Nat) (nv xv : Value) (now nxt : List Th) (mk : List Nat) (best : Option (Nat × Nat)) (wr : World) : Prop where
  mach : Mach B Z m st M wr
  marks : Marks wr b mk
  now : Ths wr nv now
  nxt : Ths wr xv nxt
  best : At wr bb (bestV best) 26
  res : At wr rb #[.int .i64 0, .int .i64 0] 26
  sep : ∀ g, nv.ownBlock = some g → xv.ownBlock ≠ some g
  below : Below W.heap.size W wr
  nb : W.heap.size ≤ b
  nbb : W.heap.size ≤ bb
  nrb : W.heap.size ≤ rb
  bbrb : bb ≠ rb
  nnv : ∀ g, nv.ownBlock = some g → W.heap.size ≤ g
  nxv : ∀ g, xv.ownBlock = some g → W.heap.size ≤ g
  zb : ¬ Z b
section
variable {B : Nat} {Z : Nat → Prop} {m : Nat} {st : Int} {M : List St} {W : World} {b bb rb : Nat} {nv xv : Value} {now nxt : List Th} {mk : List Nat} {best : Option (Nat × Nat)} {wr : World}
/-- The two sets change places. -/
theorem FIn.swap (h : FIn B Z m st M W b bb rb nv xv now nxt mk best wr) : FIn B Z m st M W b bb rb xv nv nxt now mk best wr :=
  ⟨h.mach, h.marks, h.nxt, h.now, h.best, h.res, fun g hg e => h.sep g e hg, h.below, h.nb, h.nbb, h.nrb, h.bbrb, h.nxv, h.nnv, h.zb⟩
theorem Ths.below {w w' : World} {v : Value} {ts : List Th} (h : Ths w v ts) (hb : Below w.heap.size w w') : Ths w' v ts := owns_fr (B := 0) (T := fun _ => false) (X := fun _ => False) h (Fr.below hb) (fun _ _ h => h) rfl
/-- New blocks alone. -/
theorem FIn.more (h : FIn B Z m st M W b bb rb nv xv now nxt mk best wr) {w' : World} (hb : Below wr.heap.size wr w') : FIn B Z m st M W b bb rb nv xv now nxt mk best w' :=
  ⟨h.mach.frM hb, At.below h.marks hb, h.now.below hb, h.nxt.below hb, h.best.below hb, h.res.below hb, h.sep, h.below.trans (hb.mono h.below.size), h.nb, h.nbb, h.nrb, h.bbrb, h.nnv, h.nxv, h.zb⟩
theorem At.ne {w : World} {x y : Nat} {C D : Array Value} {t u : TypeId} (h : At w x C t) (h2 : At w y D u) (hne : t ≠ u) : x ≠ y := fun e => by
  subst e
  have e1 := h.out
  rw [h2.out] at e1
  injection e1 with e1
  injection e1 with _ e1
  exact hne e1.symm
/-- A spreading of the threads here. -/
theorem FIn.spread (h : FIn B Z m st M W b bb rb nv xv now nxt mk best wr) {w' : World} {nv' : Value} {now' : List Th} {mk' : List Nat} (h1 : Ths w' nv' now') (h2 : Marks w' b mk') (hf : FrS b nv wr w') (hw : nv'.ownBlock = nv.ownBlock ∨ ∀ g, nv'.ownBlock = some g → wr.heap.size ≤ g) : FIn B Z m st M W b bb rb nv' xv now' nxt mk' best w' := by
  have hx : ∀ k C t, At wr k C t → t ≠ 3 → t ≠ 72 → ¬ XS b nv k := fun k C t ha h3 h4 hX => by
    rcases XS.no h.marks h.now h.zb k C t hX ha with h5 | h5
    · exact h3 h5.1
    · exact h4 h5
  have hnew : ∀ g, nv'.ownBlock = some g → W.heap.size ≤ g ∧ (nv.ownBlock = some g ∨ wr.heap.size ≤ g) := fun g hg => by
    rcases hw with e | e
    · rw [e] at hg; exact ⟨h.nnv g hg, .inl hg⟩
    · have := e g hg
      have := h.below.size
      exact ⟨by omega, .inr (by omega)⟩
  refine ⟨h.mach.frS hf (XS.no h.marks h.now h.zb), h2, h1, ?_, h.best.fr hf (hx _ _ _ h.best (by decide) (by decide)) rfl, h.res.fr hf (hx _ _ _ h.res (by decide) (by decide)) rfl, ?_, ?_, h.nb, h.nbb, h.nrb, h.bbrb, fun g hg => (hnew g hg).1, h.nxv, h.zb⟩
  · refine owns_fr h.nxt hf (fun g hg hX => ?_) rfl
    rcases hX with e | e
    · exact owns_ne h.nxt h.marks (by decide) (by rw [hg, e])
    · exact h.sep g e hg
  · intro g hg e
    rcases (hnew g hg).2 with h3 | h3
    · exact h.sep g h3 e
    · obtain ⟨C, hC⟩ := owns_type h.nxt e
      have := hC.lt
      omega
  · refine ⟨hf.os.trans h.below.os, hf.tape.trans h.below.tape, hf.output.trans h.below.output, Nat.le_trans h.below.size hf.size, fun k hk => ?_⟩
    rw [hf.block k (Nat.lt_of_lt_of_le hk h.below.size) (fun hX => ?_) (fun _ _ _ _ _ => rfl), h.below.block k hk]
    rcases hX with e | e
    · have := h.nb; omega
    · have := h.nnv k e; omega
/-- The best part is written anew. -/
theorem FIn.found (h : FIn B Z m st M W b bb rb nv xv now nxt mk best wr) (x : Nat × Nat) {w' : World} (hw : w' = (wr.setCell ⟨bb, 0, none⟩ (.int .i64 x.1)).setCell ⟨bb, 1, none⟩ (.int .i64 x.2)) : FIn B Z m st M W b bb rb nv xv now nxt mk (some x) w' := by
  subst hw
  have hf : Fr 0 (fun _ => false) (fun k => k = bb) wr ((wr.setCell ⟨bb, 0, none⟩ (.int .i64 x.1)).setCell ⟨bb, 1, none⟩ (.int .i64 x.2)) := Fr.set (X := fun k => k = bb) (Fr.set (X := fun k => k = bb) (Fr.refl _) bb 0 _ (.inl rfl)) bb 1 _ (.inl rfl)
  have hno : ∀ k C t, At wr k C t → t ≠ 26 → ¬ k = bb := fun k C t ha ht => At.ne ha h.best ht
  have hrow : ∀ v ts, Ths wr v ts → ∀ g, v.ownBlock = some g → ¬ g = bb := fun v ts hv g hg => by
    obtain ⟨C, hC⟩ := owns_type hv hg
    exact hno _ _ _ hC (by decide)
  refine ⟨?_, h.marks.fr hf (hno _ _ _ h.marks (by decide)) rfl, owns_fr h.now hf (hrow _ _ h.now) rfl, owns_fr h.nxt hf (hrow _ _ h.nxt) rfl, ?_, h.res.fr hf (fun e => h.bbrb e.symm) rfl, h.sep, ?_, h.nb, h.nbb, h.nrb, h.bbrb, h.nnv, h.nxv, h.zb⟩
  · exact h.mach.frX hf (fun k C t hX ha => by subst hX; rintro (rfl | rfl | rfl | rfl | rfl | rfl) <;> exact absurd rfl (At.ne ha h.best (by decide)))
  · have := (h.best.set 0 (.int .i64 x.1)).set 1 (.int .i64 x.2)
    rcases best with _ | y <;> exact this
  · refine ⟨hf.os.trans h.below.os, hf.tape.trans h.below.tape, hf.output.trans h.below.output, Nat.le_trans h.below.size hf.size, fun k hk => ?_⟩
    rw [hf.block k (Nat.lt_of_lt_of_le hk h.below.size) (by have := h.nbb; omega) (fun _ _ _ _ _ => rfl), h.below.block k hk]
end
end Go.Proofs.Ytheblleadjbndaa
