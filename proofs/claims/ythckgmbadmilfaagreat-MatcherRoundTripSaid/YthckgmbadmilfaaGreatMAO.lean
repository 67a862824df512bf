/- The parser's walks: parse. The machine's walks: frames by types, what a machine is in memory. -/
import Derived.Test.YthckgmbadmilfaaGreatMAN
import Derived.Test.YthckgmbadmilfaaGreatMAA
import Derived.Deep.RegionHeld3
import Derived.Deep.AppendLies
import Derived.Deep.RegionLaw
namespace Go.Proofs.YthckgmbadmilfaaGreat
open Go.RowKit Rx

theorem all_ok (n : Nat) : AltOK n ∧ SeqOK n ∧ AtomOK n := by
  induction n using Nat.strongRecOn with
  | _ n ih =>
    refine ⟨alt_ok n fun m hm => (ih m hm).2.1, seq_ok n fun m hm => (ih m hm).2.2, ?_⟩
    rcases n with _ | n
    · intro W p s l _ _ h
      omega
    · exact atom_ok n (ih n (Nat.lt_succ_self n)).1

/-- What parse hands back. -/
def ParsePost (s : ByteArray) (W : World) (e : Ending) (w' : World) : Prop :=
  Below W.heap.size W w' ∧ match parse (bs s) with
  | none => e = .returned (.tuple #[.pointer none, .bool false])
  | some a => ∃ v, e = .returned (.tuple #[v, .bool true]) ∧ IsA (Fresh W w') w' a v
theorem ParsePost.no {s : ByteArray} {W w' : World} (hr : parse (bs s) = none) (hk : Below W.heap.size W w') : ParsePost s W (.returned (.tuple #[.pointer none, .bool false])) w' := by
  unfold ParsePost; rw [hr]; exact ⟨hk, rfl⟩
theorem ParsePost.yes {s : ByteArray} {W w' : World} {a : As} {v : Value} (hr : parse (bs s) = some a) (hk : Below W.heap.size W w') (ha : IsA (Fresh W w') w' a v) : ParsePost s W (.returned (.tuple #[v, .bool true])) w' := by
  unfold ParsePost; rw [hr]; exact ⟨hk, v, rfl, ha⟩

set_option maxHeartbeats 1000000 in
theorem parse_any6 (s : ByteArray) (W : World) :
    Calls Tryz.prog 108 #[.string s] W (ParsePost s W) := by
  by_cases h : 200 < s.size
  · have HE : Hid (parse (bs s) = none) := Lib.hid (by unfold parse; rw [if_pos (by rw [bs_length]; exact h)])
    go_enter Tryz.func108, Tryz.ntmps108
    go_wp2_with fail
    go_ret2
    exact ParsePost.no HE.out (Below.refl _ _)
  · have hs : s.size ≤ 200 := by omega
    have HE : Hid (parse (bs s) = match alts (fuel s.size) (bs s) with | some (a, []) => some a | _ => none) := Lib.hid (by unfold parse; rw [if_neg (by rw [bs_length]; exact h)]; rfl)
    have hp0 : PS (W.alloc (.cells #[.string s, .int .i64 0] 154)) W.heap.size s (bs s) := by
      refine ⟨Nat.le_refl _, by rw [bs_length, Nat.sub_self]; rfl, ?_⟩
      have := At.new W #[.string s, .int .i64 0] 154
      rw [bs_length, Nat.sub_self]
      exact this
    have HC := Lib.hid ((all_ok (fuel s.size)).1 _ _ s (bs s) (by omega) hp0 (by rw [bs_length]; unfold fuel; omega))
    have HB1 : Hid (Below W.heap.size W (W.alloc (.cells #[.string s, .int .i64 0] 154))) := Lib.hid ((Below.refl _ _).alloc (Nat.le_refl _) _)
    have HS1 : Hid (W.heap.size ≤ (W.alloc (.cells #[.string s, .int .i64 0] 154)).heap.size) := Lib.hid (by simp)
    clear h hp0
    unfold ptr at HC
    go_enter Tryz.func108, Tryz.ntmps108
    go_wp2_with fail
    generalize (W.alloc (.cells #[.string s, .int .i64 0] 154)) = w1 at *
    refine (HC.out).mono ?_
    rintro e w2 ⟨hk2, h2⟩
    have HB2 : Hid (Below W.heap.size W w2) := Lib.hid (HB1.out.trans (hk2.toBelow (Nat.le_refl _) HS1.out))
    clear hk2
    rcases hal : alts (fuel s.size) (bs s) with _ | ⟨a, l'⟩
    · rw [hal] at h2 HE
      simp only at h2
      subst h2
      clear hal
      go_wp2_with fail
      go_ret2
      exact ParsePost.no HE.out HB2.out
    · rw [hal] at h2 HE
      simp only at h2
      obtain ⟨v, rfl, hia, hp2⟩ := h2
      have HIA := Lib.hid hia
      have c1 : w2.cell? ⟨W.heap.size, 1, none⟩ = some (.int .i64 ((s.size - l'.length : Nat) : Int)) := hp2.at_.cell 1
      have hle := hp2.le
      clear hal hia hp2
      rcases l' with _ | ⟨c, r⟩
      · have d1 : ((((s.size - ([] : List UInt8).length : Nat) : Int)) != (s.size : Int)) = false := by simp
        generalize s.size - ([] : List UInt8).length = k at *
        go_wp2_with fail
        go_ret2
        exact ParsePost.yes HE.out HB2.out (IsA.same (Same.refl _ _) (fun k hk => Fresh.mono HS1.out hk) a v HIA.out)
      · have d1 : ((((s.size - (c :: r).length : Nat) : Int)) != (s.size : Int)) = true := by rw [bne_iff_ne]; simp only [List.length_cons] at hle ⊢; omega
        clear hle
        generalize s.size - (c :: r).length = k at *
        go_wp2_with fail
        go_ret2
        exact ParsePost.no HE.out HB2.out
end Go.Proofs.YthckgmbadmilfaaGreat

namespace Go.Proofs.YthckgmbadmilfaaGreat
open Go.RowKit Rx

/-- All blocks but those of X and those whose cells are of the types T are kept. -/
structure Fr (B : Nat) (T : TypeId → Bool) (X : Nat → Prop) (w w' : World) : Prop where
  os : w'.os = w.os
  tape : w'.tape = w.tape
  output : w'.output = w.output
  size : w.heap.size ≤ w'.heap.size
  block : ∀ k, k < w.heap.size → ¬ X k → (B ≤ k → ∀ C t fr, w.heap[k]? = some (.cells C t fr) → T t = false) → w'.heap[k]? = w.heap[k]?
section
variable {B : Nat} {T : TypeId → Bool} {X : Nat → Prop}
theorem Fr.refl {B : Nat} (w : World) : Fr B T X w w := ⟨rfl, rfl, rfl, Nat.le_refl _, fun _ _ _ _ => rfl⟩
theorem Fr.trans {B : Nat} {a b c : World} (h : Fr B T X a b) (k : Fr B T X b c) : Fr B T X a c :=
  ⟨k.os.trans h.os, k.tape.trans h.tape, k.output.trans h.output, Nat.le_trans h.size k.size, fun i hi hx ht => by
    have e := h.block i hi hx ht
    exact (k.block i (Nat.lt_of_lt_of_le hi h.size) hx (fun hB C t fr hc => ht hB C t fr (by rw [← e]; exact hc))).trans e⟩
theorem Fr.drew {B : Nat} {a w : World} (h : Fr B T X a w) : Fr B T X a w.drew := ⟨h.os, h.tape, h.output, h.size, h.block⟩
theorem Fr.drewN {B : Nat} {a w : World} (h : Fr B T X a w) (n : Nat) : Fr B T X a (w.drewN n) := ⟨h.os, h.tape, h.output, h.size, h.block⟩
theorem Fr.below {B : Nat} {a b : World} (h : Below a.heap.size a b) : Fr B T X a b := ⟨h.os, h.tape, h.output, h.size, fun k hk _ _ => h.block k hk⟩
theorem Fr.alloc {B : Nat} {a w : World} (h : Fr B T X a w) (o : Obj) : Fr B T X a (w.alloc o) := h.trans (Fr.below ((Below.refl _ _).alloc (Nat.le_refl _) o))
/-- A store into a block that may change. -/
theorem Fr.set {B : Nat} {a w : World} (h : Fr B T X a w) (b i : Nat) (v : Value) (hb : X b ∨ (B ≤ b ∧ ∃ C t, At w b C t ∧ T t = true) ∨ a.heap.size ≤ b) : Fr B T X a (w.setCell ⟨b, i, none⟩ v) := by
  refine ⟨h.os, h.tape, h.output, by simpa using h.size, fun k hk hx ht => ?_⟩
  have e := h.block k hk hx ht
  have hne : k ≠ b := by
    rintro rfl
    rcases hb with h1 | ⟨hB, C, t, h1, h2⟩ | h1
    · exact hx h1
    · have := ht hB C t (0, 0) (by rw [← e]; exact h1.out)
      rw [h2] at this; cases this
    · omega
  rw [Below.heap_setCell w ⟨b, i, none⟩ v k hne]; exact e
theorem Fr.grown {B : Nat} {a w w' : World} {row : Option Nat} (h : Fr B T X a w) (hg : w.grownBy w' row) (hr : ∀ b, row = some b → X b ∨ (B ≤ b ∧ ∃ C t fr, w.heap[b]? = some (.cells C t fr) ∧ T t = true) ∨ a.heap.size ≤ b) : Fr B T X a w' := by
  refine ⟨hg.os.trans h.os, hg.tape.trans h.tape, hg.output.trans h.output, Nat.le_trans h.size hg.size, fun k hk hx ht => ?_⟩
  have e := h.block k hk hx ht
  rw [hg.block k (Nat.lt_of_lt_of_le hk h.size) ?_]
  · exact e
  · intro e2
    rcases hr k e2.symm with h1 | ⟨hB, C, t, fr, h1, h2⟩ | h1
    · exact hx h1
    · have := ht hB C t fr (by rw [← e]; exact h1)
      rw [h2] at this; cases this
    · omega
theorem At.fr {B : Nat} {W W1 : World} {b : Nat} {c : Array Value} {t : TypeId} (h : At W b c t) (hf : Fr B T X W W1) (hx : ¬ X b) (ht : T t = false) : At W1 b c t :=
  ⟨by rw [hf.block b h.lt hx (fun _ C u fr hc => by rw [h.out] at hc; injection hc with hc; injection hc with _ hc; subst hc; exact ht)]; exact h.out⟩
theorem owns_fr {B : Nat} {W W1 : World} {e size n : Nat} {v : Value} {xs : List Value} (h : W.ownsRow 0 e size v n xs) (hf : Fr B T X W W1) (hx : ∀ g, v.ownBlock = some g → ¬ X g) (ht : T e = false) : W1.ownsRow 0 e size v n xs := by
  obtain ⟨h1, h2 | ⟨g, cap, cur, h3, h4, h5, h6⟩⟩ := h
  · exact ⟨h1, .inl h2⟩
  · refine ⟨h1, .inr ⟨g, cap, cur, h3, h4, ?_, h6⟩⟩
    rw [hf.block g ((Array.getElem?_eq_some_iff.1 h5).1) (hx g (by rw [h3]; rfl)) (fun _ C u fr hc => by rw [h5] at hc; injection hc with hc; injection hc with _ hc; subst hc; exact ht)]
    exact h5
end
/-- The block of a slice holds cells of its elements' type. -/
theorem owns_type {W : World} {e size n : Nat} {v : Value} {xs : List Value} (h : W.ownsRow 0 e size v n xs) {g : Nat} (hg : v.ownBlock = some g) : ∃ C, At W g C e := by
  obtain ⟨h1, ⟨rfl, _⟩ | ⟨g', cap, cur, h3, h4, h5, h6⟩⟩ := h
  · cases hg
  · rw [h3] at hg
    injection hg with hg
    subst hg
    exact ⟨cur, ⟨h5⟩⟩

def intV (n : Nat) : Value := .int .i64 n
/-- A slice of whole numbers. -/
def Ints (W : World) (v : Value) (qs : List Nat) : Prop := W.ownsRow 0 3 1 v qs.length (qs.map intV)
/-- A function value that tells whether a byte is accepted. -/
def IsFn (W : World) (v : Value) (f : UInt8 → Bool) : Prop :=
  (∃ b c, v = .func (.func 169) #[] #[ptr b] ∧ At W b #[.int .u8 (UInt8.toNat c)] 5 ∧ f = fun x => x == c) ∨
  (∃ b k, v = .func (.func 170) #[] #[ptr b] ∧ At W b #[ptr k] 118 ∧ At W k (btab f 256) 202)
/-- Its array is one of Z. -/
def Own (Z : Nat → Prop) (v : Value) : Prop := ∀ g, v.ownBlock = some g → Z g
def IsSt (Z : Nat → Prop) (W : World) : St → Value → Value → Prop
  | .rd f q, fv, nv => IsFn W fv f ∧ Ints W nv [q] ∧ Own Z nv
  | .ep qs, fv, nv => fv = .nilFunc ∧ Ints W nv qs ∧ Own Z nv
def IsM (Z : Nat → Prop) (W : World) : List St → List Value → Prop
  | [], xs => xs = []
  | s :: l, xs => ∃ fv nv ys, xs = fv :: nv :: ys ∧ IsSt Z W s fv nv ∧ IsM Z W l ys
/-- The machine in block m; the arrays of its states' next ones are of Z. -/
def Mach (B : Nat) (Z : Nat → Prop) (m : Nat) (st : Int) (M : List St) (W : World) : Prop := ∃ sv xs, At W m #[sv, .int .i64 st] 166 ∧ W.ownsRow 0 173 2 sv M.length xs ∧ IsM Z W M xs ∧ B ≤ m ∧ ∀ g, sv.ownBlock = some g → B ≤ g
theorem IsSt.mono {Z Z' : Nat → Prop} (hz : ∀ k, Z k → Z' k) {W : World} {s : St} {fv nv : Value} (h : IsSt Z W s fv nv) : IsSt Z' W s fv nv := by
  rcases s with ⟨f, q⟩ | qs
  · exact ⟨h.1, h.2.1, fun g hg => hz g (h.2.2 g hg)⟩
  · exact ⟨h.1, h.2.1, fun g hg => hz g (h.2.2 g hg)⟩
theorem IsM.mono {Z Z' : Nat → Prop} (hz : ∀ k, Z k → Z' k) {W : World} : ∀ (M : List St) (xs : List Value), IsM Z W M xs → IsM Z' W M xs
  | [], _, h => h
  | _ :: M, _, ⟨fv, nv, ys, e, h1, h2⟩ => ⟨fv, nv, ys, e, h1.mono hz, IsM.mono hz M ys h2⟩
theorem Mach.mono {B : Nat} {Z Z' : Nat → Prop} (hz : ∀ k, Z k → Z' k) {m : Nat} {st : Int} {M : List St} {W : World} (h : Mach B Z m st M W) : Mach B Z' m st M W := by
  obtain ⟨sv, xs, h1, h2, h3, h4⟩ := h
  exact ⟨sv, xs, h1, h2, h3.mono hz, h4⟩

/-- What add and put change. -/
def TM (t : TypeId) : Bool := t == 173 || t == 166
def FrM (B : Nat) (w w' : World) : Prop := Fr B TM (fun _ => False) w w'
theorem Ints.fr {B : Nat} {T : TypeId → Bool} {W W1 : World} {v : Value} {qs : List Nat} (h : Ints W v qs) (hf : Fr B T (fun _ => False) W W1) (ht : T 3 = false) : Ints W1 v qs := owns_fr h hf (fun _ _ h => h) ht
theorem IsFn.fr {B : Nat} {T : TypeId → Bool} {X : Nat → Prop} {W W1 : World} {v : Value} {f : UInt8 → Bool} (h : IsFn W v f) (hf : Fr B T X W W1) (h1 : T 5 = false) (h2 : T 118 = false) (h3 : T 202 = false)
    (hx : ∀ b C t, At W b C t → (t = 5 ∨ t = 118 ∨ t = 202) → ¬ X b) : IsFn W1 v f := by
  rcases h with ⟨b, c, e, ha, hf'⟩ | ⟨b, k, e, ha, hb⟩
  · exact .inl ⟨b, c, e, ha.fr hf (hx _ _ _ ha (.inl rfl)) h1, hf'⟩
  · exact .inr ⟨b, k, e, ha.fr hf (hx _ _ _ ha (.inr (.inl rfl))) h2, hb.fr hf (hx _ _ _ hb (.inr (.inr rfl))) h3⟩
theorem IsSt.frM {B : Nat} {Z : Nat → Prop} {W W1 : World} {s : St} {fv nv : Value} (h : IsSt Z W s fv nv) (hf : FrM B W W1) : IsSt Z W1 s fv nv := by
  rcases s with ⟨f, q⟩ | qs
  · exact ⟨h.1.fr hf rfl rfl rfl (fun _ _ _ _ _ h => h), h.2.1.fr hf rfl, h.2.2⟩
  · exact ⟨h.1, h.2.1.fr hf rfl, h.2.2⟩
theorem IsM.frM {B : Nat} {Z : Nat → Prop} {W W1 : World} (hf : FrM B W W1) : ∀ (M : List St) (xs : List Value), IsM Z W M xs → IsM Z W1 M xs
  | [], _, h => h
  | _ :: M, _, ⟨fv, nv, ys, e, h1, h2⟩ => ⟨fv, nv, ys, e, h1.frM hf, IsM.frM hf M ys h2⟩
theorem IsM.snoc {Z : Nat → Prop} {W : World} {s : St} {fv nv : Value} (h : IsSt Z W s fv nv) : ∀ (M : List St) (xs : List Value), IsM Z W M xs → IsM Z W (M ++ [s]) (xs ++ [fv, nv])
  | [], _, h2 => by subst h2; exact ⟨fv, nv, [], rfl, h, rfl⟩
  | _ :: M, _, ⟨a, b, ys, e, h1, h2⟩ => by subst e; exact ⟨a, b, ys ++ [fv, nv], rfl, h1, IsM.snoc h M ys h2⟩

theorem info_state : (Tryz.prog.info? 173).map (fun i => (i.zero, i.size, i.bytes)) = some (some (.agg #[.nilFunc, .slice none 0 0]), 2, 32) := by kernel_rfl

/-- What a function value is in a state. -/
theorem IsSt.shape {Z : Nat → Prop} {W : World} {s : St} {fv nv : Value} (h : IsSt Z W s fv nv) : ∃ a n c, nv = .slice a n c ∧ (fv = .nilFunc ∨ ∃ k b, fv = .func (.func k) #[] #[b]) := by
  rcases s with ⟨f, q⟩ | qs
  · obtain ⟨a, n, c, e⟩ := owns_slice h.2.1
    refine ⟨a, n, c, e, .inr ?_⟩
    rcases h.1 with ⟨b, c, e, _⟩ | ⟨b, k, e, _⟩
    · exact ⟨_, _, e⟩
    · exact ⟨_, _, e⟩
  · obtain ⟨a, n, c, e⟩ := owns_slice h.2.1
    exact ⟨a, n, c, e, .inl h.1⟩
/-- A row of one type lies in no block of another. -/
theorem owns_ne {W : World} {e size n : Nat} {v : Value} {xs : List Value} (h : W.ownsRow 0 e size v n xs) {m : Nat} {c : Array Value} {t : TypeId} (hm : At W m c t) (ht : e ≠ t) : v.ownBlock ≠ some m := fun e => by
  obtain ⟨C, hC⟩ := owns_type h e
  have h1 := hC.out
  rw [hm.out] at h1
  injection h1 with h1
  injection h1 with _ h1
  exact ht h1.symm
theorem mach_put {B : Nat} {Z : Nat → Prop} {m : Nat} {st : Int} {M : List St} {s : St} {fv nv sv sv' : Value} {xs : List Value} {W w1 w2 : World} {o : Obj} (hism : IsM Z W M xs) (hs : IsSt Z W s fv nv) (hb1 : Below W.heap.size W w1) (hown : W.ownsRow 0 173 2 sv M.length xs) (hBm : B ≤ m) (hBg : ∀ g, sv.ownBlock = some g → B ≤ g) (hBs : B ≤ W.heap.size) (hwh : sv'.ownBlock = sv.ownBlock ∨ sv'.ownBlock = some (w1.heap.size + 1))
    (hat : At w2 m #[sv, .int .i64 st] 166) (hown2 : w2.ownsRow 0 173 2 sv' (M.length + 1) (xs ++ [fv, nv])) (hg : ((w1.alloc o).drew).grownBy w2 sv.ownBlock) :
    Mach B Z m st (M ++ [s]) (w2.setCell ⟨m, 0, none⟩ sv') ∧ FrM B W (w2.setCell ⟨m, 0, none⟩ sv') := by
  have hb2 : Below W.heap.size W (w1.alloc o).drew := (hb1.alloc hb1.size o).drew
  have hf2 : FrM B W w2 := by
    refine Fr.grown (w := (w1.alloc o).drew) (Fr.below hb2) hg fun b hb => ?_
    obtain ⟨C, hC⟩ := owns_type hown hb
    exact .inr (.inl ⟨hBg b hb, C, 173, (0, 0), by rw [hb2.block b hC.lt]; exact hC.out, rfl⟩)
  have hf3 : FrM B W (w2.setCell ⟨m, 0, none⟩ sv') := hf2.set m 0 sv' (.inr (.inl ⟨hBm, _, _, hat, rfl⟩))
  refine ⟨⟨sv', xs ++ [fv, nv], hat.set 0 sv', ?_, IsM.snoc (hs.frM hf3) M xs (hism.frM hf3), hBm, fun g hg' => ?_⟩, hf3⟩
  · rw [List.length_append]
    exact owns_same (S := fun k => k ≠ m) hown2 (fun g hg' e => owns_ne hown2 hat (by decide) (by rw [hg', e])) (fun k hk => Below.heap_setCell w2 ⟨m, 0, none⟩ sv' k hk)
  · rcases hwh with e | e
    · exact hBg g (by rw [← e]; exact hg')
    · rw [e] at hg'
      injection hg' with hg'
      have := hb1.size
      omega
set_option maxRecDepth 100000 in
set_option maxHeartbeats 1000000 in
theorem put_any6 {B : Nat} (Z : Nat → Prop) (m : Nat) (st : Int) (M : List St) (s : St) (fv nv : Value) (W : World) (hM : M.length ≤ 10000) (h : Mach B Z m st M W) (hs : IsSt Z W s fv nv) :
    Calls Tryz.prog 160 #[ptr m, .agg #[fv, nv]] W fun e w' => e = .returned (.int .i64 M.length) ∧ Mach B Z m st (M ++ [s]) w' ∧ FrM B W w' := by
  obtain ⟨i0, hi, hz0, hz1, hz2⟩ := info_parts info_state
  have HI := Lib.hid hi
  have HZ0 := Lib.hid hz0
  have HZ1 := Lib.hid hz1
  have HZ2 := Lib.hid hz2
  clear hi hz0 hz1 hz2
  obtain ⟨sv, xs, hat, hown, hism, hBm, hBg⟩ := h
  obtain ⟨sa, sn, sc, rfl⟩ := owns_slice hown
  have c0 : W.cell? ⟨m, 0, none⟩ = some (.slice sa sn sc) := hat.cell 0
  have c1 := hat.free 0
  obtain ⟨na, nn, nc, rfl, hfv⟩ := hs.shape
  have hlt := hat.lt
  have HBM := Lib.hid hBm
  have HBG := Lib.hid hBg
  have HBS : Hid (B ≤ W.heap.size) := Lib.hid (by omega)
  clear hBm hBg
  have HNE : Hid ((Value.slice sa sn sc).ownBlock ≠ some m) := Lib.hid fun e => by
    obtain ⟨C, hC⟩ := owns_type hown e
    have h1 := hC.out
    rw [hat.out] at h1
    injection h1 with h1
    injection h1 with _ h1
    exact absurd h1 (by decide)
  rcases hfv with rfl | ⟨fk, fb, rfl⟩
  · unfold ptr
    go_enter Tryz.func160, Tryz.ntmps160
    go_wp2_with fail
    have hat1 := hat.alloc (.cells #[.nilFunc, .slice na nn nc] 173)
    have hown1 := hown.alloc (.cells #[.nilFunc, .slice na nn nc] 173)
    have hbox := At.new W #[.nilFunc, .slice na nn nc] 173
    have hf1 : Below W.heap.size W (W.alloc (.cells #[.nilFunc, .slice na nn nc] 173)) := (Below.refl _ _).alloc (Nat.le_refl _) _
    generalize (W.alloc (.cells #[.nilFunc, .slice na nn nc] 173)) = w1 at *
    have HF1 := Lib.hid hf1
    clear hf1 c0 c1
    have d0 : w1.cell? ⟨m, 0, none⟩ = some (.slice sa sn sc) := hat1.cell 0
    have d1 := hat1.free 0
    have b0 : w1.cell? ⟨W.heap.size, 0, none⟩ = some .nilFunc := hbox.cell 0
    have b1 : w1.cell? ⟨W.heap.size, 1, none⟩ = some (.slice na nn nc) := hbox.cell 1
    have d2 : (w1.alloc (.cells #[.nilFunc, .slice na nn nc] 173)).cell? ⟨m, 0, none⟩ = some (.slice sa sn sc) := (hat1.alloc _).cell 0
    go_region_law (refine step_append_lies _ (by rfl) _ _ _ (by rfl) 0 173 i0 _ 2 32 Tryz.underlying164 HI.out HZ0.out HZ1.out HZ2.out rfl (by omega) (.slice sa sn sc) M.length xs (by rfl) (by first | exact hown1.alloc _ | exact (hown1.alloc _).drew) ⟨w1.heap.size, 0, none⟩ 1 1 [.nilFunc, .slice na nn nc] (by rfl) (by rfl) (World.news_of_block (cs := #[.nilFunc, .slice na nn nc]) (t := 173) (fr := (0, 0)) (heap_alloc_new _ _)) (by simp [Value.oneCell']) (by omega) (by unfold maxLen; omega) (by omega) (by simp) (w1.heap.size + 1) (by simp) ?_; intro g cap w2 hown2 hgrow2 hwh hg2; have HA2 := Lib.hid (((hat1.alloc _).drew).grown hgrow2 HNE.out); have e0 : w2.cell? ⟨m, 0, none⟩ = some (.slice sa sn sc) := HA2.out.cell 0; have e1 := HA2.out.free 0; have HOWN2 := Lib.hid hown2; have HG2 := Lib.hid hgrow2; have HWH := Lib.hid hwh; clear hown2 hgrow2 hwh hg2)
    all_goals
      have HM := Lib.hid (mach_put (st := st) (w1 := w1) hism hs HF1.out hown HBM.out HBG.out HBS.out (by rcases HWH.out with h | h; (exact .inl h.symm); (exact .inr (by rw [h]; rfl))) HA2.out HOWN2.out HG2.out)
      (try go_wp2_with fail)
      go_ret
      exact ⟨ret_int (by omega), HM.out⟩
  · unfold ptr
    go_enter Tryz.func160, Tryz.ntmps160
    go_wp2_with fail
    have hat1 := hat.alloc (.cells #[.func (.func fk) #[] #[fb], .slice na nn nc] 173)
    have hown1 := hown.alloc (.cells #[.func (.func fk) #[] #[fb], .slice na nn nc] 173)
    have hbox := At.new W #[.func (.func fk) #[] #[fb], .slice na nn nc] 173
    have hf1 : Below W.heap.size W (W.alloc (.cells #[.func (.func fk) #[] #[fb], .slice na nn nc] 173)) := (Below.refl _ _).alloc (Nat.le_refl _) _
    generalize (W.alloc (.cells #[.func (.func fk) #[] #[fb], .slice na nn nc] 173)) = w1 at *
    have HF1 := Lib.hid hf1
    clear hf1 c0 c1
    have d0 : w1.cell? ⟨m, 0, none⟩ = some (.slice sa sn sc) := hat1.cell 0
    have d1 := hat1.free 0
    have b0 : w1.cell? ⟨W.heap.size, 0, none⟩ = some (.func (.func fk) #[] #[fb]) := hbox.cell 0
    have b1 : w1.cell? ⟨W.heap.size, 1, none⟩ = some (.slice na nn nc) := hbox.cell 1
    have d2 : (w1.alloc (.cells #[.func (.func fk) #[] #[fb], .slice na nn nc] 173)).cell? ⟨m, 0, none⟩ = some (.slice sa sn sc) := (hat1.alloc _).cell 0
    go_region_law (refine step_append_lies _ (by rfl) _ _ _ (by rfl) 0 173 i0 _ 2 32 Tryz.underlying164 HI.out HZ0.out HZ1.out HZ2.out rfl (by omega) (.slice sa sn sc) M.length xs (by rfl) (by first | exact hown1.alloc _ | exact (hown1.alloc _).drew) ⟨w1.heap.size, 0, none⟩ 1 1 [.func (.func fk) #[] #[fb], .slice na nn nc] (by rfl) (by rfl) (World.news_of_block (cs := #[.func (.func fk) #[] #[fb], .slice na nn nc]) (t := 173) (fr := (0, 0)) (heap_alloc_new _ _)) (by simp [Value.oneCell']) (by omega) (by unfold maxLen; omega) (by omega) (by simp) (w1.heap.size + 1) (by simp) ?_; intro g cap w2 hown2 hgrow2 hwh hg2; have HA2 := Lib.hid (((hat1.alloc _).drew).grown hgrow2 HNE.out); have e0 : w2.cell? ⟨m, 0, none⟩ = some (.slice sa sn sc) := HA2.out.cell 0; have e1 := HA2.out.free 0; have HOWN2 := Lib.hid hown2; have HG2 := Lib.hid hgrow2; have HWH := Lib.hid hwh; clear hown2 hgrow2 hwh hg2)
    all_goals
      have HM := Lib.hid (mach_put (st := st) (w1 := w1) hism hs HF1.out hown HBM.out HBG.out HBS.out (by rcases HWH.out with h | h; (exact .inl h.symm); (exact .inr (by rw [h]; rfl))) HA2.out HOWN2.out HG2.out)
      (try go_wp2_with fail)
      go_ret
      exact ⟨ret_int (by omega), HM.out⟩
end Go.Proofs.YthckgmbadmilfaaGreat
