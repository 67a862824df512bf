/- The machine's walks: add at sequences and alternatives. The machine's walks: add at alternatives, add at every tree, build. The machine's walks: build. -/
import Derived.Test.YthckgmbadmilfaaGreatMAP
namespace Go.Proofs.YthckgmbadmilfaaGreat
open Go.RowKit Rx

def lenS : Ss → Nat
  | .nil => 0
  | .cons _ s => lenS s + 1
def dropS : Nat → Ss → Ss
  | 0, s => s
  | _ + 1, .nil => .nil
  | k + 1, .cons _ s => dropS k s
/-- All factors of a sequence. -/
def AllS (P : U → Prop) : Ss → Prop
  | .nil => True
  | .cons u s => P u ∧ AllS P s
theorem dropS_len : ∀ s, dropS (lenS s) s = .nil
  | .nil => rfl
  | .cons _ s => dropS_len s
theorem isSl_len {S : Nat → Prop} {W : World} : ∀ (s : Ss) (xs : List Value), IsSl S W s xs → xs.length = lenS s
  | .nil, xs, h => by unfold IsSl at h; subst h; rfl
  | .cons u s, xs, h => by
    unfold IsSl at h
    obtain ⟨x, ys, rfl, _, h2⟩ := h
    have := isSl_len s ys h2
    simp [lenS, this]
theorem isSl_at {S : Nat → Prop} {W : World} {P : U → Prop} : ∀ (s : Ss) (xs : List Value), IsSl S W s xs → AllS P s → ∀ j, j < lenS s → ∃ u x, dropS j s = .cons u (dropS (j + 1) s) ∧ xs[j]? = some x ∧ IsU S W u x ∧ P u
  | .nil, xs, h, _, j, hj => by simp [lenS] at hj
  | .cons u s, xs, h, ha, j, hj => by
    unfold IsSl at h
    obtain ⟨x, ys, rfl, h1, h2⟩ := h
    rcases j with _ | j
    · exact ⟨u, x, rfl, rfl, h1, ha.1⟩
    · obtain ⟨u', x', h3, h4, h5, h6⟩ := isSl_at s ys h2 ha.2 j (by simp only [lenS] at hj; omega)
      exact ⟨u', x', h3, h4, h5, h6⟩
theorem dropS_sz : ∀ (k : Nat) (s : Ss), szS (dropS k s) ≤ szS s
  | 0, s => Nat.le_refl _
  | _ + 1, .nil => Nat.le_refl _
  | k + 1, .cons u s => by simp only [dropS, szS]; have := dropS_sz k s; omega
theorem Fresh.next {Z : Nat → Prop} {W w1 w2 : World} {g : Nat} (h : (Z g ∨ Fresh W w1 g) ∨ Fresh w1 w2 g) (h1 : W.heap.size ≤ w1.heap.size) (h2 : w1.heap.size ≤ w2.heap.size) : Z g ∨ Fresh W w2 g := by
  rcases h with (h | h) | h
  · exact .inl h
  · exact .inr ⟨h.1, Nat.lt_of_lt_of_le h.2 h2⟩
  · exact .inr ⟨Nat.le_trans h1 h.1, h.2⟩
/-- add does what is told at the node of this sequence. -/
def SeqAdd (s : Ss) : Prop := ∀ (B : Nat) (S Z : Nat → Prop) (W : World) (m : Nat) (st : Int) (M : List St) (v : Value) (q : Nat), Mach B Z m st M W → Node S W 1 v (fun xs => IsSl S W s xs) → M.length + szS s ≤ 9000 → q ≤ 9000 → Calls Tryz.prog 145 #[ptr m, v, .int .i64 q] W (AddPost B Z m st W (addS s M q))

set_option maxRecDepth 100000 in
set_option maxHeartbeats 1000000 in
theorem seq_add (s : Ss) (hS : AllS AddOK s) : SeqAdd s := by
  intro B S Z W m st M v q hm hu hsz hq
  obtain ⟨b, sv, xs, _, rfl, hat, hpa, hsl⟩ := hu
  have hlen := isSl_len s xs hsl
  obtain ⟨sa, sn, sc, rfl⟩ := owns_slice hpa.1
  have hsn : sn = xs.length := by
    rcases hpa.1.2 with ⟨e, h0⟩ | ⟨g, cap, cur, e, _⟩
    · injection e with _ e _; omega
    · injection e with _ e _
  subst hsn
  have c0 : W.cell? ⟨b, 0, none⟩ = some (.int .i64 1) := hat.cell 0
  have c4 : W.cell? ⟨b, 4, none⟩ = some (.slice sa xs.length sc) := hat.cell 4
  have HM := Lib.hid hm
  have HAT := Lib.hid hat
  have HPA := Lib.hid hpa
  have HSL := Lib.hid hsl
  have HLEN := Lib.hid hlen
  have HS := Lib.hid hS
  have hxl : xs.length ≤ 9000 := by
    have h1 : lenS s ≤ szS s := by
      clear hsz hsl hlen HSL HLEN HS hS
      induction s using Ss.rec (motive_1 := fun _ => True) (motive_3 := fun _ => True) with
      | nil => exact Nat.le_refl _
      | cons u s _ ih => have := szU_byte_pos u; simp only [lenS, szS]; omega
      | _ => trivial
    omega
  clear hm hat hpa hsl hlen hS
  unfold ptr at *
  go_enter Tryz.func145, Tryz.ntmps145
  go_wp2_with fail
  go_loopw [2, 7] (fun nx i wr => ∃ k : Nat, k ≤ xs.length ∧ i = .int .i64 ((k : Int) - 1) ∧ nx = .int .i64 (addS (dropS k s) M q).1 ∧ Mach B (fun g => Z g ∨ Fresh W wr g) m st (addS (dropS k s) M q).2 wr ∧ FrM B W wr) (fun _ i _ => (intOf i + 1).toNat)
  case atStart =>
    refine ⟨xs.length, Nat.le_refl _, rfl, ?_, ?_, Fr.refl _⟩
    · rw [HLEN.out, dropS_len]; simp [addS]
    · rw [HLEN.out, dropS_len]; simp only [addS]; exact HM.out.mono fun _ => .inl
  case round =>
    obtain ⟨k, hk, rfl, rfl, hmk, hfk⟩ := hrel
    have HMK := Lib.hid hmk
    have HFK := Lib.hid hfk
    clear hmk hfk
    rcases k with _ | j
    · have e0 : dropS 0 s = s := rfl
      rw [e0] at HMK ⊢
      clear e0
      go_wp2_with fail
      go_ret
      exact ⟨rfl, HMK.out, HFK.out⟩
    · have hj : j < lenS s := by rw [← HLEN.out]; omega
      obtain ⟨u, x, h1, h2, h3, h4⟩ := isSl_at s xs HSL.out HS.out j hj
      obtain ⟨vb, rfl⟩ := IsU.ptr u x h3
      have hsa : ∃ g, sa = some ⟨g, 0, none⟩ := by
        rcases HPA.out.1.2 with ⟨e, h0⟩ | ⟨g, cap, cur, e, _⟩
        · omega
        · injection e with e _ _; exact ⟨g, e⟩
      obtain ⟨g, rfl⟩ := hsa
      have hat := HAT.out.fr HFK.out (fun h => h) rfl
      have hpa := HPA.out.fr HFK.out rfl
      have d4 : wr.cell? ⟨b, 4, none⟩ = some (.slice (some ⟨g, 0, none⟩) xs.length sc) := hat.cell 4
      have d5 : wr.cell? ⟨g, j, none⟩ = some (.pointer (some ⟨vb, 0, none⟩)) := owns_cell hpa.1 rfl h2
      have hlen := addS_len (dropS (j + 1) s) M q
      have hat1 := addS_at (dropS (j + 1) s) M q
      have hsz1 := dropS_sz (j + 1) s
      have hsz2 := dropS_sz j s
      rw [h1] at hsz2
      simp only [szS] at hsz2
      have HU := Lib.hid (h4 B S (fun g => Z g ∨ Fresh W wr g) wr m st (addS (dropS (j + 1) s) M q).2 _ (addS (dropS (j + 1) s) M q).1 HMK.out (IsU.fr HFK.out rfl rfl rfl u _ h3) (by omega) (by omega))
      have HD : Hid (addU u (addS (dropS (j + 1) s) M q).2 (addS (dropS (j + 1) s) M q).1 = addS (dropS j s) M q) := Lib.hid (by rw [h1]; simp only [addS])
      have hi : ((j + 1 : Nat) : Int) - 1 = (j : Int) := by omega
      rw [hi]
      have hjl : (j : Int) < (xs.length : Int) := by omega
      clear hat hpa hlen hat1 hsz1 hsz2 h1 h2 h3 h4 hi
      unfold ptr at *
      go_wp2_with fail
      refine (HU.out).mono ?_
      rw [HD.out]
      rintro e w2 ⟨rfl, hm2, hf2⟩
      have HM2 := Lib.hid hm2
      have HF2 := Lib.hid hf2
      clear hm2 hf2
      go_wp2_with fail
      go_roundw
      case rel => exact ⟨j, by omega, by go_num, rfl, HM2.out.mono (fun g hg => Fresh.next hg HFK.out.size HF2.out.size), HFK.out.trans HF2.out⟩
      case measure => first | (simp [intOf]; done) | (simp [intOf]; omega)
end Go.Proofs.YthckgmbadmilfaaGreat

namespace Go.Proofs.YthckgmbadmilfaaGreat
open Go.RowKit Rx

def toL : As → List Ss
  | .one s => [s]
  | .more s a => s :: toL a
/-- The states of sequences one after the other. -/
def addLs (q : Nat) : List Ss → List St → List Nat × List St
  | [], M => ([], M)
  | s :: l, M => ((addS s M q).1 :: (addLs q l (addS s M q).2).1, (addLs q l (addS s M q).2).2)
theorem addL_eq (q : Nat) : ∀ (a : As) (M : List St), addL a M q = addLs q (toL a) M
  | .one s, M => by simp [addL, toL, addLs]
  | .more s a, M => by simp only [addL, toL, addLs, addL_eq q a]
theorem addLs_snoc (q : Nat) (s : Ss) : ∀ (l : List Ss) (M : List St), addLs q (l ++ [s]) M = ((addLs q l M).1 ++ [(addS s (addLs q l M).2 q).1], (addS s (addLs q l M).2 q).2)
  | [], M => by simp [addLs]
  | s' :: l, M => by simp only [List.cons_append, addLs, addLs_snoc q s l]
def szL : List Ss → Nat
  | [] => 0
  | s :: l => szS s + szL l
theorem szA_eq : ∀ a, szL (toL a) + (toL a).length = szA a + 1
  | .one s => by simp [szA, toL, szL]
  | .more s a => by have := szA_eq a; simp only [szA, toL, szL, List.length_cons]; omega
theorem addLs_len (q : Nat) : ∀ (l : List Ss) (M : List St), M.length ≤ (addLs q l M).2.length ∧ (addLs q l M).2.length ≤ M.length + szL l
  | [], M => by simp [addLs, szL]
  | s :: l, M => by
    have h1 := addS_len s M q
    have h2 := addLs_len q l (addS s M q).2
    simp only [addLs, szL]; omega
theorem addLs_count (q : Nat) : ∀ (l : List Ss) (M : List St), (addLs q l M).1.length = l.length
  | [], M => rfl
  | s :: l, M => by simp only [addLs, List.length_cons, addLs_count q l]
theorem szL_take (l : List Ss) (k : Nat) (s : Ss) (h : l[k]? = some s) : szL (l.take k) + szS s ≤ szL l := by
  induction l generalizing k with
  | nil => simp at h
  | cons a l ih =>
    rcases k with _ | k
    · simp at h; subst h; simp [szL]
    · simp only [List.getElem?_cons_succ] at h
      have := ih k h
      simp only [List.take_succ_cons, szL]; omega
theorem NsQ.fr {B : Nat} {T : TypeId → Bool} {W W' : World} {S : Nat → Prop} (hf : Fr B T (fun _ => False) W W') (ht : T 121 = false) (hp : T 115 = false) (hc : T 202 = false) : ∀ (l : List Ss) (xs : List Value), NsQ l S W xs → NsQ l S W' xs
  | [], _, h => h
  | _ :: l, _, ⟨x, ys, e, h1, h2⟩ => ⟨x, ys, e, h1.fr hf ht hp fun zs hz => IsSl.fr hf ht hp hc _ zs hz, NsQ.fr hf ht hp hc l ys h2⟩
theorem NsQ.len {W : World} {S : Nat → Prop} : ∀ (l : List Ss) (xs : List Value), NsQ l S W xs → xs.length = l.length
  | [], xs, h => by unfold NsQ at h; subst h; rfl
  | _ :: l, _, ⟨x, ys, e, _, h2⟩ => by subst e; simp [NsQ.len l ys h2]
theorem NsQ.get {W : World} {S : Nat → Prop} : ∀ (l : List Ss) (xs : List Value), NsQ l S W xs → ∀ k, k < l.length → ∃ d x, l[k]? = some d ∧ xs[k]? = some x ∧ Node S W 1 x fun zs => IsSl S W d zs
  | [], _, _, k, hk => by simp at hk
  | d :: l, _, ⟨x, ys, e, h1, h2⟩, k, hk => by
    subst e
    rcases k with _ | k
    · exact ⟨d, x, rfl, rfl, h1⟩
    · exact NsQ.get l ys h2 k (by simpa using hk)
theorem IsAl.ns {W : World} {S : Nat → Prop} : ∀ (a : As) (xs : List Value), IsAl S W a xs → NsQ (toL a) S W xs
  | .one s, xs, h => by
    unfold IsAl at h
    obtain ⟨x, e, h1⟩ := h
    exact ⟨x, [], e, h1, rfl⟩
  | .more s a, xs, h => by
    unfold IsAl at h
    obtain ⟨x, ys, e, h1, h2⟩ := h
    exact ⟨x, ys, e, h1, IsAl.ns a ys h2⟩

theorem len_small9 {n : Nat} (h : n ≤ 9000) : n + 1 ≤ maxLen := by unfold maxLen; omega
theorem len_bytes9 {n : Nat} (h : n ≤ 9000) : (n + 1) * 8 ≤ 140737488355328 := by omega
theorem info_int : (Tryz.prog.info? 3).map (fun i => (i.zero, i.size, i.bytes)) = some (some (.int .i64 0), 1, 8) := by kernel_rfl
theorem one_int (n : Int) : ∀ u ∈ [Value.int .i64 n], u.oneCell' = true := by
  intro u hu
  rw [List.mem_singleton] at hu
  subst hu; rfl
/-- A machine and a slice of whole numbers that is none of its own: the slice grows. -/
theorem Mach.other {B : Nat} {Z : Nat → Prop} {m : Nat} {st : Int} {M : List St} {W W' : World} (h : Mach B Z m st M W) (X : Nat → Prop) (hf : Fr 0 (fun _ => false) X W W') (hx : ∀ b C t, X b → At W b C t → t = 3) (hz : ∀ b, X b → ¬ Z b) : Mach B Z m st M W' := by
  obtain ⟨sv, xs, h1, h2, h3, h4⟩ := h
  refine ⟨sv, xs, h1.fr hf (fun h => absurd (hx _ _ _ h h1) (by decide)) rfl, owns_fr h2 hf (fun g hg hX => ?_) rfl, ?_, h4⟩
  · obtain ⟨C, hC⟩ := owns_type h2 hg
    exact absurd (hx _ _ _ hX hC) (by decide)
  · have hs : ∀ s fv nv, IsSt Z W s fv nv → IsSt Z W' s fv nv := fun s fv nv hh => by
      have hfn : ∀ v f, IsFn W v f → IsFn W' v f := fun v f hv => hv.fr hf rfl rfl rfl (fun b C t ha ht hX => by
        have := hx _ _ _ hX ha
        subst this
        rcases ht with e | e | e <;> exact absurd e (by decide))
      have hin : ∀ v qs, Ints W v qs → Own Z v → Ints W' v qs := fun v qs hv ho => owns_fr hv hf (fun g hg hX => hz g hX (ho g hg)) rfl
      rcases s with ⟨f, q⟩ | qs
      · exact ⟨hfn _ _ hh.1, hin _ _ hh.2.1 hh.2.2, hh.2.2⟩
      · exact ⟨hh.1, hin _ _ hh.2.1 hh.2.2, hh.2.2⟩
    have : ∀ (M : List St) (xs : List Value), IsM Z W M xs → IsM Z W' M xs := by
      intro M
      induction M with
      | nil => exact fun _ h => h
      | cons s M ih => exact fun _ ⟨fv, nv, ys, e, h1, h2⟩ => ⟨fv, nv, ys, e, hs _ _ _ h1, ih _ h2⟩
    exact this M xs h3
/-- What the loop over the alternatives has gathered. -/
structure AlIn (B : Nat) (Z : Nat → Prop) (W : World) (m : Nat) (st : Int) (fv : Value) (fs : List Nat) (M : List St) (wr : World) : Prop where
  ints : Ints wr fv fs
  row : ∀ g, fv.ownBlock = some g → Fresh W wr g
  mach : Mach B (fun g => (Z g ∨ Fresh W wr g) ∧ fv.ownBlock ≠ some g) m st M wr
  fr : FrM B W wr
theorem AlIn.add {B : Nat} {Z : Nat → Prop} {W wr w2 : World} {m : Nat} {st : Int} {fv : Value} {fs : List Nat} {M M' : List St} (h : AlIn B Z W m st fv fs M wr) (hm : Mach B (fun g => ((Z g ∨ Fresh W wr g) ∧ fv.ownBlock ≠ some g) ∨ Fresh wr w2 g) m st M' w2) (hf : FrM B wr w2) : AlIn B Z W m st fv fs M' w2 := by
  refine ⟨h.ints.fr hf rfl, fun g hg => ⟨(h.row g hg).1, Nat.lt_of_lt_of_le (h.row g hg).2 hf.size⟩, hm.mono fun g hg => ?_, h.fr.trans hf⟩
  rcases hg with ⟨h1, h2⟩ | h1
  · refine ⟨?_, h2⟩
    rcases h1 with h1 | h1
    · exact .inl h1
    · exact .inr ⟨h1.1, Nat.lt_of_lt_of_le h1.2 hf.size⟩
  · refine ⟨.inr ⟨Nat.le_trans h.fr.size h1.1, h1.2⟩, fun e => ?_⟩
    have := (h.row g e).2
    have := h1.1
    omega
theorem AlIn.push {B : Nat} {Z : Nat → Prop} {W w2 w3 : World} {m : Nat} {st : Int} {fv fv' : Value} {fs : List Nat} {M : List St} {r n : Nat} (h : AlIn B Z W m st fv fs M w2) (hz : ∀ g, Z g → g < W.heap.size)
    (hown : w3.ownsRow 0 3 1 fv' n (fs.map intV ++ [.int .i64 r])) (hn : n = fs.length + 1) (hg : (w2.alloc (.cells #[.int .i64 r] 3)).grownBy w3 fv.ownBlock) (hw : fv'.ownBlock = fv.ownBlock ∨ fv'.ownBlock = some (w2.alloc (.cells #[.int .i64 r] 3)).heap.size) : AlIn B Z W m st fv' (fs ++ [r]) M w3 := by
  have hsz : w2.heap.size + 1 ≤ w3.heap.size := by have := hg.size; rw [alloc_size] at this; exact this
  have hb2 : Below w2.heap.size w2 (w2.alloc (.cells #[.int .i64 r] 3)) := (Below.refl _ _).alloc (Nat.le_refl _) _
  have hf : Fr 0 (fun _ => false) (fun g => fv.ownBlock = some g) w2 w3 := (Fr.below hb2).grown hg fun b hb => .inl hb
  have hrow' : ∀ g, fv'.ownBlock = some g → Fresh W w3 g ∧ (fv.ownBlock = some g ∨ w2.heap.size < g) := fun g hg' => by
    have hlt := hown.lt g hg'
    rcases hw with e | e
    · rw [e] at hg'
      exact ⟨⟨(h.row g hg').1, hlt.2⟩, .inl hg'⟩
    · rw [e] at hg'
      injection hg' with hg'
      rw [alloc_size] at hg'
      have := h.fr.size
      exact ⟨⟨by omega, hlt.2⟩, .inr (by omega)⟩
  refine ⟨?_, fun g hg' => (hrow' g hg').1, ?_, ?_⟩
  · unfold Ints
    rw [List.map_append, List.length_append]
    subst hn
    exact hown
  · have hm := h.mach.other _ hf (fun b C t hX ha => by
      obtain ⟨C', hC'⟩ := owns_type h.ints hX
      have h1 := hC'.out
      rw [ha.out] at h1
      injection h1 with h1
      injection h1 with _ h1) (fun b hX hZ => hZ.2 hX)
    refine hm.mono fun g hgz => ⟨?_, fun e => ?_⟩
    · rcases hgz.1 with h1 | h1
      · exact .inl h1
      · exact .inr ⟨h1.1, by have := h1.2; omega⟩
    · rcases (hrow' g e).2 with h1 | h1
      · exact hgz.2 h1
      · rcases hgz.1 with h2 | h2
        · have := hz g h2; have := h.fr.size; omega
        · have := h2.2; omega
  · exact (h.fr.alloc _).grown hg fun b hb => .inr (.inr (h.row b hb).1)
theorem Mach.small {B : Nat} {Z : Nat → Prop} {m : Nat} {st : Int} {M : List St} {W : World} (h : Mach B Z m st M W) : Mach B (fun k => Z k ∧ k < W.heap.size) m st M W := by
  obtain ⟨sv, xs, h1, h2, h3, h4⟩ := h
  refine ⟨sv, xs, h1, h2, ?_, h4⟩
  have hlt : ∀ v qs, Ints W v qs → Own Z v → Own (fun k => Z k ∧ k < W.heap.size) v := fun v qs hv ho g hg => by
    obtain ⟨C, hC⟩ := owns_type hv hg
    exact ⟨ho g hg, hC.lt⟩
  have : ∀ (M : List St) (xs : List Value), IsM Z W M xs → IsM (fun k => Z k ∧ k < W.heap.size) W M xs := by
    intro M
    induction M with
    | nil => exact fun _ h => h
    | cons s M ih =>
      refine fun _ ⟨fv, nv, ys, e, h1, h2⟩ => ⟨fv, nv, ys, e, ?_, ih _ h2⟩
      rcases s with ⟨f, q⟩ | qs
      · exact ⟨h1.1, h1.2.1, hlt _ _ h1.2.1 h1.2.2⟩
      · exact ⟨h1.1, h1.2.1, hlt _ _ h1.2.1 h1.2.2⟩
  exact this M xs h3

set_option maxRecDepth 100000 in
set_option maxHeartbeats 2000000 in
theorem more_add (ss : List Ss) (hS : ∀ s ∈ ss, SeqAdd s) (B : Nat) (S Z : Nat → Prop) (W : World) (m : Nat) (st : Int) (M : List St) (v : Value) (q : Nat) (hm : Mach B Z m st M W) (hu : Node S W 2 v (fun xs => NsQ ss S W xs)) (hsz : M.length + szL ss + 1 ≤ 9000) (hq : q ≤ 9000) (hss : ss.length ≤ 9000) :
    Calls Tryz.prog 145 #[ptr m, v, .int .i64 q] W (AddPost B Z m st W ((addLs q ss M).2.length, (addLs q ss M).2 ++ [.ep (addLs q ss M).1])) := by
  obtain ⟨i0, hi, hz0, hz1, hz2⟩ := info_parts info_int
  have HI := Lib.hid hi
  have HZ0 := Lib.hid hz0
  have HZ1 := Lib.hid hz1
  have HZ2 := Lib.hid hz2
  clear hi hz0 hz1 hz2
  obtain ⟨b, sv, xs, _, rfl, hat, hpa, hns⟩ := hu
  have hlen := NsQ.len ss xs hns
  obtain ⟨sa, sn, sc, rfl⟩ := owns_slice hpa.1
  have hsn : sn = xs.length := by
    rcases hpa.1.2 with ⟨e, h0⟩ | ⟨g, cap, cur, e, _⟩
    · injection e with _ e _; omega
    · injection e with _ e _
  subst hsn
  have c0 : W.cell? ⟨b, 0, none⟩ = some (.int .i64 2) := hat.cell 0
  have c4 : W.cell? ⟨b, 4, none⟩ = some (.slice sa xs.length sc) := hat.cell 4
  have HM := Lib.hid hm
  have HAT := Lib.hid hat
  have HPA := Lib.hid hpa
  have HNS := Lib.hid hns
  have HLEN := Lib.hid hlen
  have HS := Lib.hid hS
  have hxl : xs.length ≤ 9000 := by omega
  clear hm hat hpa hns hlen hS
  unfold ptr at *
  go_enter Tryz.func145, Tryz.ntmps145
  go_wp2_with fail
  go_loopw [11, 104] (fun fv i wr => ∃ k : Nat, k ≤ xs.length ∧ i = .int .i64 k ∧ AlIn B (fun g => Z g ∧ g < W.heap.size) W m st fv (addLs q (ss.take k) M).1 (addLs q (ss.take k) M).2 wr) (fun _ i _ => xs.length - (intOf i).toNat)
  case atStart =>
    refine ⟨0, Nat.zero_le _, rfl, World.ownsRow_nil _ _ _ _, (fun g hg => by cases hg), ?_, Fr.refl _⟩
    exact HM.out.small.mono fun g hg => ⟨.inl hg, fun e => by cases e⟩
  case round =>
    obtain ⟨k, hk, rfl, hal⟩ := hrel
    obtain ⟨fa, fn, fc, rfl⟩ := owns_slice hal.ints
    have HAL := Lib.hid hal
    clear hal
    by_cases hlt : k < xs.length
    · have hj : k < ss.length := by rw [← HLEN.out]; exact hlt
      obtain ⟨d, x, h1, h2, h3⟩ := NsQ.get ss xs HNS.out k hj
      have h4 := HS.out d (List.mem_of_getElem? h1)
      have hptr : ∃ vb, x = ptr vb := by obtain ⟨b, _, _, _, e, _⟩ := h3; exact ⟨b, e⟩
      obtain ⟨vb, rfl⟩ := hptr
      have hsa : ∃ g, sa = some ⟨g, 0, none⟩ := by
        rcases HPA.out.1.2 with ⟨e, h0⟩ | ⟨g, cap, cur, e, _⟩
        · omega
        · injection e with e _ _; exact ⟨g, e⟩
      obtain ⟨g, rfl⟩ := hsa
      have hat := HAT.out.fr HAL.out.fr (fun h => h) rfl
      have hpa := HPA.out.fr HAL.out.fr rfl
      have d4 : wr.cell? ⟨b, 4, none⟩ = some (.slice (some ⟨g, 0, none⟩) xs.length sc) := hat.cell 4
      have d5 : wr.cell? ⟨g, k, none⟩ = some (.pointer (some ⟨vb, 0, none⟩)) := owns_cell hpa.1 rfl h2
      have hl1 := addLs_len q (ss.take k) M
      have hl2 := szL_take ss k d h1
      have hc := addLs_count q (ss.take k) M
      have hcl : (addLs q (ss.take k) M).1.length ≤ 9000 := by rw [hc, List.length_take]; omega
      have HTK : Hid (addLs q (ss.take (k + 1)) M = ((addLs q (ss.take k) M).1 ++ [(addS d (addLs q (ss.take k) M).2 q).1], (addS d (addLs q (ss.take k) M).2 q).2)) := Lib.hid (by
        rw [List.take_succ_eq_append_getElem hj, addLs_snoc]
        have : ss[k] = d := by rw [List.getElem?_eq_getElem hj] at h1; exact Option.some.inj h1
        rw [this])
      have HU := Lib.hid (h4 B S (fun g => ((Z g ∧ g < W.heap.size) ∨ Fresh W wr g) ∧ (Value.slice fa fn fc).ownBlock ≠ some g) wr m st (addLs q (ss.take k) M).2 _ q HAL.out.mach (h3.fr HAL.out.fr rfl rfl fun zs hz => IsSl.fr HAL.out.fr rfl rfl rfl d zs hz) (by omega) hq)
      clear hat hpa hl1 hl2 hc h1 h2 h3 h4
      generalize addLs q (ss.take k) M = R at *
      obtain ⟨fs, Mk⟩ := R
      generalize addS d Mk q = r at *
      obtain ⟨r, M2⟩ := r
      have HCL : Hid (fs.length ≤ 9000) := Lib.hid hcl
      have HAL2 : Hid (AlIn B (fun g => Z g ∧ g < W.heap.size) W m st (.slice fa fn fc) fs Mk wr) := HAL
      clear hcl HAL
      unfold ptr at *
      go_wp2_with fail
      refine (HU.out).mono ?_
      rintro e w2 ⟨rfl, hm2, hf2⟩
      have HA2 : Hid (AlIn B (fun g => Z g ∧ g < W.heap.size) W m st (.slice fa fn fc) fs M2 w2) := Lib.hid (HAL2.out.add hm2 hf2)
      clear hm2 hf2 HU
      go_wp2_with (at_builtin; (refine wpList_append_where _ rfl (.tmp 108) (.tmp 113) 75 rfl 3 i0 (.int .i64 0) 1 8 Tryz.underlying75 HI.out HZ0.out HZ1.out HZ2.out rfl (by decide) (.slice fa fn fc) fs.length (fs.map intV) rfl (HA2.out.ints.alloc _) ⟨w2.heap.size, 0, none⟩ 1 1 [.int .i64 r] rfl (by decide) rfl (new_one w2 _ _) (one_int _) (len_small9 HCL.out) (len_bytes9 HCL.out) ?_))
      intro fv' w3 hown hgrow hwhere
      have HA3 := Lib.hid (HA2.out.push (fun g hg => hg.2) hown rfl hgrow (by rw [alloc_size]; exact hwhere))
      obtain ⟨ta, tn, tc, rfl⟩ := owns_slice hown
      clear hown hgrow hwhere
      go_wp2_with fail
      go_roundw
      case rel => exact ⟨k + 1, by omega, by go_num, by rw [HTK.out]; exact HA3.out⟩
      case measure => simp [intOf]; omega
    · obtain rfl : k = xs.length := by omega
      have hall : ss.take xs.length = ss := List.take_of_length_le (by rw [HLEN.out]; exact Nat.le_refl _)
      rw [hall] at HAL
      clear hall
      have hl1 := addLs_len q ss M
      generalize addLs q ss M = R at *
      obtain ⟨fs, Mk⟩ := R
      have HAL2 : Hid (AlIn B (fun g => Z g ∧ g < W.heap.size) W m st (.slice fa fn fc) fs Mk wr) := HAL
      have hl2 : Mk.length ≤ 9000 := by simp only at hl1; omega
      clear HAL hl1
      have HP := Lib.hid (put_any6 (B := B) (fun g => Z g ∨ Fresh W wr g) m st Mk (.ep fs) .nilFunc (.slice fa fn fc) wr (by omega) (HAL2.out.mach.mono fun g hg => by
        rcases hg.1 with h | h
        · exact .inl h.1
        · exact .inr h) ⟨rfl, HAL2.out.ints, fun g hg => .inr (HAL2.out.row g hg)⟩)
      unfold ptr at *
      go_wp2_with fail
      refine (HP.out).mono ?_
      rintro e w2 ⟨rfl, hm2, hf2⟩
      have HM2 := Lib.hid hm2
      have HF2 := Lib.hid hf2
      clear hm2 hf2
      go_wp2_with fail
      go_ret
      exact ⟨rfl, HM2.out.mono (fun g hg => by
        rcases hg with h | h
        · exact .inl h
        · exact .inr ⟨h.1, Nat.lt_of_lt_of_le h.2 HF2.out.size⟩), HAL2.out.fr.trans HF2.out⟩

mutual
theorem add_ok : ∀ u : U, AddOK u
  | .byte c => add_byte c
  | .cls f => add_cls f
  | .star u => add_star u (add_ok u)
  | .plus u => add_plus u (add_ok u)
  | .opt u => add_opt u (add_ok u)
  | .grp (.one s) => by
    intro B S Z W m st M v q hm hu hsz hq
    unfold IsU IsA at hu
    simp only [szU, szA] at hsz
    exact seq_add s (add_allS s) B S Z W m st M v q hm hu (by omega) hq
  | .grp (.more s a) => by
    intro B S Z W m st M v q hm hu hsz hq
    unfold IsU IsA at hu
    simp only [szU, szA] at hsz
    have hze := szA_eq a
    have h1 := add_allA a
    have h2 : SeqAdd s := seq_add s (add_allS s)
    have := more_add (s :: toL a) (fun d hd => by
      rcases List.mem_cons.1 hd with e | e
      · rw [e]; exact h2
      · exact h1 d e) B S Z W m st M v q hm (hu.fr (Fr.refl (B := 0) (T := fun _ => false) W) rfl rfl fun xs ⟨x, ys, e, h3, h4⟩ => ⟨x, ys, e, h3, IsAl.ns a ys h4⟩) (by simp only [szL]; omega) hq (by simp only [List.length_cons]; omega)
    have e : addU (.grp (.more s a)) M q = ((addLs q (s :: toL a) M).2.length, (addLs q (s :: toL a) M).2 ++ [.ep (addLs q (s :: toL a) M).1]) := by
      simp only [addU, addA, addL_eq, addLs]
    rw [e]
    exact this
theorem add_allA : ∀ a : As, ∀ d ∈ toL a, SeqAdd d
  | .one s => by
    have hs := seq_add s (add_allS s)
    intro d hd
    unfold toL at hd
    rw [List.mem_singleton] at hd
    rw [hd]
    exact hs
  | .more s a => by
    have hs := seq_add s (add_allS s)
    have ha := add_allA a
    intro d hd
    unfold toL at hd
    rcases List.mem_cons.1 hd with e | e
    · rw [e]; exact hs
    · exact ha d e
theorem add_allS : ∀ s : Ss, AllS AddOK s
  | .nil => trivial
  | .cons u s => ⟨add_ok u, add_allS s⟩
end
end Go.Proofs.YthckgmbadmilfaaGreat

namespace Go.Proofs.YthckgmbadmilfaaGreat
open Go.RowKit Rx

theorem Fr.toBelow {B : Nat} {T : TypeId → Bool} {W W' : World} (h : Fr B T (fun _ => False) W W') (hB : B ≤ W.heap.size) : Below B W W' :=
  ⟨h.os, h.tape, h.output, h.size, fun k hk => h.block k (by omega) (fun h => h) (fun hB => by omega)⟩

theorem make_state (w : World) : (Instr.makeSlice 164 (.int .i64 1) (.int .i64 1)).run Tryz.prog w = .ok (.slice (some ⟨w.heap.size, 0, none⟩) 1 1) (w.alloc (.cells #[.nilFunc, .slice none 0 0] 173)) := by kernel_rfl
set_option maxRecDepth 100000 in
set_option maxHeartbeats 1000000 in
theorem build_any (a : As) (S : Nat → Prop) (W : World) (v : Value) (ha : IsA S W a v) (hsz : szA a ≤ 300) :
    Calls Tryz.prog 124 #[v] W fun e w' => ∃ m, e = .returned (ptr m) ∧ Mach W.heap.size (Fresh W w') m (addA a [.ep []] 0).1 (addA a [.ep []] 0).2 w' ∧ Below W.heap.size W w' := by
  obtain ⟨vb, rfl⟩ := IsA.ptr a v ha
  have h0 : Mach W.heap.size (fun _ => False) (W.heap.size + 1) 0 [.ep []] ((W.alloc (.cells #[.nilFunc, .slice none 0 0] 173)).alloc (.cells #[.slice (some ⟨W.heap.size, 0, none⟩) 1 1, .int .i64 0] 166)) := by
    have e := At.new (W.alloc (.cells #[.nilFunc, .slice none 0 0] 173)) #[.slice (some ⟨W.heap.size, 0, none⟩) 1 1, .int .i64 0] 166
    rw [alloc_size] at e
    refine ⟨_, [.nilFunc, .slice none 0 0], e, ⟨rfl, .inr ⟨W.heap.size, 1, #[.nilFunc, .slice none 0 0], rfl, Nat.zero_le _, ((At.new W #[.nilFunc, .slice none 0 0] 173).alloc _).out, Nat.le_refl _, by decide, rfl, rfl⟩⟩, ⟨.nilFunc, .slice none 0 0, [], rfl, ⟨rfl, World.ownsRow_nil _ _ _ _, fun g hg => by cases hg⟩, rfl⟩, by omega, fun g hg => ?_⟩
    injection hg with hg
    subst hg
    exact Nat.le_refl _
  have hb0 : Below W.heap.size W ((W.alloc (.cells #[.nilFunc, .slice none 0 0] 173)).alloc (.cells #[.slice (some ⟨W.heap.size, 0, none⟩) 1 1, .int .i64 0] 166)) := ((Below.refl _ _).alloc (Nat.le_refl _) _).alloc (by rw [alloc_size]; omega) _
  have hia : IsU S ((W.alloc (.cells #[.nilFunc, .slice none 0 0] 173)).alloc (.cells #[.slice (some ⟨W.heap.size, 0, none⟩) 1 1, .int .i64 0] 166)) (.grp a) (ptr vb) := by
    unfold IsU
    exact IsA.fr (B := 0) (T := fun _ => false) (Fr.below hb0) rfl rfl rfl a _ ha
  have HA := Lib.hid (add_ok (.grp a) W.heap.size S (fun _ => False) _ (W.heap.size + 1) 0 [.ep []] (ptr vb) 0 h0 hia (by simp [szU]; omega) (by omega))
  have HB0 := Lib.hid hb0
  clear h0 hb0 hia ha
  have e0 : addU (.grp a) [.ep []] 0 = addA a [.ep []] 0 := by simp only [addU]
  rw [e0] at HA
  clear e0
  have HLEN := Lib.hid (addA_len a [.ep []] 0)
  generalize addA a [.ep []] 0 = R at *
  obtain ⟨st, M⟩ := R
  unfold ptr at *
  have hmk := make_state W
  go_enter Tryz.func124, Tryz.ntmps124
  go_wp2_with fail
  refine (HA.out).mono ?_
  rintro e w2 ⟨rfl, hm2, hf2⟩
  have HF2 : Hid (Below W.heap.size W w2) := Lib.hid (HB0.out.trans (Fr.toBelow hf2 (by simp; omega)))
  have HFR := Lib.hid hf2
  obtain ⟨sv, xs, hat, hown, hism, h1, h2⟩ := hm2
  have c1 : w2.cell? ⟨W.heap.size + 1, 1, none⟩ = some (.int .i64 0) := hat.cell 1
  have c2 := hat.free 1
  have HM3 : Hid (Mach W.heap.size (Fresh W (w2.setCell ⟨W.heap.size + 1, 1, none⟩ (.int .i64 st))) (W.heap.size + 1) st M (w2.setCell ⟨W.heap.size + 1, 1, none⟩ (.int .i64 st))) := Lib.hid (by
    have hf3 : FrM W.heap.size w2 (w2.setCell ⟨W.heap.size + 1, 1, none⟩ (.int .i64 st)) := (Fr.refl _).set _ 1 _ (.inr (.inl ⟨h1, _, _, hat, rfl⟩))
    refine ⟨sv, xs, hat.set 1 _, ?_, (hism.frM hf3).mono fun g hg => ?_, h1, h2⟩
    · exact owns_same (S := fun k => k ≠ W.heap.size + 1) hown (fun g hg e => owns_ne hown hat (by decide) (by rw [hg, e])) (fun k hk => Below.heap_setCell w2 ⟨W.heap.size + 1, 1, none⟩ _ k hk)
    · rcases hg with h | h
      · exact h.elim
      · refine ⟨?_, by have := h.2; simpa using this⟩
        have := h.1
        simp at this
        omega)
  have HB3 : Hid (Below W.heap.size W (w2.setCell ⟨W.heap.size + 1, 1, none⟩ (.int .i64 st))) := Lib.hid (HF2.out.setCell (by show W.heap.size ≤ W.heap.size + 1; omega) _)
  clear hf2 hat hown hism h1 h2
  go_wp2_with fail
  go_ret
  exact ⟨_, rfl, HM3.out, HB3.out⟩
end Go.Proofs.YthckgmbadmilfaaGreat
