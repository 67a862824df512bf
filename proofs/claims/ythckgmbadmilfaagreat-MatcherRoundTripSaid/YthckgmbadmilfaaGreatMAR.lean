/- The search's walks: spread. -/
import Derived.Test.YthckgmbadmilfaaGreatMAQ
import Derived.Test.YthckgmbadmilfaaGreatMAA
import Derived.Laws.EntriesVeiled
namespace Go.Proofs.YthckgmbadmilfaaGreat
open Go.RowKit Rx

/-- The cells of threads. -/
def thc : List Th → List Value
  | [] => []
  | t :: l => intV t.1 :: intV t.2 :: thc l
theorem thc_len : ∀ l : List Th, (thc l).length = l.length * 2
  | [] => rfl
  | t :: l => by simp [thc, thc_len l]; omega
theorem thc_app : ∀ l m : List Th, thc (l ++ m) = thc l ++ thc m
  | [], _ => rfl
  | t :: l, m => by simp [thc, thc_app l m]
/-- A set of threads. -/
def Ths (W : World) (sv : Value) (ts : List Th) : Prop := W.ownsRow 0 171 2 sv ts.length (thc ts)
/-- The marks. -/
def Marks (W : World) (b : Nat) (mk : List Nat) : Prop := At W b (mk.map intV).toArray 3
/-- What may change: the marks and the set's own array. -/
def XS (b : Nat) (sv : Value) (k : Nat) : Prop := k = b ∨ sv.ownBlock = some k
def FrS (b : Nat) (sv : Value) (W W' : World) : Prop := Fr 0 (fun _ => false) (XS b sv) W W'
theorem info_thread : (Tryz.prog.info? 171).map (fun i => (i.zero, i.size, i.bytes)) = some (some (.agg #[.int .i64 0, .int .i64 0]), 2, 16) := by kernel_rfl
/-- A machine is kept where what changes is none of its own. -/
theorem Mach.frS {B : Nat} {Z : Nat → Prop} {m : Nat} {st : Int} {M : List St} {W W' : World} (h : Mach B Z m st M W) {X : Nat → Prop} (hf : Fr 0 (fun _ => false) X W W') (hx : ∀ b C t, X b → At W b C t → (t = 3 ∧ ¬ Z b) ∨ t = 171) : Mach B Z m st M W' := by
  have hno : ∀ b C t, At W b C t → t ≠ 3 → t ≠ 171 → ¬ X b := fun b C t ha h1 h2 hX => by
    rcases hx b C t hX ha with h | h
    · exact h1 h.1
    · exact h2 h
  obtain ⟨sv, xs, h1, h2, h3, h4⟩ := h
  refine ⟨sv, xs, h1.fr hf (hno _ _ _ h1 (by decide) (by decide)) rfl, owns_fr h2 hf (fun g hg => ?_) rfl, ?_, h4⟩
  · obtain ⟨C, hC⟩ := owns_type h2 hg
    exact hno _ _ _ hC (by decide) (by decide)
  · have hs : ∀ s fv nv, IsSt Z W s fv nv → IsSt Z W' s fv nv := fun s fv nv hh => by
      have hfn : ∀ v f, IsFn W v f → IsFn W' v f := fun v f hv => hv.fr hf rfl rfl rfl (fun b C t ha ht => hno _ _ _ ha (by rcases ht with e | e | e <;> subst e <;> decide) (by rcases ht with e | e | e <;> subst e <;> decide))
      have hin : ∀ v qs, Ints W v qs → Own Z v → Ints W' v qs := fun v qs hv ho => owns_fr hv hf (fun g hg hX => by
        obtain ⟨C, hC⟩ := owns_type hv hg
        rcases hx _ _ _ hX hC with h | h
        · exact h.2 (ho g hg)
        · exact absurd h (by decide)) rfl
      rcases s with ⟨f, q⟩ | qs
      · exact ⟨hfn _ _ hh.1, hin _ _ hh.2.1 hh.2.2, hh.2.2⟩
      · exact ⟨hh.1, hin _ _ hh.2.1 hh.2.2, hh.2.2⟩
    have : ∀ (M : List St) (xs : List Value), IsM Z W M xs → IsM Z W' M xs := by
      intro M
      induction M with
      | nil => exact fun _ h => h
      | cons s M ih => exact fun _ ⟨fv, nv, ys, e, h1, h2⟩ => ⟨fv, nv, ys, e, hs _ _ _ h1, ih _ h2⟩
    exact this M xs h3
theorem XS.no {W : World} {b : Nat} {mk : List Nat} {sv : Value} {ts : List Th} {Z : Nat → Prop} (hm : Marks W b mk) (hs : Ths W sv ts) (hz : ¬ Z b) : ∀ k C t, XS b sv k → At W k C t → (t = 3 ∧ ¬ Z k) ∨ t = 171 := by
  intro k C t hx ha
  rcases hx with rfl | hx
  · left
    have h1 := hm.out
    rw [ha.out] at h1
    injection h1 with h1
    injection h1 with _ h1
    exact ⟨h1, hz⟩
  · right
    obtain ⟨C', hC⟩ := owns_type hs hx
    have h1 := hC.out
    rw [ha.out] at h1
    injection h1 with h1
    injection h1 with _ h1

/-- What spread hands back. -/
def SpreadPost (b : Nat) (sv : Value) (W : World) (r : List Th × List Nat) (e : Ending) (w' : World) : Prop :=
  ∃ sv', e = .returned sv' ∧ Ths w' sv' r.1 ∧ Marks w' b r.2 ∧ FrS b sv W w' ∧ (sv'.ownBlock = sv.ownBlock ∨ ∀ g, sv'.ownBlock = some g → W.heap.size ≤ g)
theorem SpreadPost.mk' {b : Nat} {sv sv' : Value} {W : World} {r : List Th × List Nat} {w' : World} (h1 : Ths w' sv' r.1) (h2 : Marks w' b r.2) (h3 : FrS b sv W w') (h4 : sv'.ownBlock = sv.ownBlock ∨ ∀ g, sv'.ownBlock = some g → W.heap.size ≤ g) : SpreadPost b sv W r (.returned sv') w' := ⟨sv', rfl, h1, h2, h3, h4⟩

/-- spread does what is told with so many steps. -/
def SpreadOK (n : Nat) : Prop := ∀ (B : Nat) (Z : Nat → Prop) (W : World) (m b : Nat) (st : Int) (M : List St) (sv : Value) (ts : List Th) (mk : List Nat) (q f k : Nat), Mach B Z m st M W → Ok M → Ths W sv ts → Marks W b mk → ¬ Z b → mk.length = M.length → q < M.length → M.length ≤ 9000 → free k mk < n → ts.length + free k mk ≤ 100000 → f ≤ 100000 → k ≤ 100000 →
  Calls Tryz.prog 146 #[ptr m, sv, .slice (some ⟨b, 0, none⟩) mk.length mk.length, .agg #[.int .i64 q, .int .i64 f], .int .i64 k] W (SpreadPost b sv W (spreadF M n ts mk q f k))

set_option maxRecDepth 100000 in
set_option maxHeartbeats 2000000 in
theorem spread_marked (n : Nat) (W : World) (m b : Nat) (sv : Value) (ts : List Th) (mk : List Nat) (q f k : Nat) (M : List St) (hs : Ths W sv ts) (hm : Marks W b mk) (hq : mk[q]? = some k) (_hmk : mk.length ≤ 9000) :
    Calls Tryz.prog 146 #[ptr m, sv, .slice (some ⟨b, 0, none⟩) mk.length mk.length, .agg #[.int .i64 q, .int .i64 f], .int .i64 k] W (SpreadPost b sv W (spreadF M (n + 1) ts mk q f k)) := by
  obtain ⟨sa, sn, sc, rfl⟩ := owns_slice hs
  have hlt : q < mk.length := (List.getElem?_eq_some_iff.1 hq).1
  have c0 : W.cell? ⟨b, q, none⟩ = some (.int .i64 k) := by
    rw [At.cell hm q]
    simp [hq, intV]
  have HE : Hid (spreadF M (n + 1) ts mk q f k = (ts, mk)) := Lib.hid (by simp only [spreadF]; rw [if_pos hq])
  have HS := Lib.hid hs
  have HM := Lib.hid hm
  have hb := At.lt hm
  have d0 : (W.alloc (.cells #[.int .i64 q, .int .i64 f] 171)).cell? ⟨b, q, none⟩ = some (.int .i64 k) := by rw [World.cell?_alloc_past _ _ _ hb]; exact c0
  clear hs hm hq
  rw [HE.out]
  unfold ptr
  go_enter Tryz.func146, Tryz.ntmps146
  go_wp2_with fail
  go_ret
  exact SpreadPost.mk' (HS.out.alloc _) (At.alloc HM.out _) ((Fr.refl _).alloc _) (.inl rfl)

theorem Marks.lt {W : World} {b : Nat} {mk : List Nat} (h : Marks W b mk) : b < W.heap.size := At.lt h
theorem Marks.cell {W : World} {b : Nat} {mk : List Nat} (h : Marks W b mk) {q x : Nat} (hq : mk[q]? = some x) : W.cell? ⟨b, q, none⟩ = some (.int .i64 x) := by
  rw [At.cell h q]
  simp [hq, intV]
theorem Marks.set {W : World} {b : Nat} {mk : List Nat} (h : Marks W b mk) (q k : Nat) : Marks (W.setCell ⟨b, q, none⟩ (.int .i64 k)) b (mk.set q k) := by
  have := At.set h q (.int .i64 k)
  unfold Marks
  rw [List.map_set]
  have e : ((mk.map intV).set q (intV k)).toArray = (mk.map intV).toArray.setIfInBounds q (.int .i64 k) := by
    apply Array.toList_inj.1
    simp [intV]
  rw [e]; exact this
/-- What a walk reads of a machine's state. -/
theorem Mach.read {B : Nat} {Z : Nat → Prop} {m : Nat} {st : Int} {M : List St} {W : World} (h : Mach B Z m st M W) {q : Nat} {s : St} (hq : M[q]? = some s) : ∃ g cap fv nv, W.cell? ⟨m, 0, none⟩ = some (.slice (some ⟨g, 0, none⟩) M.length cap) ∧ W.cell? ⟨g, q * 2, none⟩ = some fv ∧ W.cell? ⟨g, q * 2 + 1, none⟩ = some nv ∧ IsSt Z W s fv nv ∧ m < W.heap.size ∧ g < W.heap.size ∧ M.length ≤ cap := by
  obtain ⟨sv, xs, hat, hown, hism, _⟩ := h
  have hlt : q < M.length := (List.getElem?_eq_some_iff.1 hq).1
  have hsv : ∃ g cap, sv = .slice (some ⟨g, 0, none⟩) M.length cap ∧ M.length ≤ cap := by
    rcases hown.2 with ⟨_, h0⟩ | ⟨g, cap, cur, rfl, _, _, hc, _⟩
    · omega
    · exact ⟨g, cap, rfl, hc⟩
  obtain ⟨g, cap, rfl, hcap⟩ := hsv
  obtain ⟨fv, nv, h1, h2, h3⟩ := hism.get hq
  obtain ⟨C, hC⟩ := owns_type hown (g := g) rfl
  exact ⟨g, cap, fv, nv, hat.cell 0, owns_cell hown rfl h1, owns_cell hown rfl h2, h3, hat.lt, hC.lt, hcap⟩

theorem fn_ne (fk : FuncId) (fb : Value) (w : World) : (binOp .neq 104 (.func (.func fk) #[] #[fb]) .nilFunc).run Tryz.prog w = .ok (.bool true) w := by kernel_rfl
theorem fn_eq (w : World) : (binOp .neq 104 .nilFunc .nilFunc).run Tryz.prog w = .ok (.bool false) w := by kernel_rfl
theorem th_one (q f : Nat) : ∀ u ∈ [Value.int .i64 q, Value.int .i64 f], u.oneCell' = true := by
  intro u hu
  simp at hu
  rcases hu with rfl | rfl <;> rfl
theorem len_smallT {n : Nat} (h : n ≤ 100000) : n + 1 ≤ maxLen := by unfold maxLen; omega
theorem len_bytesT {n : Nat} (h : n ≤ 100000) : (n + 1) * 16 ≤ 140737488355328 := by omega
theorem spread_app {W w3 w4 : World} {b q f : Nat} {sv sv' : Value} {ts : List Th} {mk : List Nat} {o : Obj} (hf : FrS b sv W w3) (hs : Ths w3 sv ts) (hm : Marks w3 b mk)
    (hown : w4.ownsRow 0 171 2 sv' (ts.length + 1) (thc ts ++ [.int .i64 q, .int .i64 f])) (hg : ((w3.alloc o).drew).grownBy w4 sv.ownBlock) (hw : sv'.ownBlock = sv.ownBlock ∨ sv'.ownBlock = some (w3.heap.size + 1)) : SpreadPost b sv W (ts ++ [(q, f)], mk) (.returned sv') w4 := by
  refine SpreadPost.mk' ?_ ((At.alloc hm _).drew.grown hg (owns_ne hs hm (by decide))) ((hf.alloc o).drew.grown hg fun b' hb' => .inl (.inr hb')) ?_
  · unfold Ths
    rw [thc_app, List.length_append]
    exact hown
  · rcases hw with h | h
    · exact .inl h
    · right
      intro g hg'
      rw [h] at hg'
      injection hg' with hg'
      have := hf.size
      omega
/-- What holds behind the first part of spread: the state is marked, and lies in a variable of its own. -/
structure Sp (B : Nat) (Z : Nat → Prop) (m b : Nat) (st : Int) (M : List St) (sv : Value) (ts : List Th) (mk : List Nat) (W w3 : World) : Prop where
  mach : Mach B Z m st M w3
  ths : Ths w3 sv ts
  marks : Marks w3 b mk
  fr : FrS b sv W w3

set_option maxRecDepth 100000 in
set_option maxHeartbeats 2000000 in
theorem spread_rd (n : Nat) (B : Nat) (Z : Nat → Prop) (W : World) (m b : Nat) (st : Int) (M : List St) (sv : Value) (ts : List Th) (mk : List Nat) (q f k : Nat) (hM : Mach B Z m st M W) (hs : Ths W sv ts) (hm : Marks W b mk) (hz : ¬ Z b) (hlen : mk.length = M.length) (hq : q < M.length) (_hMl : M.length ≤ 9000) (hts : ts.length ≤ 100000)
    (hnq : mk[q]? ≠ some k) (g : UInt8 → Bool) (q' : Nat) (hst : M[q]? = some (.rd g q')) :
    Calls Tryz.prog 146 #[ptr m, sv, .slice (some ⟨b, 0, none⟩) mk.length mk.length, .agg #[.int .i64 q, .int .i64 f], .int .i64 k] W (SpreadPost b sv W (spreadF M (n + 1) ts mk q f k)) := by
  have HE : Hid (spreadF M (n + 1) ts mk q f k = (ts ++ [(q, f)], mk.set q k)) := Lib.hid (by simp only [spreadF]; rw [if_neg hnq, hst])
  rw [HE.out]
  obtain ⟨i0, hi, hz0, hz1, hz2⟩ := info_parts info_thread
  have HI := Lib.hid hi
  have HZ0 := Lib.hid hz0
  have HZ1 := Lib.hid hz1
  have HZ2 := Lib.hid hz2
  clear hi hz0 hz1 hz2
  obtain ⟨sa, sn, sc, rfl⟩ := owns_slice hs
  have hqm : q < mk.length := by omega
  obtain ⟨x, hx⟩ : ∃ x, mk[q]? = some x := ⟨_, List.getElem?_eq_getElem hqm⟩
  have d1 : ((x : Int) == (k : Int)) = false := by
    rw [beq_eq_false_iff_ne]
    intro e
    exact hnq (by rw [hx]; congr 1; omega)
  have hbl := hm.lt
  have d0 : (W.alloc (.cells #[.int .i64 q, .int .i64 f] 171)).cell? ⟨b, q, none⟩ = some (.int .i64 x) := by rw [World.cell?_alloc_past _ _ _ hbl]; exact hm.cell hx
  have df : (W.alloc (.cells #[.int .i64 q, .int .i64 f] 171)).frozen? ⟨b, q, none⟩ = false := (At.alloc hm _).free q
  have hb2 : FrS b (.slice sa sn sc) W ((W.alloc (.cells #[.int .i64 q, .int .i64 f] 171)).setCell ⟨b, q, none⟩ (.int .i64 k)) := ((Fr.refl W).alloc _).set b q _ (.inl (.inl rfl))
  have hx2 := XS.no hm hs hz
  have hM2 : Mach B Z m st M ((W.alloc (.cells #[.int .i64 q, .int .i64 f] 171)).setCell ⟨b, q, none⟩ (.int .i64 k)) := hM.frS hb2 hx2
  have hmk2 : Marks ((W.alloc (.cells #[.int .i64 q, .int .i64 f] 171)).setCell ⟨b, q, none⟩ (.int .i64 k)) b (mk.set q k) := Marks.set (At.alloc hm _) q k
  have htb2 : At ((W.alloc (.cells #[.int .i64 q, .int .i64 f] 171)).setCell ⟨b, q, none⟩ (.int .i64 k)) W.heap.size #[.int .i64 q, .int .i64 f] 171 := (At.new _ _ _).other _ (by show W.heap.size ≠ b; omega)
  have hs2 : Ths ((W.alloc (.cells #[.int .i64 q, .int .i64 f] 171)).setCell ⟨b, q, none⟩ (.int .i64 k)) (.slice sa sn sc) ts := owns_same (S := fun k => k < W.heap.size ∧ k ≠ b) hs (fun g hg => by
    obtain ⟨C, hC⟩ := owns_type hs hg
    exact ⟨hC.lt, fun e => owns_ne hs hm (by decide) (by rw [hg, e])⟩) (fun j hj => by rw [Below.heap_setCell _ ⟨b, q, none⟩ _ j hj.2, Below.heap_alloc _ _ _ hj.1])
  have HB2 := Lib.hid hb2
  have HX2 := Lib.hid hx2
  clear hb2 hx2 hx hnq HE hM hm hs hz hbl
  unfold ptr
  go_enter Tryz.func146, Tryz.ntmps146
  go_wp2_with fail
  generalize ((W.alloc (.cells #[.int .i64 q, .int .i64 f] 171)).setCell ⟨b, q, none⟩ (.int .i64 k)) = w2 at *
  clear d0 df
  obtain ⟨g0, cap, fv, nv, m0, m1, m2, hsx, hml, hgl, hcap⟩ := hM2.read hst
  have t0 : w2.cell? ⟨W.heap.size, 0, none⟩ = some (.int .i64 q) := htb2.cell 0
  have t1 : w2.cell? ⟨W.heap.size, 1, none⟩ = some (.int .i64 f) := htb2.cell 1
  obtain ⟨na, nn, nc, rfl, hfv⟩ := hsx.shape
  have hfv2 : ∃ fk fb, fv = .func (.func fk) #[] #[fb] := by
    rcases hfv with h | h
    · subst h
      rcases hsx.1 with ⟨_, _, e, _⟩ | ⟨_, _, e, _⟩ <;> cases e
    · exact h
  obtain ⟨fk, fb, rfl⟩ := hfv2
  have m0a : (w2.alloc (.cells #[.nilFunc, .slice none 0 0] 173)).cell? ⟨m, 0, none⟩ = some (.slice (some ⟨g0, 0, none⟩) M.length cap) := by rw [World.cell?_alloc_past _ _ _ hml]; exact m0
  have m1a : (w2.alloc (.cells #[.nilFunc, .slice none 0 0] 173)).cell? ⟨g0, q * 2, none⟩ = some (.func (.func fk) #[] #[fb]) := by rw [World.cell?_alloc_past _ _ _ hgl]; exact m1
  have m2a : (w2.alloc (.cells #[.nilFunc, .slice none 0 0] 173)).cell? ⟨g0, q * 2 + 1, none⟩ = some (.slice na nn nc) := by rw [World.cell?_alloc_past _ _ _ hgl]; exact m2
  have t0a : (w2.alloc (.cells #[.nilFunc, .slice none 0 0] 173)).cell? ⟨W.heap.size, 0, none⟩ = some (.int .i64 q) := by rw [World.cell?_alloc_past _ _ _ htb2.lt]; exact t0
  have hqi : (q : Int) < (M.length : Int) := by omega
  go_region
  have hfe := fn_ne fk fb
  have hb3 : Below w2.heap.size w2 (w2.alloc (.cells #[.func (.func fk) #[] #[fb], .slice na nn nc] 173)) := (Below.refl _ _).alloc (Nat.le_refl _) _
  have hs3 : Ths (w2.alloc (.cells #[.func (.func fk) #[] #[fb], .slice na nn nc] 173)) (.slice sa sn sc) ts := hs2.alloc _
  have hm3 : Marks (w2.alloc (.cells #[.func (.func fk) #[] #[fb], .slice na nn nc] 173)) b (mk.set q k) := At.alloc hmk2 _
  have htb3 : At (w2.alloc (.cells #[.func (.func fk) #[] #[fb], .slice na nn nc] 173)) W.heap.size #[.int .i64 q, .int .i64 f] 171 := htb2.alloc _
  have hsb3 : At (w2.alloc (.cells #[.func (.func fk) #[] #[fb], .slice na nn nc] 173)) w2.heap.size #[.func (.func fk) #[] #[fb], .slice na nn nc] 173 := At.new _ _ _
  have hf3 := HB2.out.alloc (.cells #[.func (.func fk) #[] #[fb], .slice na nn nc] 173)
  have HS2 := Lib.hid hs2
  have HT2 := Lib.hid hts
  clear m0 m1 m2 m0a m1a m2a t0 t1 t0a hs2 hmk2 htb2 hM2 hml hgl hsx hfv hb3 hts
  have HF3 := Lib.hid hf3
  have HS3 := Lib.hid hs3
  have HM3 := Lib.hid hm3
  clear hf3 hs3 hm3
  generalize (w2.alloc (.cells #[.func (.func fk) #[] #[fb], .slice na nn nc] 173)) = w3 at *
  have t0 : w3.cell? ⟨W.heap.size, 0, none⟩ = some (.int .i64 q) := htb3.cell 0
  have t1 : w3.cell? ⟨W.heap.size, 1, none⟩ = some (.int .i64 f) := htb3.cell 1
  have s0 : w3.cell? ⟨w2.heap.size, 0, none⟩ = some (.func (.func fk) #[] #[fb]) := hsb3.cell 0
  clear htb3 hsb3
  go_wp2_with (at_builtin; (refine wpList_append_where _ rfl (.tmp 43) (.tmp 45) 168 rfl 171 i0 _ 2 16 Tryz.underlying168 HI.out HZ0.out HZ1.out HZ2.out rfl (by decide) (.slice sa sn sc) ts.length (thc ts) rfl (HS3.out.alloc _) ⟨w3.heap.size, 0, none⟩ 1 1 [.int .i64 q, .int .i64 f] rfl (by decide) rfl (World.news_of_block (cs := #[.int .i64 q, .int .i64 f]) (t := 171) (fr := (0, 0)) (heap_alloc_new _ _)) (th_one _ _) (len_smallT HT2.out) (len_bytesT HT2.out) ?_))
  intro sv' w4 hown hgrow hwhere
  have HPO := Lib.hid (spread_app HF3.out HS3.out HM3.out hown hgrow (by simpa using hwhere))
  clear hown hgrow hwhere
  go_wp2_with fail
  go_ret
  exact HPO.out
end Go.Proofs.YthckgmbadmilfaaGreat
