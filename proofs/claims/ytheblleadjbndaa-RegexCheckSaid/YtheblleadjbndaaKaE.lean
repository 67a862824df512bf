/- The search's walks: spread. The search's walks: spread at the end and at states without reading. The search's walks: spread at every state, the functions that accept. The search in memory. The search's loop: what it keeps. The search's walk: find. The walks of Match, Find and Check. -/
import Derived.Test.YtheblleadjbndaaKaD
import Derived.Test.YtheblleadjbndaaKaA
import Derived.Laws.EntriesVeiled
import Derived.Deep.DeepCutAuto
import Derived.Deep.LoopGhost
import Derived.StillTailTactics
namespace Go.Proofs.Ytheblleadjbndaa
open Go.RowKit Rx

/-- The cells of threads. -/
def thc : List Th → List Value
  | [] => []
  | t :: l => intV t.1 :: intV t.2 :: thc l
theorem thc_len : ∀ l : List Th, (thc l).length = l.length * 2
  | [] => rfl
  | t :: l => by simp [thc, thc_len l]; omega
theorem thc_app : ∀ l m : List Th, thc (l ++ m) = thc l ++ thc m
  | [], _ => rfl
  | t :: l, m => by simp [thc, thc_app l m]
/-- A set of threads. -/
def Ths (W : World) (sv : Value) (ts : List Th) : Prop := W.ownsRow 0 72 2 sv ts.length (thc ts)
/-- The marks. -/
def Marks (W : World) (b : Nat) (mk : List Nat) : Prop := At W b (mk.map intV).toArray 3
/-- What may change: the marks and the set's own array. -/
def XS (b : Nat) (sv : Value) (k : Nat) : Prop := k = b ∨ sv.ownBlock = some k
def FrS (b : Nat) (sv : Value) (W W' : World) : Prop := Fr 0 (fun _ => false) (XS b sv) W W'
theorem info_thread : (Try.prog.info? 72).map (fun i => (i.zero, i.size, i.bytes)) = some (some (.agg #[.int .i64 0, .int .i64 0]), 2, 16) := by kernel_rfl
/-- A machine is kept where what changes is none of its own. -/
theorem Mach.frS {B : Nat} {Z : Nat → Prop} {m : Nat} {st : Int} {M : List St} {W W' : World} (h : Mach B Z m st M W) {X : Nat → Prop} (hf : Fr 0 (fun _ => false) X W W') (hx : ∀ b C t, X b → At W b C t → (t = 3 ∧ ¬ Z b) ∨ t = 72) : Mach B Z m st M W' := by
  have hno : ∀ b C t, At W b C t → t ≠ 3 → t ≠ 72 → ¬ X b := fun b C t ha h1 h2 hX => by
    rcases hx b C t hX ha with h | h
    · exact h1 h.1
    · exact h2 h
  obtain ⟨sv, xs, h1, h2, h3, h4⟩ := h
  refine ⟨sv, xs, h1.fr hf (hno _ _ _ h1 (by decide) (by decide)) rfl, owns_fr h2 hf (fun g hg => ?_) rfl, ?_, h4⟩
  · obtain ⟨C, hC⟩ := owns_type h2 hg
    exact hno _ _ _ hC (by decide) (by decide)
  · have hs : ∀ s fv nv, IsSt Z W s fv nv → IsSt Z W' s fv nv := fun s fv nv hh => by
      have hfn : ∀ v f, IsFn W v f → IsFn W' v f := fun v f hv => hv.fr hf rfl rfl rfl (fun b C t ha ht => hno _ _ _ ha (by rcases ht with e | e | e <;> subst e <;> decide) (by rcases ht with e | e | e <;> subst e <;> decide))
      have hin : ∀ v qs, Ints W v qs → Own Z v → Ints W' v qs := fun v qs hv ho => owns_fr hv hf (fun g hg hX => by
        obtain ⟨C, hC⟩ := owns_type hv hg
        rcases hx _ _ _ hX hC with h | h
        · exact h.2 (ho g hg)
        · exact absurd h (by decide)) rfl
      rcases s with ⟨f, q⟩ | qs
      · exact ⟨hfn _ _ hh.1, hin _ _ hh.2.1 hh.2.2, hh.2.2⟩
      · exact ⟨hh.1, hin _ _ hh.2.1 hh.2.2, hh.2.2⟩
    have : ∀ (M : List St) (xs : List Value), IsM Z W M xs → IsM Z W' M xs := by
      intro M
      induction M with
      | nil => exact fun _ h => h
      | cons s M ih => exact fun _ ⟨fv, nv, ys, e, h1, h2⟩ => ⟨fv, nv, ys, e, hs _ _ _ h1, ih _ h2⟩
    exact this M xs h3
theorem XS.no {W : World} {b : Nat} {mk : List Nat} {sv : Value} {ts : List Th} {Z : Nat → Prop} (hm : Marks W b mk) (hs : Ths W sv ts) (hz : ¬ Z b) : ∀ k C t, XS b sv k → At W k C t → (t = 3 ∧ ¬ Z k) ∨ t = 72 := by
  intro k C t hx ha
  rcases hx with rfl | hx
  · left
    have h1 := hm.out
    rw [ha.out] at h1
    injection h1 with h1
    injection h1 with _ h1
    exact ⟨h1, hz⟩
  · right
    obtain ⟨C', hC⟩ := owns_type hs hx
    have h1 := hC.out
    rw [ha.out] at h1
    injection h1 with h1
    injection h1 with _ h1

/-- What spread hands back. -/
def SpreadPost (b : Nat) (sv : Value) (W : World) (r : List Th × List Nat) (e : Ending) (w' : World) : Prop :=
  ∃ sv', e = .returned sv' ∧ Ths w' sv' r.1 ∧ Marks w' b r.2 ∧ FrS b sv W w' ∧ (sv'.ownBlock = sv.ownBlock ∨ ∀ g, sv'.ownBlock = some g → W.heap.size ≤ g)
theorem SpreadPost.mk' {b : Nat} {sv sv' : Value} {W : World} {r : List Th × List Nat} {w' : World} (h1 : Ths w' sv' r.1) (h2 : Marks w' b r.2) (h3 : FrS b sv W w') (h4 : sv'.ownBlock = sv.ownBlock ∨ ∀ g, sv'.ownBlock = some g → W.heap.size ≤ g) : SpreadPost b sv W r (.returned sv') w' := ⟨sv', rfl, h1, h2, h3, h4⟩

/-- spread does what is told with so many steps. -/
def SpreadOK (n : Nat) : Prop := ∀ (B : Nat) (Z : Nat → Prop) (W : World) (m b : Nat) (st : Int) (M : List St) (sv : Value) (ts : List Th) (mk : List Nat) (q f k : Nat), Mach B Z m st M W → Ok M → Ths W sv ts → Marks W b mk → ¬ Z b → mk.length = M.length → q < M.length → M.length ≤ 9000 → free k mk < n → ts.length + free k mk ≤ 100000 → f ≤ 100000 → k ≤ 100000 →
  Calls Try.prog 40 #[ptr m, sv, .slice (some ⟨b, 0, none⟩) mk.length mk.length, .agg #[.int .i64 q, .int .i64 f], .int .i64 k] W (SpreadPost b sv W (spreadF M n ts mk q f k))

set_option maxRecDepth 100000 in
set_option maxHeartbeats 2000000 in
theorem spread_marked (n : Nat) (W : World) (m b : Nat) (sv : Value) (ts : List Th) (mk : List Nat) (q f k : Nat) (M : List St) (hs : Ths W sv ts) (hm : Marks W b mk) (hq : mk[q]? = some k) (_hmk : mk.length ≤ 9000) :
    Calls Try.prog 40 #[ptr m, sv, .slice (some ⟨b, 0, none⟩) mk.length mk.length, .agg #[.int .i64 q, .int .i64 f], .int .i64 k] W (SpreadPost b sv W (spreadF M (n + 1) ts mk q f k)) := by
  obtain ⟨sa, sn, sc, rfl⟩ := owns_slice hs
  have hlt : q < mk.length := (List.getElem?_eq_some_iff.1 hq).1
  have c0 : W.cell? ⟨b, q, none⟩ = some (.int .i64 k) := by
    rw [At.cell hm q]
    simp [hq, intV]
  have HE : Hid (spreadF M (n + 1) ts mk q f k = (ts, mk)) := Lib.hid (by simp only [spreadF]; rw [if_pos hq])
  have HS := Lib.hid hs
  have HM := Lib.hid hm
  have hb := At.lt hm
  have d0 : (W.alloc (.cells #[.int .i64 q, .int .i64 f] 72)).cell? ⟨b, q, none⟩ = some (.int .i64 k) := by rw [World.cell?_alloc_past _ _ _ hb]; exact c0
  clear hs hm hq
  rw [HE.out]
  unfold ptr
  go_enter Try.func40, Try.ntmps40
  go_wp2_with fail
  go_ret
  exact SpreadPost.mk' (HS.out.alloc _) (At.alloc HM.out _) ((Fr.refl _).alloc _) (.inl rfl)

theorem Marks.lt {W : World} {b : Nat} {mk : List Nat} (h : Marks W b mk) : b < W.heap.size := At.lt h
theorem Marks.cell {W : World} {b : Nat} {mk : List Nat} (h : Marks W b mk) {q x : Nat} (hq : mk[q]? = some x) : W.cell? ⟨b, q, none⟩ = some (.int .i64 x) := by
  rw [At.cell h q]
  simp [hq, intV]
theorem Marks.set {W : World} {b : Nat} {mk : List Nat} (h : Marks W b mk) (q k : Nat) : Marks (W.setCell ⟨b, q, none⟩ (.int .i64 k)) b (mk.set q k) := by
  have := At.set h q (.int .i64 k)
  unfold Marks
  rw [List.map_set]
  have e : ((mk.map intV).set q (intV k)).toArray = (mk.map intV).toArray.setIfInBounds q (.int .i64 k) := by
    apply Array.toList_inj.1
    simp [intV]
  rw [e]; exact this
/-- What a walk reads of a machine's state. -/
theorem Mach.read {B : Nat} {Z : Nat → Prop} {m : Nat} {st : Int} {M : List St} {W : World} (h : Mach B Z m st M W) {q : Nat} {s : St} (hq : M[q]? = some s) : ∃ g cap fv nv, W.cell? ⟨m, 0, none⟩ = some (.slice (some ⟨g, 0, none⟩) M.length cap) ∧ W.cell? ⟨g, q * 2, none⟩ = some fv ∧ W.cell? ⟨g, q * 2 + 1, none⟩ = some nv ∧ IsSt Z W s fv nv ∧ m < W.heap.size ∧ g < W.heap.size ∧ M.length ≤ cap := by
  obtain ⟨sv, xs, hat, hown, hism, _⟩ := h
  have hlt : q < M.length := (List.getElem?_eq_some_iff.1 hq).1
  have hsv : ∃ g cap, sv = .slice (some ⟨g, 0, none⟩) M.length cap ∧ M.length ≤ cap := by
    rcases hown.2 with ⟨_, h0⟩ | ⟨g, cap, cur, rfl, _, _, hc, _⟩
    · omega
    · exact ⟨g, cap, rfl, hc⟩
  obtain ⟨g, cap, rfl, hcap⟩ := hsv
  obtain ⟨fv, nv, h1, h2, h3⟩ := hism.get hq
  obtain ⟨C, hC⟩ := owns_type hown (g := g) rfl
  exact ⟨g, cap, fv, nv, hat.cell 0, owns_cell hown rfl h1, owns_cell hown rfl h2, h3, hat.lt, hC.lt, hcap⟩

theorem fn_ne (fk : FuncId) (fb : Value) (w : World) : (binOp .neq 57 (.func (.func fk) #[] #[fb]) .nilFunc).run Try.prog w = .ok (.bool true) w := by kernel_rfl
theorem fn_eq (w : World) : (binOp .neq 57 .nilFunc .nilFunc).run Try.prog w = .ok (.bool false) w := by kernel_rfl
theorem th_one (q f : Nat) : ∀ u ∈ [Value.int .i64 q, Value.int .i64 f], u.oneCell' = true := by
  intro u hu
  simp at hu
  rcases hu with rfl | rfl <;> rfl
theorem len_smallT {n : Nat} (h : n ≤ 100000) : n + 1 ≤ maxLen := by unfold maxLen; omega
theorem len_bytesT {n : Nat} (h : n ≤ 100000) : (n + 1) * 16 ≤ 140737488355328 := by omega
theorem spread_app {W w3 w4 : World} {b q f : Nat} {sv sv' : Value} {ts : List Th} {mk : List Nat} {o : Obj} (hf : FrS b sv W w3) (hs : Ths w3 sv ts) (hm : Marks w3 b mk)
    (hown : w4.ownsRow 0 72 2 sv' (ts.length + 1) (thc ts ++ [.int .i64 q, .int .i64 f])) (hg : ((w3.alloc o).drew).grownBy w4 sv.ownBlock) (hw : sv'.ownBlock = sv.ownBlock ∨ sv'.ownBlock = some (w3.heap.size + 1)) : SpreadPost b sv W (ts ++ [(q, f)], mk) (.returned sv') w4 := by
  refine SpreadPost.mk' ?_ ((At.alloc hm _).drew.grown hg (owns_ne hs hm (by decide))) ((hf.alloc o).drew.grown hg fun b' hb' => .inl (.inr hb')) ?_
  · unfold Ths
    rw [thc_app, List.length_append]
    exact hown
  · rcases hw with h | h
    · exact .inl h
    · right
      intro g hg'
      rw [h] at hg'
      injection hg' with hg'
      have := hf.size
      omega
/-- What holds behind the first part of spread: the state is marked, and lies in a variable of its own. -/
structure Sp (B : Nat) (Z : Nat → Prop) (m b : Nat) (st : Int) (M : List St) (sv : Value) (ts : List Th) (mk : List Nat) (W w3 : World) : Prop where
  mach : Mach B Z m st M w3
  ths : Ths w3 sv ts
  marks : Marks w3 b mk
  fr : FrS b sv W w3

set_option maxRecDepth 100000 in
set_option maxHeartbeats 2000000 in
theorem spread_rd (n : Nat) (B : Nat) (Z : Nat → Prop) (W : World) (m b : Nat) (st : Int) (M : List St) (sv : Value) (ts : List Th) (mk : List Nat) (q f k : Nat) (hM : Mach B Z m st M W) (hs : Ths W sv ts) (hm : Marks W b mk) (hz : ¬ Z b) (hlen : mk.length = M.length) (hq : q < M.length) (_hMl : M.length ≤ 9000) (hts : ts.length ≤ 100000)
    (hnq : mk[q]? ≠ some k) (g : UInt8 → Bool) (q' : Nat) (hst : M[q]? = some (.rd g q')) :
    Calls Try.prog 40 #[ptr m, sv, .slice (some ⟨b, 0, none⟩) mk.length mk.length, .agg #[.int .i64 q, .int .i64 f], .int .i64 k] W (SpreadPost b sv W (spreadF M (n + 1) ts mk q f k)) := by
  have HE : Hid (spreadF M (n + 1) ts mk q f k = (ts ++ [(q, f)], mk.set q k)) := Lib.hid (by simp only [spreadF]; rw [if_neg hnq, hst])
  rw [HE.out]
  obtain ⟨i0, hi, hz0, hz1, hz2⟩ := info_parts info_thread
  have HI := Lib.hid hi
  have HZ0 := Lib.hid hz0
  have HZ1 := Lib.hid hz1
  have HZ2 := Lib.hid hz2
  clear hi hz0 hz1 hz2
  obtain ⟨sa, sn, sc, rfl⟩ := owns_slice hs
  have hqm : q < mk.length := by omega
  obtain ⟨x, hx⟩ : ∃ x, mk[q]? = some x := ⟨_, List.getElem?_eq_getElem hqm⟩
  have d1 : ((x : Int) == (k : Int)) = false := by
    rw [beq_eq_false_iff_ne]
    intro e
    exact hnq (by rw [hx]; congr 1; omega)
  have hbl := hm.lt
  have d0 : (W.alloc (.cells #[.int .i64 q, .int .i64 f] 72)).cell? ⟨b, q, none⟩ = some (.int .i64 x) := by rw [World.cell?_alloc_past _ _ _ hbl]; exact hm.cell hx
  have df : (W.alloc (.cells #[.int .i64 q, .int .i64 f] 72)).frozen? ⟨b, q, none⟩ = false := (At.alloc hm _).free q
  have hb2 : FrS b (.slice sa sn sc) W ((W.alloc (.cells #[.int .i64 q, .int .i64 f] 72)).setCell ⟨b, q, none⟩ (.int .i64 k)) := ((Fr.refl W).alloc _).set b q _ (.inl (.inl rfl))
  have hx2 := XS.no hm hs hz
  have hM2 : Mach B Z m st M ((W.alloc (.cells #[.int .i64 q, .int .i64 f] 72)).setCell ⟨b, q, none⟩ (.int .i64 k)) := hM.frS hb2 hx2
  have hmk2 : Marks ((W.alloc (.cells #[.int .i64 q, .int .i64 f] 72)).setCell ⟨b, q, none⟩ (.int .i64 k)) b (mk.set q k) := Marks.set (At.alloc hm _) q k
  have htb2 : At ((W.alloc (.cells #[.int .i64 q, .int .i64 f] 72)).setCell ⟨b, q, none⟩ (.int .i64 k)) W.heap.size #[.int .i64 q, .int .i64 f] 72 := (At.new _ _ _).other _ (by show W.heap.size ≠ b; omega)
  have hs2 : Ths ((W.alloc (.cells #[.int .i64 q, .int .i64 f] 72)).setCell ⟨b, q, none⟩ (.int .i64 k)) (.slice sa sn sc) ts := owns_same (S := fun k => k < W.heap.size ∧ k ≠ b) hs (fun g hg => by
    obtain ⟨C, hC⟩ := owns_type hs hg
    exact ⟨hC.lt, fun e => owns_ne hs hm (by decide) (by rw [hg, e])⟩) (fun j hj => by rw [Below.heap_setCell _ ⟨b, q, none⟩ _ j hj.2, Below.heap_alloc _ _ _ hj.1])
  have HB2 := Lib.hid hb2
  have HX2 := Lib.hid hx2
  clear hb2 hx2 hx hnq HE hM hm hs hz hbl
  unfold ptr
  go_enter Try.func40, Try.ntmps40
  go_wp2_with fail
  generalize ((W.alloc (.cells #[.int .i64 q, .int .i64 f] 72)).setCell ⟨b, q, none⟩ (.int .i64 k)) = w2 at *
  clear d0 df
  obtain ⟨g0, cap, fv, nv, m0, m1, m2, hsx, hml, hgl, hcap⟩ := hM2.read hst
  have t0 : w2.cell? ⟨W.heap.size, 0, none⟩ = some (.int .i64 q) := htb2.cell 0
  have t1 : w2.cell? ⟨W.heap.size, 1, none⟩ = some (.int .i64 f) := htb2.cell 1
  obtain ⟨na, nn, nc, rfl, hfv⟩ := hsx.shape
  have hfv2 : ∃ fk fb, fv = .func (.func fk) #[] #[fb] := by
    rcases hfv with h | h
    · subst h
      rcases hsx.1 with ⟨_, _, e, _⟩ | ⟨_, _, e, _⟩ <;> cases e
    · exact h
  obtain ⟨fk, fb, rfl⟩ := hfv2
  have m0a : (w2.alloc (.cells #[.nilFunc, .slice none 0 0] 74)).cell? ⟨m, 0, none⟩ = some (.slice (some ⟨g0, 0, none⟩) M.length cap) := by rw [World.cell?_alloc_past _ _ _ hml]; exact m0
  have m1a : (w2.alloc (.cells #[.nilFunc, .slice none 0 0] 74)).cell? ⟨g0, q * 2, none⟩ = some (.func (.func fk) #[] #[fb]) := by rw [World.cell?_alloc_past _ _ _ hgl]; exact m1
  have m2a : (w2.alloc (.cells #[.nilFunc, .slice none 0 0] 74)).cell? ⟨g0, q * 2 + 1, none⟩ = some (.slice na nn nc) := by rw [World.cell?_alloc_past _ _ _ hgl]; exact m2
  have t0a : (w2.alloc (.cells #[.nilFunc, .slice none 0 0] 74)).cell? ⟨W.heap.size, 0, none⟩ = some (.int .i64 q) := by rw [World.cell?_alloc_past _ _ _ htb2.lt]; exact t0
  have hqi : (q : Int) < (M.length : Int) := by omega
  go_region
  have hfe := fn_ne fk fb
  have hb3 : Below w2.heap.size w2 (w2.alloc (.cells #[.func (.func fk) #[] #[fb], .slice na nn nc] 74)) := (Below.refl _ _).alloc (Nat.le_refl _) _
  have hs3 : Ths (w2.alloc (.cells #[.func (.func fk) #[] #[fb], .slice na nn nc] 74)) (.slice sa sn sc) ts := hs2.alloc _
  have hm3 : Marks (w2.alloc (.cells #[.func (.func fk) #[] #[fb], .slice na nn nc] 74)) b (mk.set q k) := At.alloc hmk2 _
  have htb3 : At (w2.alloc (.cells #[.func (.func fk) #[] #[fb], .slice na nn nc] 74)) W.heap.size #[.int .i64 q, .int .i64 f] 72 := htb2.alloc _
  have hsb3 : At (w2.alloc (.cells #[.func (.func fk) #[] #[fb], .slice na nn nc] 74)) w2.heap.size #[.func (.func fk) #[] #[fb], .slice na nn nc] 74 := At.new _ _ _
  have hf3 := HB2.out.alloc (.cells #[.func (.func fk) #[] #[fb], .slice na nn nc] 74)
  have HS2 := Lib.hid hs2
  have HT2 := Lib.hid hts
  clear m0 m1 m2 m0a m1a m2a t0 t1 t0a hs2 hmk2 htb2 hM2 hml hgl hsx hfv hb3 hts
  have HF3 := Lib.hid hf3
  have HS3 := Lib.hid hs3
  have HM3 := Lib.hid hm3
  clear hf3 hs3 hm3
  generalize (w2.alloc (.cells #[.func (.func fk) #[] #[fb], .slice na nn nc] 74)) = w3 at *
  have t0 : w3.cell? ⟨W.heap.size, 0, none⟩ = some (.int .i64 q) := htb3.cell 0
  have t1 : w3.cell? ⟨W.heap.size, 1, none⟩ = some (.int .i64 f) := htb3.cell 1
  have s0 : w3.cell? ⟨w2.heap.size, 0, none⟩ = some (.func (.func fk) #[] #[fb]) := hsb3.cell 0
  clear htb3 hsb3
  go_wp2_with (at_builtin; (refine wpList_append_where _ rfl (.tmp 43) (.tmp 45) 69 rfl 72 i0 _ 2 16 Try.underlying69 HI.out HZ0.out HZ1.out HZ2.out rfl (by decide) (.slice sa sn sc) ts.length (thc ts) rfl (HS3.out.alloc _) ⟨w3.heap.size, 0, none⟩ 1 1 [.int .i64 q, .int .i64 f] rfl (by decide) rfl (World.news_of_block (cs := #[.int .i64 q, .int .i64 f]) (t := 72) (fr := (0, 0)) (heap_alloc_new _ _)) (th_one _ _) (len_smallT HT2.out) (len_bytesT HT2.out) ?_))
  intro sv' w4 hown hgrow hwhere
  have HPO := Lib.hid (spread_app HF3.out HS3.out HM3.out hown hgrow (by simpa using hwhere))
  clear hown hgrow hwhere
  go_wp2_with fail
  go_ret
  exact HPO.out
end Go.Proofs.Ytheblleadjbndaa

namespace Go.Proofs.Ytheblleadjbndaa
open Go.RowKit Rx

set_option maxRecDepth 100000 in
set_option maxHeartbeats 2000000 in
theorem spread_zero (n : Nat) (B : Nat) (Z : Nat → Prop) (W : World) (m b : Nat) (st : Int) (M : List St) (sv : Value) (ts : List Th) (mk : List Nat) (q f k : Nat) (hM : Mach B Z m st M W) (hs : Ths W sv ts) (hm : Marks W b mk) (hz : ¬ Z b) (hlen : mk.length = M.length) (hq : q < M.length) (_hMl : M.length ≤ 9000) (hts : ts.length ≤ 100000)
    (hnq : mk[q]? ≠ some k) (qs : List Nat) (hst : M[q]? = some (.ep qs)) (hq0 : q = 0) :
    Calls Try.prog 40 #[ptr m, sv, .slice (some ⟨b, 0, none⟩) mk.length mk.length, .agg #[.int .i64 q, .int .i64 f], .int .i64 k] W (SpreadPost b sv W (spreadF M (n + 1) ts mk q f k)) := by
  have HE : Hid (spreadF M (n + 1) ts mk q f k = (ts ++ [(q, f)], mk.set q k)) := Lib.hid (by simp only [spreadF]; rw [if_neg hnq, hst]; simp only; rw [if_pos hq0])
  rw [HE.out]
  have HQ0 := Lib.hid hq0
  clear hq0
  obtain ⟨i0, hi, hz0, hz1, hz2⟩ := info_parts info_thread
  have HI := Lib.hid hi
  have HZ0 := Lib.hid hz0
  have HZ1 := Lib.hid hz1
  have HZ2 := Lib.hid hz2
  clear hi hz0 hz1 hz2
  obtain ⟨sa, sn, sc, rfl⟩ := owns_slice hs
  have hqm : q < mk.length := by omega
  obtain ⟨x, hx⟩ : ∃ x, mk[q]? = some x := ⟨_, List.getElem?_eq_getElem hqm⟩
  have d1 : ((x : Int) == (k : Int)) = false := by
    rw [beq_eq_false_iff_ne]
    intro e
    exact hnq (by rw [hx]; congr 1; omega)
  have hbl := hm.lt
  have d0 : (W.alloc (.cells #[.int .i64 q, .int .i64 f] 72)).cell? ⟨b, q, none⟩ = some (.int .i64 x) := by rw [World.cell?_alloc_past _ _ _ hbl]; exact hm.cell hx
  have df : (W.alloc (.cells #[.int .i64 q, .int .i64 f] 72)).frozen? ⟨b, q, none⟩ = false := (At.alloc hm _).free q
  have hb2 : FrS b (.slice sa sn sc) W ((W.alloc (.cells #[.int .i64 q, .int .i64 f] 72)).setCell ⟨b, q, none⟩ (.int .i64 k)) := ((Fr.refl W).alloc _).set b q _ (.inl (.inl rfl))
  have hx2 := XS.no hm hs hz
  have hM2 : Mach B Z m st M ((W.alloc (.cells #[.int .i64 q, .int .i64 f] 72)).setCell ⟨b, q, none⟩ (.int .i64 k)) := hM.frS hb2 hx2
  have hmk2 : Marks ((W.alloc (.cells #[.int .i64 q, .int .i64 f] 72)).setCell ⟨b, q, none⟩ (.int .i64 k)) b (mk.set q k) := Marks.set (At.alloc hm _) q k
  have htb2 : At ((W.alloc (.cells #[.int .i64 q, .int .i64 f] 72)).setCell ⟨b, q, none⟩ (.int .i64 k)) W.heap.size #[.int .i64 q, .int .i64 f] 72 := (At.new _ _ _).other _ (by show W.heap.size ≠ b; omega)
  have hs2 : Ths ((W.alloc (.cells #[.int .i64 q, .int .i64 f] 72)).setCell ⟨b, q, none⟩ (.int .i64 k)) (.slice sa sn sc) ts := owns_same (S := fun k => k < W.heap.size ∧ k ≠ b) hs (fun g hg => by
    obtain ⟨C, hC⟩ := owns_type hs hg
    exact ⟨hC.lt, fun e => owns_ne hs hm (by decide) (by rw [hg, e])⟩) (fun j hj => by rw [Below.heap_setCell _ ⟨b, q, none⟩ _ j hj.2, Below.heap_alloc _ _ _ hj.1])
  have HB2 := Lib.hid hb2
  have HX2 := Lib.hid hx2
  clear hb2 hx2 hx hnq HE hM hm hs hz hbl
  unfold ptr
  go_enter Try.func40, Try.ntmps40
  go_wp2_with fail
  generalize ((W.alloc (.cells #[.int .i64 q, .int .i64 f] 72)).setCell ⟨b, q, none⟩ (.int .i64 k)) = w2 at *
  clear d0 df
  obtain ⟨g0, cap, fv, nv, m0, m1, m2, hsx, hml, hgl, hcap⟩ := hM2.read hst
  have t0 : w2.cell? ⟨W.heap.size, 0, none⟩ = some (.int .i64 q) := htb2.cell 0
  have t1 : w2.cell? ⟨W.heap.size, 1, none⟩ = some (.int .i64 f) := htb2.cell 1
  obtain ⟨na, nn, nc, rfl, hfv⟩ := hsx.shape
  have hfv2 : fv = .nilFunc := hsx.1
  subst hfv2
  have e0 : ((q : Int) == 0) = true := by rw [HQ0.out]; rfl
  have m0a : (w2.alloc (.cells #[.nilFunc, .slice none 0 0] 74)).cell? ⟨m, 0, none⟩ = some (.slice (some ⟨g0, 0, none⟩) M.length cap) := by rw [World.cell?_alloc_past _ _ _ hml]; exact m0
  have m1a : (w2.alloc (.cells #[.nilFunc, .slice none 0 0] 74)).cell? ⟨g0, q * 2, none⟩ = some .nilFunc := by rw [World.cell?_alloc_past _ _ _ hgl]; exact m1
  have m2a : (w2.alloc (.cells #[.nilFunc, .slice none 0 0] 74)).cell? ⟨g0, q * 2 + 1, none⟩ = some (.slice na nn nc) := by rw [World.cell?_alloc_past _ _ _ hgl]; exact m2
  have t0a : (w2.alloc (.cells #[.nilFunc, .slice none 0 0] 74)).cell? ⟨W.heap.size, 0, none⟩ = some (.int .i64 q) := by rw [World.cell?_alloc_past _ _ _ htb2.lt]; exact t0
  have hqi : (q : Int) < (M.length : Int) := by omega
  go_region
  have hfe := fn_eq
  have hb3 : Below w2.heap.size w2 (w2.alloc (.cells #[.nilFunc, .slice na nn nc] 74)) := (Below.refl _ _).alloc (Nat.le_refl _) _
  have hs3 : Ths (w2.alloc (.cells #[.nilFunc, .slice na nn nc] 74)) (.slice sa sn sc) ts := hs2.alloc _
  have hm3 : Marks (w2.alloc (.cells #[.nilFunc, .slice na nn nc] 74)) b (mk.set q k) := At.alloc hmk2 _
  have htb3 : At (w2.alloc (.cells #[.nilFunc, .slice na nn nc] 74)) W.heap.size #[.int .i64 q, .int .i64 f] 72 := htb2.alloc _
  have hsb3 : At (w2.alloc (.cells #[.nilFunc, .slice na nn nc] 74)) w2.heap.size #[.nilFunc, .slice na nn nc] 74 := At.new _ _ _
  have hf3 := HB2.out.alloc (.cells #[.nilFunc, .slice na nn nc] 74)
  have HS2 := Lib.hid hs2
  have HT2 := Lib.hid hts
  clear m0 m1 m2 m0a m1a m2a t0 t1 t0a hs2 hmk2 htb2 hM2 hml hgl hsx hfv hb3 hts
  have HF3 := Lib.hid hf3
  have HS3 := Lib.hid hs3
  have HM3 := Lib.hid hm3
  clear hf3 hs3 hm3
  generalize (w2.alloc (.cells #[.nilFunc, .slice na nn nc] 74)) = w3 at *
  have t0 : w3.cell? ⟨W.heap.size, 0, none⟩ = some (.int .i64 q) := htb3.cell 0
  have t1 : w3.cell? ⟨W.heap.size, 1, none⟩ = some (.int .i64 f) := htb3.cell 1
  have s0 : w3.cell? ⟨w2.heap.size, 0, none⟩ = some .nilFunc := hsb3.cell 0
  clear htb3 hsb3
  go_wp2_with (at_builtin; (refine wpList_append_where _ rfl (.tmp 43) (.tmp 45) 69 rfl 72 i0 _ 2 16 Try.underlying69 HI.out HZ0.out HZ1.out HZ2.out rfl (by decide) (.slice sa sn sc) ts.length (thc ts) rfl (HS3.out.alloc _) ⟨w3.heap.size, 0, none⟩ 1 1 [.int .i64 q, .int .i64 f] rfl (by decide) rfl (World.news_of_block (cs := #[.int .i64 q, .int .i64 f]) (t := 72) (fr := (0, 0)) (heap_alloc_new _ _)) (th_one _ _) (len_smallT HT2.out) (len_bytesT HT2.out) ?_))
  intro sv' w4 hown hgrow hwhere
  have HPO := Lib.hid (spread_app HF3.out HS3.out HM3.out hown hgrow (by simpa using hwhere))
  clear hown hgrow hwhere
  go_wp2_with fail
  go_ret
  exact HPO.out

/-- What the loop over the next states has in memory. -/
structure SpIn (B : Nat) (Z : Nat → Prop) (m b : Nat) (st : Int) (M : List St) (sv : Value) (W w3 : World) (tb q f : Nat) (nv : Value) (qs : List Nat) (r : List Th × List Nat) (svj : Value) (wr : World) : Prop where
  ths : Ths wr svj r.1
  marks : Marks wr b r.2
  fr : FrS b sv W wr
  own : svj.ownBlock = sv.ownBlock ∨ ∀ g, svj.ownBlock = some g → w3.heap.size ≤ g
  mach : Mach B Z m st M wr
  box : At wr tb #[.int .i64 q, .int .i64 f] 72
  ints : Ints wr nv qs
  size : w3.heap.size ≤ wr.heap.size
theorem SpIn.step {B : Nat} {Z : Nat → Prop} {m b : Nat} {st : Int} {M : List St} {sv : Value} {W w3 : World} {tb q f : Nat} {nv : Value} {qs : List Nat} {r r' : List Th × List Nat} {svj sv' : Value} {wr w' : World} {ts : List Th} (h : SpIn B Z m b st M sv W w3 tb q f nv qs r svj wr)
    (hz : ¬ Z b) (ho : Own Z nv) (hsv : Ths W sv ts) (htb : tb = W.heap.size) (h3 : W.heap.size < w3.heap.size)
    (h1 : Ths w' sv' r'.1) (h2 : Marks w' b r'.2) (hf : FrS b svj wr w') (hw : sv'.ownBlock = svj.ownBlock ∨ ∀ g, sv'.ownBlock = some g → wr.heap.size ≤ g) : SpIn B Z m b st M sv W w3 tb q f nv qs r' sv' w' := by
  have hsvlt : ∀ g, sv.ownBlock = some g → g < W.heap.size := fun g hg => by
    obtain ⟨C, hC⟩ := owns_type hsv hg
    exact hC.lt
  refine ⟨h1, h2, ⟨hf.os.trans h.fr.os, hf.tape.trans h.fr.tape, hf.output.trans h.fr.output, Nat.le_trans h.fr.size hf.size, fun k hk hx ht => ?_⟩, ?_, h.mach.frS hf (XS.no h.marks h.ths hz), ?_, ?_, Nat.le_trans h.size hf.size⟩
  · have e := h.fr.block k hk hx ht
    rw [hf.block k (Nat.lt_of_lt_of_le hk h.fr.size) ?_ (fun _ _ _ _ _ => rfl)]
    · exact e
    · intro hx2
      rcases hx2 with hx2 | hx2
      · exact hx (.inl hx2)
      · rcases h.own with h4 | h4
        · exact hx (.inr (by rw [← h4]; exact hx2))
        · have := h4 k hx2
          omega
  · rcases hw with h4 | h4
    · rcases h.own with h5 | h5
      · exact .inl (h4.trans h5)
      · exact .inr fun g hg => h5 g (by rw [← h4]; exact hg)
    · exact .inr fun g hg => Nat.le_trans h.size (h4 g hg)
  · refine h.box.fr hf (fun hx => ?_) rfl
    rcases hx with hx | hx
    · have e1 := h.box.out
      rw [hx] at e1
      have e2 := At.out h.marks
      rw [e1] at e2
      injection e2 with e2
      injection e2 with _ e2
      exact absurd e2 (by decide)
    · rcases h.own with h4 | h4
      · have := hsvlt tb (by rw [← h4]; exact hx); omega
      · have := h4 tb hx; omega
  · refine owns_fr h.ints hf (fun g hg hx => ?_) rfl
    rcases hx with hx | hx
    · exact hz (by rw [← hx]; exact ho g hg)
    · obtain ⟨C, hC⟩ := owns_type h.ints hg
      obtain ⟨C2, hC2⟩ := owns_type h.ths hx
      have e1 := hC.out
      rw [hC2.out] at e1
      injection e1 with e1
      injection e1 with _ e1
      exact absurd e1 (by decide)

set_option maxRecDepth 100000 in
set_option maxHeartbeats 2000000 in
theorem spread_ep (n : Nat) (B : Nat) (Z : Nat → Prop) (W : World) (m b : Nat) (st : Int) (M : List St) (sv : Value) (ts : List Th) (mk : List Nat) (q f k : Nat) (hM : Mach B Z m st M W) (hs : Ths W sv ts) (hm : Marks W b mk) (hz : ¬ Z b) (hlen : mk.length = M.length) (hq : q < M.length) (_hMl : M.length ≤ 9000) (hts : ts.length ≤ 100000)
    (hnq : mk[q]? ≠ some k) (qs : List Nat) (hst : M[q]? = some (.ep qs)) (hq0 : ¬ q = 0) (hOk : Ok M) (hfree : free k mk < n + 1) (htf : ts.length + free k mk ≤ 100000) (hfb : f ≤ 100000) (hkb : k ≤ 100000) (IH : SpreadOK n) :
    Calls Try.prog 40 #[ptr m, sv, .slice (some ⟨b, 0, none⟩) mk.length mk.length, .agg #[.int .i64 q, .int .i64 f], .int .i64 k] W (SpreadPost b sv W (spreadF M (n + 1) ts mk q f k)) := by
  have HE : Hid (spreadF M (n + 1) ts mk q f k = qs.foldl (fun r p => spreadF M n r.1 r.2 p f k) (ts, mk.set q k)) := Lib.hid (by simp only [spreadF]; rw [if_neg hnq, hst]; simp only; rw [if_neg hq0])
  rw [HE.out]
  obtain ⟨i0, hi, hz0, hz1, hz2⟩ := info_parts info_thread
  have HI := Lib.hid hi
  have HZ0 := Lib.hid hz0
  have HZ1 := Lib.hid hz1
  have HZ2 := Lib.hid hz2
  clear hi hz0 hz1 hz2
  obtain ⟨sa, sn, sc, rfl⟩ := owns_slice hs
  have hqm : q < mk.length := by omega
  have HL0 := Lib.hid hlen
  have HSV := Lib.hid hs
  have HZB := Lib.hid hz
  have hfs := free_set hqm hnq
  have hqs : ∀ p ∈ qs, p < M.length := hOk q _ hst
  have HQS := Lib.hid hqs
  clear hqs
  obtain ⟨x, hx⟩ : ∃ x, mk[q]? = some x := ⟨_, List.getElem?_eq_getElem hqm⟩
  have d1 : ((x : Int) == (k : Int)) = false := by
    rw [beq_eq_false_iff_ne]
    intro e
    exact hnq (by rw [hx]; congr 1; omega)
  have hbl := hm.lt
  have d0 : (W.alloc (.cells #[.int .i64 q, .int .i64 f] 72)).cell? ⟨b, q, none⟩ = some (.int .i64 x) := by rw [World.cell?_alloc_past _ _ _ hbl]; exact hm.cell hx
  have df : (W.alloc (.cells #[.int .i64 q, .int .i64 f] 72)).frozen? ⟨b, q, none⟩ = false := (At.alloc hm _).free q
  have hb2 : FrS b (.slice sa sn sc) W ((W.alloc (.cells #[.int .i64 q, .int .i64 f] 72)).setCell ⟨b, q, none⟩ (.int .i64 k)) := ((Fr.refl W).alloc _).set b q _ (.inl (.inl rfl))
  have hx2 := XS.no hm hs hz
  have hM2 : Mach B Z m st M ((W.alloc (.cells #[.int .i64 q, .int .i64 f] 72)).setCell ⟨b, q, none⟩ (.int .i64 k)) := hM.frS hb2 hx2
  have hmk2 : Marks ((W.alloc (.cells #[.int .i64 q, .int .i64 f] 72)).setCell ⟨b, q, none⟩ (.int .i64 k)) b (mk.set q k) := Marks.set (At.alloc hm _) q k
  have htb2 : At ((W.alloc (.cells #[.int .i64 q, .int .i64 f] 72)).setCell ⟨b, q, none⟩ (.int .i64 k)) W.heap.size #[.int .i64 q, .int .i64 f] 72 := (At.new _ _ _).other _ (by show W.heap.size ≠ b; omega)
  have hs2 : Ths ((W.alloc (.cells #[.int .i64 q, .int .i64 f] 72)).setCell ⟨b, q, none⟩ (.int .i64 k)) (.slice sa sn sc) ts := owns_same (S := fun k => k < W.heap.size ∧ k ≠ b) hs (fun g hg => by
    obtain ⟨C, hC⟩ := owns_type hs hg
    exact ⟨hC.lt, fun e => owns_ne hs hm (by decide) (by rw [hg, e])⟩) (fun j hj => by rw [Below.heap_setCell _ ⟨b, q, none⟩ _ j hj.2, Below.heap_alloc _ _ _ hj.1])
  have HB2 := Lib.hid hb2
  have HX2 := Lib.hid hx2
  clear hlen hb2 hx2 hx hnq HE hM hm hs hz hbl
  unfold ptr
  go_enter Try.func40, Try.ntmps40
  go_wp2_with fail
  generalize ((W.alloc (.cells #[.int .i64 q, .int .i64 f] 72)).setCell ⟨b, q, none⟩ (.int .i64 k)) = w2 at *
  clear d0 df
  obtain ⟨g0, cap, fv, nv, m0, m1, m2, hsx, hml, hgl, hcap⟩ := hM2.read hst
  have t0 : w2.cell? ⟨W.heap.size, 0, none⟩ = some (.int .i64 q) := htb2.cell 0
  have t1 : w2.cell? ⟨W.heap.size, 1, none⟩ = some (.int .i64 f) := htb2.cell 1
  obtain ⟨na, nn, nc, rfl, hfv⟩ := hsx.shape
  have hfv2 : fv = .nilFunc := hsx.1
  subst hfv2
  have e0 : ((q : Int) == 0) = false := by rw [beq_eq_false_iff_ne]; omega
  have m0a : (w2.alloc (.cells #[.nilFunc, .slice none 0 0] 74)).cell? ⟨m, 0, none⟩ = some (.slice (some ⟨g0, 0, none⟩) M.length cap) := by rw [World.cell?_alloc_past _ _ _ hml]; exact m0
  have m1a : (w2.alloc (.cells #[.nilFunc, .slice none 0 0] 74)).cell? ⟨g0, q * 2, none⟩ = some .nilFunc := by rw [World.cell?_alloc_past _ _ _ hgl]; exact m1
  have m2a : (w2.alloc (.cells #[.nilFunc, .slice none 0 0] 74)).cell? ⟨g0, q * 2 + 1, none⟩ = some (.slice na nn nc) := by rw [World.cell?_alloc_past _ _ _ hgl]; exact m2
  have t0a : (w2.alloc (.cells #[.nilFunc, .slice none 0 0] 74)).cell? ⟨W.heap.size, 0, none⟩ = some (.int .i64 q) := by rw [World.cell?_alloc_past _ _ _ htb2.lt]; exact t0
  have hqi : (q : Int) < (M.length : Int) := by omega
  go_region
  have hfe := fn_eq
  have hb3 : Below w2.heap.size w2 (w2.alloc (.cells #[.nilFunc, .slice na nn nc] 74)) := (Below.refl _ _).alloc (Nat.le_refl _) _
  have hs3 : Ths (w2.alloc (.cells #[.nilFunc, .slice na nn nc] 74)) (.slice sa sn sc) ts := hs2.alloc _
  have hm3 : Marks (w2.alloc (.cells #[.nilFunc, .slice na nn nc] 74)) b (mk.set q k) := At.alloc hmk2 _
  have htb3 : At (w2.alloc (.cells #[.nilFunc, .slice na nn nc] 74)) W.heap.size #[.int .i64 q, .int .i64 f] 72 := htb2.alloc _
  have hsb3 : At (w2.alloc (.cells #[.nilFunc, .slice na nn nc] 74)) w2.heap.size #[.nilFunc, .slice na nn nc] 74 := At.new _ _ _
  have hf3 := HB2.out.alloc (.cells #[.nilFunc, .slice na nn nc] 74)
  have HSX := Lib.hid (hsx.frM (B := 0) (Fr.below hb3))
  have HMA3 := Lib.hid (hM2.frM hb3)
  clear hsx hM2
  have HS2 := Lib.hid hs2
  have HT2 := Lib.hid hts
  clear m0 m1 m2 m0a m1a m2a t0 t1 t0a hs2 hmk2 htb2 hml hgl hfv hb3 hts
  have HF3 := Lib.hid hf3
  have HS3 := Lib.hid hs3
  have HM3 := Lib.hid hm3
  clear hf3 hs3 hm3
  generalize (w2.alloc (.cells #[.nilFunc, .slice na nn nc] 74)) = w3 at *
  have t0 : w3.cell? ⟨W.heap.size, 0, none⟩ = some (.int .i64 q) := htb3.cell 0
  have t1 : w3.cell? ⟨W.heap.size, 1, none⟩ = some (.int .i64 f) := htb3.cell 1
  have s0 : w3.cell? ⟨w2.heap.size, 0, none⟩ = some .nilFunc := hsb3.cell 0
  have s1 : w3.cell? ⟨w2.heap.size, 1, none⟩ = some (.slice na nn nc) := hsb3.cell 1
  have HT3 := Lib.hid htb3
  have hnn : nn = qs.length := by
    rcases HSX.out.2.1.2 with ⟨e, h0⟩ | ⟨g, cap, cur, e, _⟩
    · injection e with _ e _; omega
    · injection e with _ e _
  subst hnn
  have hql : qs.length ≤ 9223372036854775807 := by
    rcases HSX.out.2.1.2 with ⟨_, h0⟩ | ⟨g, cap, cur, _, _, _, h1, h2, _⟩
    · omega
    · unfold maxLen at h2; omega
  clear htb3 hsb3
  have hin : SpIn B Z m b st M (.slice sa sn sc) W w3 W.heap.size q f (.slice na qs.length nc) qs (ts, mk.set q k) (.slice sa sn sc) w3 := ⟨HS3.out, HM3.out, HF3.out, .inl rfl, HMA3.out, HT3.out, HSX.out.2.1, Nat.le_refl _⟩
  have HIN := Lib.hid hin
  have hw3 : W.heap.size < w3.heap.size := HT3.out.lt
  clear hin
  go_wp2_with fail
  go_loopw [1, 50] (fun svj i wr => ∃ j : Nat, j ≤ qs.length ∧ i = .int .i64 j ∧ SpIn B Z m b st M (.slice sa sn sc) W w3 W.heap.size q f (.slice na qs.length nc) qs ((qs.take j).foldl (fun r p => spreadF M n r.1 r.2 p f k) (ts, mk.set q k)) svj wr) (fun _ i _ => qs.length - (intOf i).toNat)
  case atStart => exact ⟨0, Nat.zero_le _, rfl, by have h := HIN.out; exact ⟨h.ths, At.drew h.marks, h.fr.drew, h.own, h.mach.frM (Below.refl _ _).drew, h.box.drew, h.ints, h.size⟩⟩
  case round =>
    obtain ⟨j, hj, rfl, hin⟩ := hrel
    obtain ⟨ja, jn, jc, rfl⟩ := owns_slice hin.ths
    have HJ := Lib.hid hin
    clear hin HIN
    by_cases hlt : j < qs.length
    · have hna : ∃ g, na = some ⟨g, 0, none⟩ := by
        rcases HJ.out.ints.2 with ⟨e, h0⟩ | ⟨g, cap, cur, e, _⟩
        · omega
        · injection e with e _ _; exact ⟨g, e⟩
      obtain ⟨ng, rfl⟩ := hna
      obtain ⟨p, hp⟩ : ∃ p, qs[j]? = some p := ⟨_, List.getElem?_eq_getElem hlt⟩
      have d4 : wr.cell? ⟨ng, j, none⟩ = some (.int .i64 p) := owns_cell HJ.out.ints rfl (by rw [List.getElem?_map, hp]; rfl)
      have d5 : wr.cell? ⟨W.heap.size, 1, none⟩ = some (.int .i64 f) := HJ.out.box.cell 1
      have hfct := fold_facts M hOk k f n (qs.take j) (ts, mk.set q k) (fun x hx => HQS.out x (List.mem_of_mem_take hx)) (by simp [HL0.out])
      have HTK : Hid ((qs.take (j + 1)).foldl (fun r p => spreadF M n r.1 r.2 p f k) (ts, mk.set q k) = spreadF M n ((qs.take j).foldl (fun r p => spreadF M n r.1 r.2 p f k) (ts, mk.set q k)).1 ((qs.take j).foldl (fun r p => spreadF M n r.1 r.2 p f k) (ts, mk.set q k)).2 p f k) := Lib.hid (by
        rw [List.take_succ_eq_append_getElem hlt, List.foldl_append]
        have : qs[j] = p := by rw [List.getElem?_eq_getElem hlt] at hp; exact Option.some.inj hp
        rw [this]; rfl)
      have hpM : p < M.length := HQS.out p (List.mem_of_getElem? hp)
      generalize (qs.take j).foldl (fun r p => spreadF M n r.1 r.2 p f k) (ts, mk.set q k) = r at *
      obtain ⟨f1, f2, f3⟩ := hfct
      simp only [List.length_set] at f1 f2 f3
      have HC := Lib.hid (IH B Z wr m b st M (.slice ja jn jc) r.1 r.2 p f k HJ.out.mach hOk HJ.out.ths HJ.out.marks HZB.out (by rw [f1, HL0.out]) hpM _hMl (by omega) (by omega) hfb hkb)
      have HL1 : Hid (r.2.length = mk.length) := Lib.hid f1
      clear f1 f2 f3 hp
      unfold ptr at *
      go_wp2_with fail
      rw [← HL1.out]
      refine (HC.out).mono ?_
      rw [HL1.out]
      rintro e w5 ⟨sv5, rfl, g1, g2, g3, g4⟩
      have HS5 := Lib.hid (HJ.out.step HZB.out HSX.out.2.2 HSV.out rfl hw3 g1 g2 g3 g4)
      obtain ⟨xa, xn, xc, rfl⟩ := owns_slice g1
      clear g1 g2 g3 g4 d4 d5
      go_wp2_with fail
      go_roundw
      case rel => exact ⟨j + 1, by omega, by go_num, by rw [HTK.out]; exact HS5.out⟩
      case measure => simp [intOf]; omega
    · obtain rfl : j = qs.length := by omega
      have hall : qs.take qs.length = qs := List.take_of_length_le (Nat.le_refl _)
      rw [hall] at HJ
      clear hall
      go_wp2_with fail
      go_ret
      exact SpreadPost.mk' HJ.out.ths HJ.out.marks HJ.out.fr (by
        rcases HJ.out.own with h | h
        · exact .inl h
        · exact .inr fun g hg => Nat.le_trans (Nat.le_of_lt hw3) (h g hg))
end Go.Proofs.Ytheblleadjbndaa

namespace Go.Proofs.Ytheblleadjbndaa
open Go.RowKit Rx

theorem spread_ok (n : Nat) : SpreadOK n := by
  induction n with
  | zero => intro B Z W m b st M sv ts mk q f k hM hOk hs hm hz hlen hq hMl hfree; omega
  | succ n ih =>
    intro B Z W m b st M sv ts mk q f k hM hOk hs hm hz hlen hq hMl hfree htf hf hk
    by_cases h : mk[q]? = some k
    · exact spread_marked n W m b sv ts mk q f k M hs hm h (by omega)
    · obtain ⟨s, hst⟩ : ∃ s, M[q]? = some s := ⟨_, List.getElem?_eq_getElem hq⟩
      rcases s with ⟨g, q'⟩ | qs
      · exact spread_rd n B Z W m b st M sv ts mk q f k hM hs hm hz hlen hq hMl (by omega) h g q' hst
      · by_cases h0 : q = 0
        · exact spread_zero n B Z W m b st M sv ts mk q f k hM hs hm hz hlen hq hMl (by omega) h qs hst h0
        · exact spread_ep n B Z W m b st M sv ts mk q f k hM hs hm hz hlen hq hMl (by omega) h qs hst h0 hOk hfree htf hf hk ih

set_option maxHeartbeats 400000 in
theorem acc_byte (c x : UInt8) (b : Nat) (w : World) (h : At w b #[.int .u8 c.toNat] 5) :
    Calls Try.prog 60 #[.int .u8 x.toNat, ptr b] w fun e w' => e = .returned (.bool (x == c)) ∧ w' = w := by
  have c1 : w.cell? ⟨b, 0, none⟩ = some (.int .u8 c.toNat) := h.cell 0
  have HB : Hid ((x == c) = ((x.toNat : Int) == (c.toNat : Int))) := Lib.hid (by
    by_cases e : x = c
    · subst e; simp
    · have : ¬ x.toNat = c.toNat := fun h => e (UInt8.toNat_inj.1 h)
      rw [beq_eq_false_iff_ne.2 e]
      symm
      rw [beq_eq_false_iff_ne]; omega)
  unfold ptr
  go_enter Try.func60, Try.ntmps60
  go_wp2_with fail
  go_ret
  exact ⟨ret_bool HB.out.symm, rfl⟩
set_option maxHeartbeats 400000 in
theorem acc_cls (x : UInt8) (b k : Nat) (f : UInt8 → Bool) (w : World) (h : At w b #[ptr k] 51) (hk : At w k (btab f 256) 102) :
    Calls Try.prog 61 #[.int .u8 x.toNat, ptr b] w fun e w' => e = .returned (.bool (f x)) ∧ w' = w := by
  have c1 : w.cell? ⟨b, 0, none⟩ = some (ptr k) := h.cell 0
  have hx := x.toNat_lt
  have c2 : w.cell? ⟨k, x.toNat, none⟩ = some (.bool (f x)) := by
    rw [hk.cell x.toNat, btab_get f 256 _ hx, if_pos hx]; simp
  unfold ptr at *
  generalize f x = y at *
  go_enter Try.func61, Try.ntmps61
  go_wp2_with fail
  go_ret
  exact ⟨rfl, rfl⟩
/-- What a function value of a state tells. -/
theorem fn_calls {w : World} {v : Value} {f : UInt8 → Bool} (h : IsFn w v f) (x : UInt8) : ∃ k b, v = .func (.func k) #[] #[ptr b] ∧ (k = 60 ∨ k = 61) ∧ ∀ n, Calls Try.prog k #[.int .u8 x.toNat, ptr b] (w.drewN n) fun e w' => e = .returned (.bool (f x)) ∧ w' = w.drewN n := by
  rcases h with ⟨b, c, e, ha, rfl⟩ | ⟨b, k, e, ha, hk⟩
  · exact ⟨_, b, e, .inl rfl, fun n => acc_byte c x b _ (ha.drewN n)⟩
  · exact ⟨_, b, e, .inr rfl, fun n => acc_cls x b k f _ (ha.drewN n) (hk.drewN n)⟩
end Go.Proofs.Ytheblleadjbndaa

namespace Go.Proofs.Ytheblleadjbndaa
open Go.RowKit Rx

/-- A machine is kept where what changes holds cells of other types. -/
theorem Mach.frX {B : Nat} {Z : Nat → Prop} {m : Nat} {st : Int} {M : List St} {W W' : World} (h : Mach B Z m st M W) {X : Nat → Prop} (hf : Fr 0 (fun _ => false) X W W') (hx : ∀ b C t, X b → At W b C t → ¬ (t = 3 ∨ t = 74 ∨ t = 66 ∨ t = 5 ∨ t = 51 ∨ t = 102)) : Mach B Z m st M W' := by
  obtain ⟨sv, xs, h1, h2, h3, h4⟩ := h
  refine ⟨sv, xs, h1.fr hf (fun hX => hx _ _ _ hX h1 (by simp)) rfl, owns_fr h2 hf (fun g hg hX => ?_) rfl, ?_, h4⟩
  · obtain ⟨C, hC⟩ := owns_type h2 hg
    exact hx _ _ _ hX hC (by simp)
  · have hs : ∀ s fv nv, IsSt Z W s fv nv → IsSt Z W' s fv nv := fun s fv nv hh => by
      have hfn : ∀ v f, IsFn W v f → IsFn W' v f := fun v f hv => hv.fr hf rfl rfl rfl (fun b C t ha ht hX => hx _ _ _ hX ha (by rcases ht with e | e | e <;> simp [e]))
      have hin : ∀ v qs, Ints W v qs → Ints W' v qs := fun v qs hv => owns_fr hv hf (fun g hg hX => by
        obtain ⟨C, hC⟩ := owns_type hv hg
        exact hx _ _ _ hX hC (by simp)) rfl
      rcases s with ⟨f, q⟩ | qs
      · exact ⟨hfn _ _ hh.1, hin _ _ hh.2.1, hh.2.2⟩
      · exact ⟨hh.1, hin _ _ hh.2.1, hh.2.2⟩
    have : ∀ (M : List St) (xs : List Value), IsM Z W M xs → IsM Z W' M xs := by
      intro M
      induction M with
      | nil => exact fun _ h => h
      | cons s M ih => exact fun _ ⟨fv, nv, ys, e, h1, h2⟩ => ⟨fv, nv, ys, e, hs _ _ _ h1, ih _ h2⟩
    exact this M xs h3
/-- A part of a string as the program holds it. -/
def bestV : Option (Nat × Nat) → Array Value
  | none => #[.int .i64 0, .int .i64 0]
  | some x => #[.int .i64 (x.1 : Nat), .int .i64 (x.2 : Nat)]
/-- What find has in memory: the machine, the marks in block b, the threads nv here and xv there, the best part in block bb. -/
structure FIn (B : Nat) (Z : Nat → Prop) (m : Nat) (st : Int) (M : List St) (W : World) (b bb rb : Nat) (nv xv : Value) (now nxt : List Th) (mk : List Nat) (best : Option (Nat × Nat)) (wr : World) : Prop where
  mach : Mach B Z m st M wr
  marks : Marks wr b mk
  now : Ths wr nv now
  nxt : Ths wr xv nxt
  best : At wr bb (bestV best) 26
  res : At wr rb #[.int .i64 0, .int .i64 0] 26
  sep : ∀ g, nv.ownBlock = some g → xv.ownBlock ≠ some g
  below : Below W.heap.size W wr
  nb : W.heap.size ≤ b
  nbb : W.heap.size ≤ bb
  nrb : W.heap.size ≤ rb
  bbrb : bb ≠ rb
  nnv : ∀ g, nv.ownBlock = some g → W.heap.size ≤ g
  nxv : ∀ g, xv.ownBlock = some g → W.heap.size ≤ g
  zb : ¬ Z b
section
variable {B : Nat} {Z : Nat → Prop} {m : Nat} {st : Int} {M : List St} {W : World} {b bb rb : Nat} {nv xv : Value} {now nxt : List Th} {mk : List Nat} {best : Option (Nat × Nat)} {wr : World}
/-- The two sets change places. -/
theorem FIn.swap (h : FIn B Z m st M W b bb rb nv xv now nxt mk best wr) : FIn B Z m st M W b bb rb xv nv nxt now mk best wr :=
  ⟨h.mach, h.marks, h.nxt, h.now, h.best, h.res, fun g hg e => h.sep g e hg, h.below, h.nb, h.nbb, h.nrb, h.bbrb, h.nxv, h.nnv, h.zb⟩
theorem Ths.below {w w' : World} {v : Value} {ts : List Th} (h : Ths w v ts) (hb : Below w.heap.size w w') : Ths w' v ts := owns_fr (B := 0) (T := fun _ => false) (X := fun _ => False) h (Fr.below hb) (fun _ _ h => h) rfl
/-- New blocks alone. -/
theorem FIn.more (h : FIn B Z m st M W b bb rb nv xv now nxt mk best wr) {w' : World} (hb : Below wr.heap.size wr w') : FIn B Z m st M W b bb rb nv xv now nxt mk best w' :=
  ⟨h.mach.frM hb, At.below h.marks hb, h.now.below hb, h.nxt.below hb, h.best.below hb, h.res.below hb, h.sep, h.below.trans (hb.mono h.below.size), h.nb, h.nbb, h.nrb, h.bbrb, h.nnv, h.nxv, h.zb⟩
theorem At.ne {w : World} {x y : Nat} {C D : Array Value} {t u : TypeId} (h : At w x C t) (h2 : At w y D u) (hne : t ≠ u) : x ≠ y := fun e => by
  subst e
  have e1 := h.out
  rw [h2.out] at e1
  injection e1 with e1
  injection e1 with _ e1
  exact hne e1.symm
/-- A spreading of the threads here. -/
theorem FIn.spread (h : FIn B Z m st M W b bb rb nv xv now nxt mk best wr) {w' : World} {nv' : Value} {now' : List Th} {mk' : List Nat} (h1 : Ths w' nv' now') (h2 : Marks w' b mk') (hf : FrS b nv wr w') (hw : nv'.ownBlock = nv.ownBlock ∨ ∀ g, nv'.ownBlock = some g → wr.heap.size ≤ g) : FIn B Z m st M W b bb rb nv' xv now' nxt mk' best w' := by
  have hx : ∀ k C t, At wr k C t → t ≠ 3 → t ≠ 72 → ¬ XS b nv k := fun k C t ha h3 h4 hX => by
    rcases XS.no h.marks h.now h.zb k C t hX ha with h5 | h5
    · exact h3 h5.1
    · exact h4 h5
  have hnew : ∀ g, nv'.ownBlock = some g → W.heap.size ≤ g ∧ (nv.ownBlock = some g ∨ wr.heap.size ≤ g) := fun g hg => by
    rcases hw with e | e
    · rw [e] at hg; exact ⟨h.nnv g hg, .inl hg⟩
    · have := e g hg
      have := h.below.size
      exact ⟨by omega, .inr (by omega)⟩
  refine ⟨h.mach.frS hf (XS.no h.marks h.now h.zb), h2, h1, ?_, h.best.fr hf (hx _ _ _ h.best (by decide) (by decide)) rfl, h.res.fr hf (hx _ _ _ h.res (by decide) (by decide)) rfl, ?_, ?_, h.nb, h.nbb, h.nrb, h.bbrb, fun g hg => (hnew g hg).1, h.nxv, h.zb⟩
  · refine owns_fr h.nxt hf (fun g hg hX => ?_) rfl
    rcases hX with e | e
    · exact owns_ne h.nxt h.marks (by decide) (by rw [hg, e])
    · exact h.sep g e hg
  · intro g hg e
    rcases (hnew g hg).2 with h3 | h3
    · exact h.sep g h3 e
    · obtain ⟨C, hC⟩ := owns_type h.nxt e
      have := hC.lt
      omega
  · refine ⟨hf.os.trans h.below.os, hf.tape.trans h.below.tape, hf.output.trans h.below.output, Nat.le_trans h.below.size hf.size, fun k hk => ?_⟩
    rw [hf.block k (Nat.lt_of_lt_of_le hk h.below.size) (fun hX => ?_) (fun _ _ _ _ _ => rfl), h.below.block k hk]
    rcases hX with e | e
    · have := h.nb; omega
    · have := h.nnv k e; omega
/-- The best part is written anew. -/
theorem FIn.found (h : FIn B Z m st M W b bb rb nv xv now nxt mk best wr) (x : Nat × Nat) {w' : World} (hw : w' = (wr.setCell ⟨bb, 0, none⟩ (.int .i64 x.1)).setCell ⟨bb, 1, none⟩ (.int .i64 x.2)) : FIn B Z m st M W b bb rb nv xv now nxt mk (some x) w' := by
  subst hw
  have hf : Fr 0 (fun _ => false) (fun k => k = bb) wr ((wr.setCell ⟨bb, 0, none⟩ (.int .i64 x.1)).setCell ⟨bb, 1, none⟩ (.int .i64 x.2)) := Fr.set (X := fun k => k = bb) (Fr.set (X := fun k => k = bb) (Fr.refl _) bb 0 _ (.inl rfl)) bb 1 _ (.inl rfl)
  have hno : ∀ k C t, At wr k C t → t ≠ 26 → ¬ k = bb := fun k C t ha ht => At.ne ha h.best ht
  have hrow : ∀ v ts, Ths wr v ts → ∀ g, v.ownBlock = some g → ¬ g = bb := fun v ts hv g hg => by
    obtain ⟨C, hC⟩ := owns_type hv hg
    exact hno _ _ _ hC (by decide)
  refine ⟨?_, h.marks.fr hf (hno _ _ _ h.marks (by decide)) rfl, owns_fr h.now hf (hrow _ _ h.now) rfl, owns_fr h.nxt hf (hrow _ _ h.nxt) rfl, ?_, h.res.fr hf (fun e => h.bbrb e.symm) rfl, h.sep, ?_, h.nb, h.nbb, h.nrb, h.bbrb, h.nnv, h.nxv, h.zb⟩
  · exact h.mach.frX hf (fun k C t hX ha => by subst hX; rintro (rfl | rfl | rfl | rfl | rfl | rfl) <;> exact absurd rfl (At.ne ha h.best (by decide)))
  · have := (h.best.set 0 (.int .i64 x.1)).set 1 (.int .i64 x.2)
    rcases best with _ | y <;> exact this
  · refine ⟨hf.os.trans h.below.os, hf.tape.trans h.below.tape, hf.output.trans h.below.output, Nat.le_trans h.below.size hf.size, fun k hk => ?_⟩
    rw [hf.block k (Nat.lt_of_lt_of_le hk h.below.size) (by have := h.nbb; omega) (fun _ _ _ _ _ => rfl), h.below.block k hk]
end
end Go.Proofs.Ytheblleadjbndaa

namespace Go.Proofs.Ytheblleadjbndaa
open Go.RowKit Rx
namespace Rx
theorem free_le (k : Nat) (mk : List Nat) : free k mk ≤ mk.length := List.countP_le_length
theorem spread_mem (M : List St) (hOk : Ok M) (k f : Nat) : ∀ (n : Nat) (ts : List Th) (mk : List Nat) (q : Nat), q < M.length → ∀ t ∈ (spreadF M n ts mk q f k).1, t ∈ ts ∨ (t.1 < M.length ∧ t.2 = f) := by
  intro n
  induction n with
  | zero => intro ts mk q _ t ht; exact .inl ht
  | succ n ih =>
    intro ts mk q hq
    simp only [spreadF]
    have h0 : ∀ t ∈ ts ++ [(q, f)], t ∈ ts ∨ (t.1 < M.length ∧ t.2 = f) := fun t ht => by
      simp only [List.mem_append, List.mem_singleton] at ht
      rcases ht with h | rfl
      · exact .inl h
      · exact .inr ⟨hq, rfl⟩
    split
    · exact fun t ht => .inl ht
    · split
      · rename_i qs he
        split
        · exact h0
        · have hin : ∀ p ∈ qs, p < M.length := hOk q _ he
          have : ∀ (l : List Nat) (r : List Th × List Nat), (∀ p ∈ l, p < M.length) → (∀ t ∈ r.1, t ∈ ts ∨ (t.1 < M.length ∧ t.2 = f)) → ∀ t ∈ (l.foldl (fun r p => spreadF M n r.1 r.2 p f k) r).1, t ∈ ts ∨ (t.1 < M.length ∧ t.2 = f) := by
            intro l
            induction l with
            | nil => intro r _ h; exact h
            | cons p l ihl =>
              intro r hl h
              rw [List.foldl_cons]
              exact ihl _ (fun x hx => hl x (by simp [hx])) (fun t ht => by
                rcases ih r.1 r.2 p (hl p (by simp)) t ht with h1 | h1
                · exact h t h1
                · exact .inr h1)
          exact this qs _ hin (fun t ht => .inl ht)
      · exact h0
theorem step_mem (M : List St) (hOk : Ok M) (k n : Nat) (b : Option (Nat × Nat)) (c : UInt8) : ∀ (l : List Th) (r : List Th × List Nat) (t : Th), t ∈ (step M n b c k l r).1 → t ∈ r.1 ∨ (t.1 < M.length ∧ ∃ u ∈ l, t.2 = u.2)
  | [], r, t, ht => .inl ht
  | u :: l, r, t, ht => by
    simp only [step] at ht
    split at ht
    · exact .inl ht
    · rcases step_mem M hOk k n b c l _ t ht with h | ⟨h1, v, hv, h2⟩
      · split at h
        · rename_i f q he
          split at h
          · rcases spread_mem M hOk k u.2 n r.1 r.2 q (hOk _ _ he q (by simp [Nx])) t h with h | h
            · exact .inl h
            · exact .inr ⟨h.1, u, by simp, h.2⟩
          · exact .inl h
        · exact .inl h
      · exact .inr ⟨h1, v, by simp [hv], h2⟩
theorem scan_append (at_ : Nat) : ∀ (l l2 : List Th) (b : Option (Nat × Nat)), scan at_ (l ++ l2) b = scan at_ l2 (scan at_ l b)
  | [], _, _ => rfl
  | _ :: l, l2, b => by simp only [List.cons_append, scan]; exact scan_append at_ l l2 _
/-- What the search's threads look like at a position. -/
structure Gd (M : List St) (a : Nat) (now : List Th) (mk : List Nat) : Prop where
  mem : ∀ t ∈ now, t.1 < M.length ∧ t.2 ≤ a
  len : mk.length = M.length
  bound : now.length ≤ M.length
theorem begin_good {M : List St} (hOk : Ok M) {n st : Nat} (hst : st < M.length) (anch : Bool) {a : Nat} {now : List Th} {mk : List Nat} (b : Option (Nat × Nat)) (h : Gd M a now mk) (hf : now.length + free (a + 1) mk ≤ M.length) : Gd M a (begin_ M n st anch a now mk b).1 (begin_ M n st anch a now mk b).2 := by
  unfold begin_
  split
  · have h1 := spread_facts M hOk (a + 1) a n now mk st h.len hst
    refine ⟨fun t ht => ?_, h1.1.trans h.len, by have := h1.2.2; omega⟩
    rcases spread_mem M hOk (a + 1) a n now mk st hst t ht with h2 | h2
    · exact h.mem t h2
    · exact ⟨h2.1, by omega⟩
  · exact h
theorem step_good {M : List St} (hOk : Ok M) {n : Nat} (b : Option (Nat × Nat)) (c : UInt8) {a : Nat} {now : List Th} {mk : List Nat} (h : Gd M a now mk) :
    Gd M (a + 1) (step M n b c (a + 2) now ([], mk)).1 (step M n b c (a + 2) now ([], mk)).2 ∧ (step M n b c (a + 2) now ([], mk)).1.length + free (a + 2) (step M n b c (a + 2) now ([], mk)).2 ≤ M.length := by
  have h1 := step_facts M hOk (a + 2) n b c now ([], mk) h.len
  have h2 := free_le (a + 2) mk
  have h3 := h.len
  have h4 := h1.2.2
  simp only [List.length_nil] at h4
  refine ⟨⟨fun t ht => ?_, h1.1.trans h.len, by omega⟩, by omega⟩
  rcases step_mem M hOk (a + 2) n b c now ([], mk) t ht with h5 | ⟨h5, u, hu, h6⟩
  · simp at h5
  · exact ⟨h5, by have := (h.mem u hu).2; omega⟩
/-- What is left to search behind the scan. -/
def Next (M : List St) (n st : Nat) (anch : Bool) (l : List UInt8) (R : Option (Nat × Nat)) (a : Nat) (now : List Th) (mk : List Nat) (b : Option (Nat × Nat)) : Prop :=
  (a = l.length → R = b) ∧ ∀ c, l[a]? = some c → R = if now = [] ∧ (b.isSome = true ∨ anch = true) then b else findF M n st anch (l.drop (a + 1)) (a + 1) (step M n b c (a + 2) now ([], mk)).1 (step M n b c (a + 2) now ([], mk)).2 b
theorem findF_next {M : List St} {n st : Nat} {anch : Bool} {l : List UInt8} {R : Option (Nat × Nat)} {a : Nat} {now : List Th} {mk : List Nat} {b : Option (Nat × Nat)} (h : R = findF M n st anch (l.drop a) a now mk b) :
    Next M n st anch l R a (begin_ M n st anch a now mk b).1 (begin_ M n st anch a now mk b).2 (scan a (begin_ M n st anch a now mk b).1 b) := by
  refine ⟨fun ha => ?_, fun c hc => ?_⟩
  · rw [h, List.drop_eq_nil_of_le (by omega)]; rfl
  · have hlt : a < l.length := (List.getElem?_eq_some_iff.1 hc).1
    rw [h, List.drop_eq_getElem_cons hlt]
    have : l[a] = c := by rw [List.getElem?_eq_getElem hlt] at hc; exact Option.some.inj hc
    rw [this, findF]
end Rx
/-- A row without its elements. -/
theorem Ths.emp {w : World} {a : Option Addr} {n c : Nat} {ts : List Th} (h : Ths w (.slice a n c) ts) : Ths w (.slice a 0 c) [] := by
  rcases h.2 with ⟨e, _⟩ | ⟨g, cap, cur, e, h1, h2, h3, h4, h5, h6⟩
  · injection e with e1 e2 e3
    subst e1 e3
    exact ⟨rfl, .inl ⟨rfl, rfl⟩⟩
  · injection e with e1 e2 e3
    subst e1 e3
    exact ⟨rfl, .inr ⟨g, c, cur, rfl, h1, h2, Nat.zero_le _, h4, h5, by simp [thc]⟩⟩
theorem own_any (a : Option Addr) (n c n' c' : Nat) : (Value.slice a n c).ownBlock = (Value.slice a n' c').ownBlock := by cases a <;> rfl
/-- The next set is empty. -/
theorem FIn.emp {B : Nat} {Z : Nat → Prop} {m : Nat} {st : Int} {M : List St} {W : World} {b bb rb : Nat} {nv : Value} {now nxt : List Th} {mk : List Nat} {best : Option (Nat × Nat)} {wr : World} {a : Option Addr} {n c : Nat} (h : FIn B Z m st M W b bb rb nv (.slice a n c) now nxt mk best wr) : FIn B Z m st M W b bb rb nv (.slice a 0 c) now [] mk best wr :=
  { h with nxt := h.nxt.emp, sep := fun g h1 h2 => h.sep g h1 (by rw [own_any a n c 0 c]; exact h2), nxv := fun g h1 => h.nxv g (by rw [own_any a n c 0 c]; exact h1) }
theorem FIn.drewN {B : Nat} {Z : Nat → Prop} {m : Nat} {st : Int} {M : List St} {W : World} {b bb rb : Nat} {nv xv : Value} {now nxt : List Th} {mk : List Nat} {best : Option (Nat × Nat)} {wr : World} (h : FIn B Z m st M W b bb rb nv xv now nxt mk best wr) (n : Nat) : FIn B Z m st M W b bb rb nv xv now nxt mk best (wr.drewN n) :=
  h.more ⟨rfl, rfl, rfl, Nat.le_refl _, fun _ _ => rfl⟩
/-- What a walk reads of a thread. -/
theorem Ths.read {w : World} {a : Option Addr} {n c : Nat} {ts : List Th} (h : Ths w (.slice a n c) ts) {j : Nat} {t : Th} (hj : ts[j]? = some t) : n = ts.length ∧ n ≤ c ∧ ∃ g, a = some ⟨g, 0, none⟩ ∧ w.cell? ⟨g, j * 2, none⟩ = some (.int .i64 t.1) ∧ w.cell? ⟨g, j * 2 + 1, none⟩ = some (.int .i64 t.2) ∧ g < w.heap.size := by
  have hlt : j < ts.length := (List.getElem?_eq_some_iff.1 hj).1
  have hthc : ∀ (ts : List Th) (j : Nat) (t : Th), ts[j]? = some t → (thc ts)[j * 2]? = some (intV t.1) ∧ (thc ts)[j * 2 + 1]? = some (intV t.2) := by
    intro ts
    induction ts with
    | nil => intro j t h; simp at h
    | cons u ts ih =>
      intro j t h
      rcases j with _ | j
      · simp only [List.getElem?_cons_zero] at h
        injection h with h
        subst h
        exact ⟨rfl, rfl⟩
      · simp only [List.getElem?_cons_succ] at h
        have := ih j t h
        have e1 : (j + 1) * 2 = j * 2 + 1 + 1 := by omega
        rw [e1]
        exact this
  obtain ⟨k1, k2⟩ := hthc ts j t hj
  have hs : ∃ g, a = some ⟨g, 0, none⟩ ∧ n = ts.length ∧ n ≤ c := by
    rcases h.2 with ⟨e, h0⟩ | ⟨g, cap, cur, e, _, _, h3, _⟩
    · omega
    · injection e with e1 e2 e3
      exact ⟨g, e1, e2, by omega⟩
  obtain ⟨g, rfl, hn, hc⟩ := hs
  obtain ⟨C, hC⟩ := owns_type h (g := g) rfl
  exact ⟨hn, hc, g, rfl, owns_cell h rfl k1, owns_cell h rfl k2, hC.lt⟩
theorem Ths.len {w : World} {a : Option Addr} {n c : Nat} {ts : List Th} (h : Ths w (.slice a n c) ts) : n = ts.length := by
  rcases h.2 with ⟨e, h0⟩ | ⟨g, cap, cur, e, _⟩
  · injection e with e1 e2 e3; omega
  · injection e with e1 e2 e3
/-- What the outer loop keeps. -/
structure FRel (B : Nat) (Z : Nat → Prop) (m st : Nat) (M : List St) (W : World) (b bb rb : Nat) (anch : Bool) (l : List UInt8) (R : Option (Nat × Nat)) (nv xv fv av : Value) (a : Nat) (wr : World) : Prop where
  ex : ∃ now nxt mk best, FIn B Z m st M W b bb rb nv xv now nxt mk best wr ∧ fv = .bool best.isSome ∧ av = .int .i64 (a : Nat) ∧ a ≤ l.length ∧ Gd M a now mk ∧ now.length + free (a + 1) mk ≤ M.length ∧ R = findF M (M.length + 1) st anch (l.drop a) a now mk best
/-- The marks at first. -/
theorem Marks.made {w : World} {b n : Nat} (h : w.ownsRow 0 3 1 (.slice (some ⟨b, 0, none⟩) n n) n (madeCells #[.int .i64 0] n).toList) : Marks w b (List.replicate n 0) := by
  rcases h.2 with ⟨e, h0⟩ | ⟨g, cap, cur, e, h1, h2, h3, h4, h5, h6⟩
  · cases e
  · injection e with e1 e2 e3
    injection e1 with e1
    injection e1 with e1 _ _
    subst e1 e3
    have e4 : cur.toList = (madeCells #[.int .i64 0] n).toList := by
      rw [← h6, List.take_of_length_le]
      simp [h5]
    have e5 : cur = (List.map intV (List.replicate n 0)).toArray := by
      apply Array.toList_inj.1
      rw [e4]
      simp only [madeCells, intV, Array.toList_map, Array.toList_range, List.map_replicate]
      rw [List.eq_replicate_iff]
      refine ⟨by simp, fun x hx => ?_⟩
      rw [List.mem_map] at hx
      obtain ⟨y, _, rfl⟩ := hx
      simp [Nat.mod_one]
    unfold Marks
    rw [← e5]
    exact ⟨h2⟩
end Go.Proofs.Ytheblleadjbndaa

namespace Go.Proofs.Ytheblleadjbndaa
open Go.RowKit Rx

/-- What find hands back. -/
def foundV (x : Option (Nat × Nat)) : Value := .tuple #[.agg (bestV x), .bool x.isSome]

set_option maxRecDepth 100000 in
set_option maxHeartbeats 40000000 in
theorem find_any (anch : Bool) (s : ByteArray) (B : Nat) (Z : Nat → Prop) (W : World) (m st : Nat) (M : List St) (hM : Mach B Z m st M W) (hOk : Ok M) (hst : st < M.length) (hMl : M.length ≤ 9000) (hs : s.size ≤ 40000) (hZ : ∀ k, Z k → k < W.heap.size) :
    Calls Try.prog 30 #[ptr m, .string s, .bool anch] W fun e w' => e = .returned (foundV (findF M (M.length + 1) st anch (bs s) 0 [] (List.replicate M.length 0) none)) ∧ Below W.heap.size W w' := by
  obtain ⟨i0, hi, hz0, hz1, hz2⟩ := info_parts info_int
  have HI := Lib.hid hi
  have HZ0 := Lib.hid hz0
  have HZ1 := Lib.hid hz1
  have HZ2 := Lib.hid hz2
  clear hi hz0 hz1 hz2
  have hM1 : Mach B Z m st M (W.alloc (.cells #[.int .i64 0, .int .i64 0] 26)) := hM.frM ((Below.refl _ _).alloc (Nat.le_refl _) _)
  obtain ⟨g0, cap, fv, nv, m0, e1, e2, e3, hml, e4, hcap⟩ := hM.read (q := st) (s := M[st]) (List.getElem?_eq_getElem hst)
  clear e1 e2 e3 e4 fv nv
  have hA : ∃ sv, At W m #[sv, .int .i64 st] 66 := by obtain ⟨sv, xs, h, _⟩ := hM; exact ⟨sv, h⟩
  have HM := Lib.hid hM
  have m0a : (W.alloc (.cells #[.int .i64 0, .int .i64 0] 26)).cell? ⟨m, 0, none⟩ = some (.slice (some ⟨g0, 0, none⟩) M.length cap) := by rw [World.cell?_alloc_past _ _ _ hml]; exact m0
  clear hM hM1 m0
  unfold ptr
  go_enter Try.func30, Try.ntmps30
  go_wp2_with (at_make; refine wpList_make_full _ rfl _ _ 68 rfl 0 3 i0 (.int .i64 0) 1 Try.underlying68 HI.out HZ0.out HZ1.out _ _ _ _ M.length rfl rfl rfl rfl (by rw [HZ2.out]; omega) (by unfold maxLen; omega) (Nat.zero_le _) ?_)
  intro w1 hown hgrow
  have HMK := Lib.hid (Marks.made hown)
  have HB1 : Hid (Below W.heap.size W w1) := Lib.hid (((Below.refl W.heap.size W).alloc (Nat.le_refl _) (.cells #[.int .i64 0, .int .i64 0] 26)).grown hgrow (by show W.heap.size ≤ (W.heap.push _).size; simp) (fun k hk => by cases hk))
  have HRS : Hid (At w1 W.heap.size #[.int .i64 0, .int .i64 0] 26) := Lib.hid ((At.new W #[.int .i64 0, .int .i64 0] 26).grown hgrow (by simp))
  have hl1 : W.heap.size + 1 < w1.heap.size := HMK.out.lt
  have HF0 : Hid (FIn B Z m st M W (W.heap.size + 1) w1.heap.size W.heap.size (.slice none 0 0) (.slice none 0 0) [] [] (List.replicate M.length 0) none (w1.alloc (.cells #[.int .i64 0, .int .i64 0] 26))) := Lib.hid
    ⟨(HM.out.frM HB1.out).frM ((Below.refl _ _).alloc (Nat.le_refl _) _), HMK.out.alloc _, World.ownsRow_nil _ _ _ _, World.ownsRow_nil _ _ _ _, At.new _ _ _, HRS.out.alloc _, (fun g hg => by cases hg), HB1.out.alloc HB1.out.size _, by omega, by omega, Nat.le_refl _, by omega, (fun g hg => by cases hg), (fun g hg => by cases hg), fun h => by have := hZ _ h; omega⟩
  have HR0 : Hid (FRel B Z m st M W (W.heap.size + 1) w1.heap.size W.heap.size anch (bs s) (findF M (M.length + 1) st anch (bs s) 0 [] (List.replicate M.length 0) none) (.slice none 0 0) (.slice none 0 0) (.bool false) (.int .i64 0) 0 (w1.alloc (.cells #[.int .i64 0, .int .i64 0] 26))) := Lib.hid
    ⟨⟨[], [], _, none, HF0.out, rfl, rfl, Nat.zero_le _, ⟨fun t h => by simp at h, by simp, Nat.zero_le _⟩, by have := free_le (0 + 1) (List.replicate M.length 0); simp at this ⊢; exact this, rfl⟩⟩
  generalize hRQ : findF M (M.length + 1) st anch (bs s) 0 [] (List.replicate M.length 0) none = R at *
  have HRQ := Lib.hid hRQ
  clear hRQ
  clear hown hgrow m0a HRS HF0 HMK hA
  have HA : Hid (M.length ≤ 9000 ∧ st < M.length ∧ s.size ≤ 40000) := Lib.hid ⟨hMl, hst, hs⟩
  clear hMl hst hs
  go_wp2_with fail
  go_loopg [9, 10, 12, 13] (s.size + 1) (fun g v9 v10 v12 v13 wr => ∃ a : Nat, g = s.size + 1 - a ∧ FRel B Z m st M W (W.heap.size + 1) w1.heap.size W.heap.size anch (bs s) R v9 v10 v12 v13 a wr)
  case atStart => exact ⟨0, rfl, HR0.out⟩
  case round =>
    obtain ⟨a, hg, hrel⟩ := hrel
    have hmo0 : a < s.size → s.size - a < gk := by omega
    have HMO := Lib.hid hmo0
    clear hmo0
    obtain ⟨now, nxt, mk, best, hin, rfl, rfl, ha, hgd, hfr, hR⟩ := hrel.ex
    clear hrel
    obtain ⟨na, nn, nc, rfl⟩ := owns_slice hin.now
    obtain ⟨xa, xn, xc, rfl⟩ := owns_slice hin.nxt
    have HN := Lib.hid (findF_next hR)
    have HG := Lib.hid (begin_good (n := M.length + 1) hOk HA.out.2.1 anch best hgd hfr)
    have HX : Hid (Gd M a now mk ∧ now.length + free (a + 1) mk ≤ M.length ∧ g0 = g0) := Lib.hid ⟨hgd, hfr, rfl⟩
    have HI2 := Lib.hid hin
    have hal : (a : Int) < 100000 := by
      have := HA.out.2.2
      have e : (bs s).length = s.size := by simp [bs]
      omega
    clear hin hgd hfr hR HR0
    go_upto_region 7 with fail
    go_cut [36] (fun v wx => wr = wx ∧ v = .bool (decide (best = none ∧ (a = 0 ∨ anch = false))))
    case first =>
      clear HN HG HX HI2
      have h1 : ((a : Int) == 0) = decide (a = 0) := by by_cases e : a = 0 <;> simp [e]
      generalize hz : decide (a = 0) = z at h1
      have HZ := Lib.hid hz
      clear hz
      rcases best with _ | x <;> cases anch <;> cases z
      all_goals (
        simp only [Option.isSome_none, Option.isSome_some]
        go_wp2_with fail
        go_meet
        refine ⟨rfl, ?_⟩
        have h2 := HZ.out
        simp only [decide_eq_true_eq, decide_eq_false_iff_not] at h2
        first | rfl | (simp [h2]; done))
    case rest =>
      obtain ⟨rfl, rfl⟩ := hcut
      have hm1 : wr.cell? ⟨m, 1, none⟩ = some (.int .i64 st) := by obtain ⟨sv, xs, h, _⟩ := HI2.out.mach; exact h.cell 1
      generalize hP : begin_ M (M.length + 1) st anch a now mk best = P at *
      go_upto_if 36 with fail
      go_cut [9] (fun v9 wx => ∃ na nn nc, v9 = .slice na nn nc ∧ FIn B Z m st M W (W.heap.size + 1) w1.heap.size W.heap.size v9 (.slice xa xn xc) P.1 nxt P.2 best wx)
      case first =>
        by_cases hc : best = none ∧ (a = 0 ∨ anch = false)
        · rw [show decide (best = none ∧ (a = 0 ∨ anch = false)) = true from decide_eq_true hc]
          have hP2 : P = spreadF M (M.length + 1) now mk st a (a + 1) := by rw [← hP, begin_, if_pos hc]
          have hcl := spread_ok (M.length + 1) B Z wr m (W.heap.size + 1) st M (.slice na nn nc) now mk st a (a + 1) HI2.out.mach hOk HI2.out.now HI2.out.marks HI2.out.zb HX.out.1.len HA.out.2.1 HA.out.1 (by have h1 := free_le (a + 1) mk; have h2 := HX.out.1.len; omega) (by have h1 := HX.out.2.1; have := HA.out.1; omega) (by omega) (by omega)
          rw [← hP2, HX.out.1.len, show ((a + 1 : Nat) : Int) = (a : Int) + 1 from by omega] at hcl
          have HC := Lib.hid hcl
          clear hcl hP hP2 hc
          unfold ptr at *
          go_wp2_with fail
          refine (HC.out).mono ?_
          rintro e w5 ⟨sv5, rfl, g1, g2, g3, g4⟩
          have HS5 := Lib.hid (HI2.out.spread g1 g2 g3 g4)
          obtain ⟨ya, yn, yc, rfl⟩ := owns_slice g1
          clear g1 g2 g3 g4
          go_wp2_with fail
          go_meet
          exact ⟨_, _, _, rfl, HS5.out⟩
        · rw [show decide (best = none ∧ (a = 0 ∨ anch = false)) = false from decide_eq_false hc]
          have hP2 : P = (now, mk) := by rw [← hP, begin_, if_neg hc]
          have HP := Lib.hid hP2
          clear hP2 hP hc
          go_wp2_with fail
          go_meet
          exact ⟨_, _, _, rfl, by rw [HP.out]; exact HI2.out⟩
      case rest =>
        clear hm1 HI2 HX hP
        obtain ⟨na, nn, nc, rfl, hin⟩ := hcut
        obtain rfl := hin.now.len
        have HI3 := Lib.hid hin
        clear hin
        go_wp2_with fail
        go_loopg [12, 51] P.1.length (fun g v12 v51 wr2 => ∃ j : Nat, j ≤ P.1.length ∧ g = P.1.length - j ∧ v51 = .int .i64 j ∧ ∃ b2, b2 = scan a (P.1.take j) best ∧ v12 = .bool b2.isSome ∧ FIn B Z m st M W (W.heap.size + 1) w1.heap.size W.heap.size (.slice na P.1.length nc) (.slice xa xn xc) P.1 nxt P.2 b2 wr2)
        case atStart => exact ⟨0, Nat.zero_le _, rfl, rfl, best, rfl, rfl, HI3.out⟩
        case round =>
          obtain ⟨j, hj, hgj, rfl, b2, hb2, rfl, hin⟩ := hrel
          clear HI3
          have HB2 := Lib.hid hb2
          have HG2 := Lib.hid (And.intro hgj hj)
          clear hb2 hgj hj
          have hjl : (j : Int) ≤ 9000 := by have h1 := HG2.out.2; have h2 := HG.out.bound; have h3 := HA.out.1; omega
          by_cases hlt : j < P.1.length
          case pos =>
            obtain ⟨t, ht⟩ : ∃ t, P.1[j]? = some t := ⟨_, List.getElem?_eq_getElem hlt⟩
            obtain ⟨_, hnc, g, rfl, c1, c2, hgl⟩ := hin.now.read ht
            have c3 : ∀ x, b2 = some x → wr.cell? ⟨w1.heap.size, 0, none⟩ = some (.int .i64 x.1) := fun x hx => by have := hin.best.cell 0; rw [hx] at this; exact this
            have c4 : (wr.alloc (.cells #[.int .i64 t.1, .int .i64 t.2] 72)).cell? ⟨w1.heap.size, 0, none⟩ = wr.cell? ⟨w1.heap.size, 0, none⟩ := by rw [World.cell?_alloc_past _ _ _ hin.best.lt]
            have HTK : Hid (scan a (P.1.take (j + 1)) best = if t.1 = 0 ∧ (∀ x, b2 = some x → t.2 ≤ x.1) then some (t.2, a) else b2) := Lib.hid (by
              rw [List.take_succ_eq_append_getElem hlt, scan_append, ← HB2.out]
              have : P.1[j] = t := by rw [List.getElem?_eq_getElem hlt] at ht; exact Option.some.inj ht
              rw [this]; rfl)
            obtain ⟨q, f⟩ := t
            simp only at c1 c2 c4 HTK
            have HIN := Lib.hid hin
            have hlti : (j : Int) < (P.1.length : Int) := by omega
            clear hin ht
            have HFIN : ∀ b3 w3, b3 = scan a (P.1.take (j + 1)) best → FIn B Z m st M W (W.heap.size + 1) w1.heap.size W.heap.size (.slice (some ⟨g, 0, none⟩) P.1.length nc) (.slice xa xn xc) P.1 nxt P.2 b3 w3 → ∃ j' : Nat, j' ≤ P.1.length ∧ P.1.length - (j + 1) = P.1.length - j' ∧ Value.int .i64 ((j : Int) + 1) = .int .i64 j' ∧ ∃ b2, b2 = scan a (P.1.take j') best ∧ Value.bool b3.isSome = .bool b2.isSome ∧ FIn B Z m st M W (W.heap.size + 1) w1.heap.size W.heap.size (.slice (some ⟨g, 0, none⟩) P.1.length nc) (.slice xa xn xc) P.1 nxt P.2 b2 w3 := fun b3 w3 h1 h2 => ⟨j + 1, by omega, rfl, rfl, b3, h1, rfl, h2⟩
            have HFIN' := Lib.hid HFIN
            clear HFIN
            have hmz : P.1.length - (j + 1) < gk := by have := HG2.out.1; omega
            have HAL : Hid (FIn B Z m st M W (W.heap.size + 1) w1.heap.size W.heap.size (.slice (some ⟨g, 0, none⟩) P.1.length nc) (.slice xa xn xc) P.1 nxt P.2 b2 (wr.alloc (.cells #[.int .i64 q, .int .i64 f] 72))) := Lib.hid (HIN.out.more ((Below.refl _ _).alloc (Nat.le_refl _) _))
            have df0 : (wr.alloc (.cells #[.int .i64 q, .int .i64 f] 72)).frozen? ⟨w1.heap.size, 0, none⟩ = false := HAL.out.best.free 0
            have df1 : (wr.alloc (.cells #[.int .i64 q, .int .i64 f] 72)).frozen? ⟨w1.heap.size, 1, none⟩ = false := HAL.out.best.free 1
            have HCC := Lib.hid (And.intro c3 c4)
            clear c3 c4
            by_cases hq : q = 0
            · have e0 : ((q : Int) == 0) = true := by simp [hq]
              have HQ := Lib.hid hq
              clear hq
              rcases b2 with _ | x
              · have HE : Hid (some (f, a) = scan a (P.1.take (j + 1)) best) := Lib.hid (by rw [HTK.out, if_pos ⟨HQ.out, by simp⟩])
                have HFW : Hid (FIn B Z m st M W (W.heap.size + 1) w1.heap.size W.heap.size (.slice (some ⟨g, 0, none⟩) P.1.length nc) (.slice xa xn xc) P.1 nxt P.2 (some (f, a)) _) := Lib.hid (HAL.out.found (f, a) rfl)
                have d1 : (wr.alloc (.cells #[.int .i64 q, .int .i64 f] 72)).cell? ⟨w1.heap.size, 0, none⟩ = some (.int .i64 0) := HAL.out.best.cell 0
                have d2 : (wr.alloc (.cells #[.int .i64 q, .int .i64 f] 72)).cell? ⟨w1.heap.size, 1, none⟩ = some (.int .i64 0) := HAL.out.best.cell 1
                simp only [Option.isSome_none]
                go_wp2_with fail
                go_roundg (P.1.length - (j + 1))
                case measure => exact hmz
                case rel => exact HFIN'.out _ _ HE.out HFW.out
              · obtain ⟨x1, x2⟩ := x
                have d1 : (wr.alloc (.cells #[.int .i64 q, .int .i64 f] 72)).cell? ⟨w1.heap.size, 0, none⟩ = some (.int .i64 x1) := by rw [HCC.out.2]; exact HCC.out.1 _ rfl
                have d2 : (wr.alloc (.cells #[.int .i64 q, .int .i64 f] 72)).cell? ⟨w1.heap.size, 1, none⟩ = some (.int .i64 x2) := HAL.out.best.cell 1
                simp only [Option.isSome_some]
                by_cases hfx : f ≤ x1
                · have HE : Hid (some (f, a) = scan a (P.1.take (j + 1)) best) := Lib.hid (by rw [HTK.out, if_pos ⟨HQ.out, fun x hx => by cases hx; exact hfx⟩])
                  have HFW : Hid (FIn B Z m st M W (W.heap.size + 1) w1.heap.size W.heap.size (.slice (some ⟨g, 0, none⟩) P.1.length nc) (.slice xa xn xc) P.1 nxt P.2 (some (f, a)) _) := Lib.hid (HAL.out.found (f, a) rfl)
                  have hfi : (f : Int) ≤ (x1 : Int) := by omega
                  clear hfx
                  go_wp2_with fail
                  go_roundg (P.1.length - (j + 1))
                  case measure => exact hmz
                  case rel => exact HFIN'.out _ _ HE.out HFW.out
                · have HE : Hid (some (x1, x2) = scan a (P.1.take (j + 1)) best) := Lib.hid (by rw [HTK.out, if_neg (fun h => hfx (h.2 _ rfl))])
                  have hfi : ¬ (f : Int) ≤ (x1 : Int) := by omega
                  clear hfx
                  go_wp2_with fail
                  go_roundg (P.1.length - (j + 1))
                  case measure => exact hmz
                  case rel => exact HFIN'.out _ _ HE.out HAL.out
            · have e0 : ((q : Int) == 0) = false := by simp [hq]
              have HE : Hid (b2 = scan a (P.1.take (j + 1)) best) := Lib.hid (by rw [HTK.out, if_neg (fun h => hq h.1)])
              clear hq
              go_wp2_with fail
              go_roundg (P.1.length - (j + 1))
              case measure => exact hmz
              case rel => exact HFIN'.out _ _ HE.out HAL.out
          case neg =>
            obtain rfl : j = P.1.length := by have := HG2.out.2; omega
            have HB3 : Hid (b2 = scan a P.1 best) := Lib.hid (by rw [HB2.out, List.take_of_length_le (Nat.le_refl _)])
            have HI4 := Lib.hid hin
            clear hin HB2 HG2 hlt
            go_upto_region 16 with fail
            go_cut [88] (fun v wx => wr = wx ∧ v = .bool (decide (a = s.size ∨ (P.1 = [] ∧ (b2.isSome = true ∨ anch = true)))))
            case first =>
              have h1 : ((a : Int) == (s.size : Int)) = decide (a = s.size) := by
                by_cases e : a = s.size
                · simp [e]
                · have : ¬ (a : Int) = (s.size : Int) := by omega
                  simp [e, this]
              have h2 : ((P.1.length : Int) == 0) = decide (P.1 = []) := by
                by_cases e : P.1 = []
                · simp [e]
                · simp [e]
              generalize hz1 : decide (a = s.size) = z1 at h1
              generalize hz2 : decide (P.1 = []) = z2 at h2
              have HFX : Hid ((z1 || (z2 && (b2.isSome || anch))) = decide (a = s.size ∨ (P.1 = [] ∧ (b2.isSome = true ∨ anch = true)))) := Lib.hid (by subst hz1 hz2; simp)
              clear hz1 hz2 HI4 HB3 HN HG
              cases z1
              · cases z2
                · go_wp2_with fail
                  go_meet
                  exact ⟨rfl, by rw [← HFX.out]; rfl⟩
                · rcases b2 with _ | x
                  · simp only [Option.isSome_none]
                    cases anch
                    · go_wp2_with fail
                      go_meet
                      exact ⟨rfl, by rw [← HFX.out]; rfl⟩
                    · go_wp2_with fail
                      go_meet
                      exact ⟨rfl, by rw [← HFX.out]; rfl⟩
                  · simp only [Option.isSome_some]
                    go_wp2_with fail
                    go_meet
                    exact ⟨rfl, by rw [← HFX.out]; rfl⟩
              · go_wp2_with fail
                go_meet
                exact ⟨rfl, by rw [← HFX.out]; rfl⟩
            case rest =>
              obtain ⟨rfl, rfl⟩ := hcut
              have hsl : (bs s).length = s.size := by simp [bs]
              by_cases hc : a = s.size ∨ (P.1 = [] ∧ (b2.isSome = true ∨ anch = true))
              · rw [show decide (a = s.size ∨ (P.1 = [] ∧ (b2.isSome = true ∨ anch = true))) = true from decide_eq_true hc]
                have HR : Hid (R = b2) := Lib.hid (by
                  have h3 := HN.out
                  rw [← HB3.out] at h3
                  rcases Nat.lt_or_ge a s.size with h4 | h4
                  · obtain ⟨c, hcc⟩ : ∃ c, (bs s)[a]? = some c := ⟨_, List.getElem?_eq_getElem (by omega)⟩
                    rw [h3.2 c hcc, if_pos]
                    rcases hc with h5 | h5
                    · omega
                    · exact h5
                  · exact h3.1 (by omega))
                clear hc hsl
                obtain ⟨y1, y2, hy⟩ : ∃ y1 y2 : Int, bestV b2 = #[.int .i64 y1, .int .i64 y2] := by rcases b2 with _ | x <;> exact ⟨_, _, rfl⟩
                have hbe := HI4.out.best
                have hre := HI4.out.res
                rw [hy] at hbe
                have d1 : wr.cell? ⟨w1.heap.size, 0, none⟩ = some (.int .i64 y1) := hbe.cell 0
                have d2 : wr.cell? ⟨w1.heap.size, 1, none⟩ = some (.int .i64 y2) := hbe.cell 1
                have d3 : wr.cell? ⟨W.heap.size, 0, none⟩ = some (.int .i64 0) := hre.cell 0
                have d4 : wr.cell? ⟨W.heap.size, 1, none⟩ = some (.int .i64 0) := hre.cell 1
                have d5 : wr.frozen? ⟨W.heap.size, 0, none⟩ = false := hre.free 0
                have d6 : wr.frozen? ⟨W.heap.size, 1, none⟩ = false := hre.free 1
                have HFV : Hid (foundV R = .tuple #[.agg #[.int .i64 y1, .int .i64 y2], .bool b2.isSome]) := Lib.hid (by rw [HR.out, foundV, hy])
                have HRE := Lib.hid hre
                have HBL : Hid (Below W.heap.size W ((wr.setCell ⟨W.heap.size, 0, none⟩ (.int .i64 y1)).setCell ⟨W.heap.size, 1, none⟩ (.int .i64 y2))) := Lib.hid ((HI4.out.below.setCell (Nat.le_refl _) _).setCell (Nat.le_refl _) _)
                have hrf : At ((wr.setCell ⟨W.heap.size, 0, none⟩ (.int .i64 y1)).setCell ⟨W.heap.size, 1, none⟩ (.int .i64 y2)) W.heap.size #[.int .i64 y1, .int .i64 y2] 26 := (hre.set 0 (.int .i64 y1)).set 1 (.int .i64 y2)
                have HRF := Lib.hid hrf
                clear hbe hre hrf hy HR HB3
                go_wp2_with fail
                have q0 := HRF.out.cell 0
                have q1 := HRF.out.cell 1
                refine bodyPost_ret (v := .tuple #[.agg #[.int .i64 y1, .int .i64 y2], .bool b2.isSome]) (by simp [results, Try.results30, go_sem, q0, q1]) rfl ⟨by rw [HRQ.out, HFV.out], HBL.out⟩
              · have hP0 : Hid (¬ (P.1 = [] ∧ (b2.isSome = true ∨ anch = true))) := Lib.hid fun h => hc (.inr h)
                have hal2 : a < s.size := by
                  have : a ≠ s.size := fun h => hc (.inl h)
                  omega
                rw [show decide (a = s.size ∨ (P.1 = [] ∧ (b2.isSome = true ∨ anch = true))) = false from decide_eq_false hc]
                obtain ⟨c, hcc⟩ : ∃ c, (bs s)[a]? = some c := ⟨_, List.getElem?_eq_getElem (by omega)⟩
                have HR : Hid (R = findF M (M.length + 1) st anch ((bs s).drop (a + 1)) (a + 1) (Rx.step M (M.length + 1) b2 c (a + 2) P.1 ([], P.2)).1 (Rx.step M (M.length + 1) b2 c (a + 2) P.1 ([], P.2)).2 b2) := Lib.hid (by
                  have h3 := HN.out.2 c hcc
                  rw [← HB3.out, if_neg hP0.out] at h3
                  exact h3)
                have HCH := Lib.hid hcc
                have HI5 : Hid (FIn B Z m st M W (W.heap.size + 1) w1.heap.size W.heap.size (.slice na P.1.length nc) (.slice xa 0 xc) P.1 [] P.2 b2 wr) := Lib.hid HI4.out.emp
                clear hc hP0 hcc HI4
                have hxa : xa = none ∧ xc = 0 ∨ ∃ g, xa = some ⟨g, 0, none⟩ := by
                  rcases HI5.out.nxt.2 with ⟨e, _⟩ | ⟨g, cap, cur, e, _⟩
                  · injection e with e1 e2 e3; exact .inl ⟨e1, e3⟩
                  · injection e with e1 e2 e3; exact .inr ⟨g, e1⟩
                go_upto_region 18 with fail
                go_cut [10] (fun v wx => wr = wx ∧ v = .slice xa 0 xc)
                case first =>
                  rcases hxa with ⟨rfl, rfl⟩ | ⟨gx, rfl⟩
                  · go_wp2_with fail
                    go_meet
                    exact ⟨rfl, rfl⟩
                  · go_wp2_with fail
                    go_meet
                    exact ⟨rfl, rfl⟩
                case rest =>
                  obtain ⟨rfl, rfl⟩ := hcut
                  clear hxa
                  have HG4 := Lib.hid (step_good (n := M.length + 1) hOk b2 c HG.out)
                  have HEND : Hid (∀ v10 w, FIn B Z m st M W (W.heap.size + 1) w1.heap.size W.heap.size (.slice na P.1.length nc) v10 P.1 (Rx.step M (M.length + 1) b2 c (a + 2) P.1 ([], P.2)).1 (Rx.step M (M.length + 1) b2 c (a + 2) P.1 ([], P.2)).2 b2 w → ∃ a' : Nat, s.size - a = s.size + 1 - a' ∧ FRel B Z m st M W (W.heap.size + 1) w1.heap.size W.heap.size anch (bs s) R v10 (.slice na P.1.length nc) (.bool b2.isSome) (.int .i64 ((a : Int) + 1)) a' w) := Lib.hid (fun v10 w hw => ⟨a + 1, by omega, ⟨_, _, _, _, hw.swap, rfl, rfl, by omega, HG4.out.1, HG4.out.2, HR.out⟩⟩)
                  have hmo := HMO.out hal2
                  go_wp2_with fail
                  go_loopg [10, 95] P.1.length (fun g v10 v95 wr2 => ∃ j : Nat, j ≤ P.1.length ∧ g = P.1.length - j ∧ v95 = .int .i64 j ∧ ∃ r : List Th × List Nat, Rx.step M (M.length + 1) b2 c (a + 2) P.1 ([], P.2) = Rx.step M (M.length + 1) b2 c (a + 2) (P.1.drop j) r ∧ Fct (a + 2) [] P.2 r ∧ FIn B Z m st M W (W.heap.size + 1) w1.heap.size W.heap.size (.slice na P.1.length nc) v10 P.1 r.1 r.2 b2 wr2)
                  case atStart => exact ⟨0, Nat.zero_le _, rfl, rfl, ([], P.2), rfl, Fct.refl _ _ _, HI5.out⟩
                  case round =>
                    obtain ⟨j, hj, hgj, rfl, r, hr, hfr, hin⟩ := hrel
                    obtain ⟨ya, yn, yc, rfl⟩ := owns_slice hin.nxt
                    have HST := Lib.hid hr
                    have HFC := Lib.hid hfr
                    have HI6 := Lib.hid hin
                    have HG2 := Lib.hid (And.intro hgj hj)
                    have hjl : (j : Int) ≤ 9000 := by have h1 := HG2.out.2; have h2 := HG.out.bound; have h3 := HA.out.1; omega
                    clear hr hfr hin hgj hj HI5
                    have hml2 := HI6.out.below.size
                    by_cases hlt : j < P.1.length
                    case pos =>
                      obtain ⟨t, ht⟩ : ∃ t, P.1[j]? = some t := ⟨_, List.getElem?_eq_getElem hlt⟩
                      obtain ⟨_, hnc, g, rfl, c1, c2, hgl⟩ := HI6.out.now.read ht
                      have hlti : (j : Int) < (P.1.length : Int) := by omega
                      have HT := Lib.hid ht
                      have htm := HG.out.mem t (List.mem_of_getElem? ht)
                      have HDR : Hid (P.1.drop j = t :: P.1.drop (j + 1)) := Lib.hid (by rw [List.drop_eq_getElem_cons hlt]; congr 1; rw [List.getElem?_eq_getElem hlt] at ht; exact Option.some.inj ht)
                      obtain ⟨q, f⟩ := t
                      simp only at c1 c2 htm
                      obtain ⟨hq, hf⟩ := htm
                      clear ht
                      have HCC : Hid (∀ x, b2 = some x → (wr.alloc (.cells #[.int .i64 q, .int .i64 f] 72)).cell? ⟨w1.heap.size, 0, none⟩ = some (.int .i64 x.1)) := Lib.hid (fun x hx => by
                        rw [World.cell?_alloc_past _ _ _ HI6.out.best.lt]
                        have := HI6.out.best.cell 0; rw [hx] at this; exact this)
                      have HAL : Hid (FIn B Z m st M W (W.heap.size + 1) w1.heap.size W.heap.size (.slice (some ⟨g, 0, none⟩) P.1.length nc) (.slice ya yn yc) P.1 r.1 r.2 b2 (wr.alloc (.cells #[.int .i64 q, .int .i64 f] 72))) := Lib.hid (HI6.out.more ((Below.refl _ _).alloc (Nat.le_refl _) _))
                      have HTB : Hid (At (wr.alloc (.cells #[.int .i64 q, .int .i64 f] 72)) wr.heap.size #[.int .i64 q, .int .i64 f] 72) := Lib.hid (At.new _ _ _)
                      go_upto_region 22 with fail
                      go_cut [106] (fun v wx => (wr.alloc (.cells #[.int .i64 q, .int .i64 f] 72)) = wx ∧ v = .bool (decide (∃ x, b2 = some x ∧ x.1 < f)))
                      case first =>
                        clear HAL HEND HG4 HR HN HG HST HFC HI6 HRQ
                        rcases b2 with _ | ⟨x1, x2⟩
                        · simp only [Option.isSome_none]
                          go_wp2_with fail
                          go_meet
                          exact ⟨rfl, by simp⟩
                        · have d1 : (wr.alloc (.cells #[.int .i64 q, .int .i64 f] 72)).cell? ⟨w1.heap.size, 0, none⟩ = some (.int .i64 x1) := HCC.out _ rfl
                          have t1 := HTB.out.cell 1
                          simp only [Option.isSome_some]
                          by_cases hx : x1 < f
                          · have hxi : (f : Int) > (x1 : Int) := by omega
                            go_wp2_with fail
                            go_meet
                            exact ⟨rfl, by simp [hx]⟩
                          · have hxi : ¬ (f : Int) > (x1 : Int) := by omega
                            go_wp2_with fail
                            go_meet
                            exact ⟨rfl, by simp [hx]⟩
                      case rest =>
                        obtain ⟨hwx, rfl⟩ := hcut
                        rw [hwx] at HAL HTB
                        clear hwx HCC
                        by_cases hbk : ∃ x, b2 = some x ∧ x.1 < f
                        · rw [show decide (∃ x, b2 = some x ∧ x.1 < f) = true from decide_eq_true hbk]
                          have HSE : Hid (Rx.step M (M.length + 1) b2 c (a + 2) P.1 ([], P.2) = r) := Lib.hid (by rw [HST.out, HDR.out, Rx.step, if_pos hbk])
                          have HFIN := Lib.hid (HEND.out (.slice ya yn yc) wc (by rw [HSE.out]; exact HAL.out))
                          clear hlt HG2 hbk
                          go_wp2_with fail
                          go_roundg (s.size - a)
                          case measure => first | exact hmo | omega
                          case rel => exact HFIN.out
                        · rw [show decide (∃ x, b2 = some x ∧ x.1 < f) = false from decide_eq_false hbk]
                          obtain ⟨sst, hsst⟩ : ∃ x, M[q]? = some x := ⟨_, List.getElem?_eq_getElem hq⟩
                          have HNX : Hid (∀ (r' : List Th × List Nat) v10 w, Rx.step M (M.length + 1) b2 c (a + 2) P.1 ([], P.2) = Rx.step M (M.length + 1) b2 c (a + 2) (P.1.drop (j + 1)) r' → Fct (a + 2) [] P.2 r' → FIn B Z m st M W (W.heap.size + 1) w1.heap.size W.heap.size (.slice (some ⟨g, 0, none⟩) P.1.length nc) v10 P.1 r'.1 r'.2 b2 w → ∃ j' : Nat, j' ≤ P.1.length ∧ P.1.length - (j + 1) = P.1.length - j' ∧ Value.int .i64 ((j : Int) + 1) = .int .i64 j' ∧ ∃ r : List Th × List Nat, Rx.step M (M.length + 1) b2 c (a + 2) P.1 ([], P.2) = Rx.step M (M.length + 1) b2 c (a + 2) (P.1.drop j') r ∧ Fct (a + 2) [] P.2 r ∧ FIn B Z m st M W (W.heap.size + 1) w1.heap.size W.heap.size (.slice (some ⟨g, 0, none⟩) P.1.length nc) v10 P.1 r.1 r.2 b2 w) := Lib.hid (fun r' v10 w h1 h2 h3 => ⟨j + 1, by omega, rfl, rfl, r', h1, h2, h3⟩)
                          have hmz : P.1.length - (j + 1) < gk := by have := HG2.out.1; omega
                          obtain ⟨g1, cap1, fv, nv, m0, m1, m2, hsx, hml3, hgl3, hcap3⟩ := HAL.out.mach.read hsst
                          have t0 : wc.cell? ⟨wr.heap.size, 0, none⟩ = some (.int .i64 q) := HTB.out.cell 0
                          have t1 : wc.cell? ⟨wr.heap.size, 1, none⟩ = some (.int .i64 f) := HTB.out.cell 1
                          obtain ⟨sa, sn, sc, rfl, hfv⟩ := hsx.shape
                          have m0a : (wc.alloc (.cells #[.nilFunc, .slice none 0 0] 74)).cell? ⟨m, 0, none⟩ = some (.slice (some ⟨g1, 0, none⟩) M.length cap1) := by rw [World.cell?_alloc_past _ _ _ hml3]; exact m0
                          have m1a : (wc.alloc (.cells #[.nilFunc, .slice none 0 0] 74)).cell? ⟨g1, q * 2, none⟩ = some fv := by rw [World.cell?_alloc_past _ _ _ hgl3]; exact m1
                          have m2a : (wc.alloc (.cells #[.nilFunc, .slice none 0 0] 74)).cell? ⟨g1, q * 2 + 1, none⟩ = some (.slice sa sn sc) := by rw [World.cell?_alloc_past _ _ _ hgl3]; exact m2
                          have t0a : (wc.alloc (.cells #[.nilFunc, .slice none 0 0] 74)).cell? ⟨wr.heap.size, 0, none⟩ = some (.int .i64 q) := by rw [World.cell?_alloc_past _ _ _ HTB.out.lt]; exact t0
                          have hqi : (q : Int) < (M.length : Int) := by omega
                          have HQM := Lib.hid hq
                          have hsa : s[a] = c := by
                            have h3 := HCH.out
                            rw [List.getElem?_eq_getElem (by omega)] at h3
                            exact Option.some.inj h3
                          have HHF := Lib.hid hf
                          clear c1 c2 hgl hnc hlt hq hf HCH
                          rcases sst with ⟨gg, q'⟩ | qs
                          · have HSE : Hid (Rx.step M (M.length + 1) b2 c (a + 2) P.1 ([], P.2) = Rx.step M (M.length + 1) b2 c (a + 2) (P.1.drop (j + 1)) (if gg c then spreadF M (M.length + 1) r.1 r.2 q' f (a + 2) else r)) := Lib.hid (by rw [HST.out, HDR.out, Rx.step, if_neg hbk, hsst])
                            have HQ' : Hid (q' < M.length) := Lib.hid (hOk _ _ hsst q' (by simp [Nx]))
                            clear hbk hsst
                            obtain ⟨fk, fb, rfl⟩ : ∃ fk fb, fv = .func (.func fk) #[] #[fb] := by
                              rcases hfv with h | h
                              · subst h
                                rcases hsx.1 with ⟨_, _, e, _⟩ | ⟨_, _, e, _⟩ <;> cases e
                              · exact h
                            have HSX : Hid (IsSt Z (wc.alloc (.cells #[.func (.func fk) #[] #[fb], .slice sa sn sc] 74)) (.rd gg q') (.func (.func fk) #[] #[fb]) (.slice sa sn sc)) := Lib.hid (hsx.frM (B := 0) (Fr.below ((Below.refl _ _).alloc (Nat.le_refl _) _)))
                            clear hsx hfv
                            go_wp2_with fail
                            go_region
                            have HA3 := Lib.hid (HAL.out.more ((Below.refl _ _).alloc (Nat.le_refl _) (.cells #[.func (.func fk) #[] #[fb], .slice sa sn sc] 74)))
                            have hsb3 : At (wc.alloc (.cells #[.func (.func fk) #[] #[fb], .slice sa sn sc] 74)) wc.heap.size #[.func (.func fk) #[] #[fb], .slice sa sn sc] 74 := At.new _ _ _
                            have HT3 := Lib.hid (HTB.out.alloc (.cells #[.func (.func fk) #[] #[fb], .slice sa sn sc] 74))
                            clear m0 m1 m2 m0a m1a m2a t0 t1 t0a
                            generalize (wc.alloc (.cells #[.func (.func fk) #[] #[fb], .slice sa sn sc] 74)) = w3 at *
                            have s0 : w3.cell? ⟨wc.heap.size, 0, none⟩ = some (.func (.func fk) #[] #[fb]) := hsb3.cell 0
                            have HB3' := Lib.hid hsb3
                            have hfe := fn_ne fk fb
                            clear hsb3
                            go_upto_region 24 with fail
                            go_cut [125] (fun v wx => (∃ n, w3.drewN n = wx) ∧ v = .bool (gg c))
                            case first =>
                              obtain ⟨k, bq, he, hk, hcf⟩ := fn_calls (w := w3.drew) (HSX.out.frM (B := 0) (Fr.below ((Below.refl _ _).drew))).1 c
                              injection he with he1 he2 he3
                              injection he1 with he1
                              subst he1
                              have hfb : fb = ptr bq := by have h3 := congrArg (fun (x : Array Value) => x[0]?) he3; simpa using h3
                              subst hfb
                              have s0' : w3.drew.cell? ⟨wc.heap.size, 0, none⟩ = some (.func (.func fk) #[] #[ptr bq]) := s0
                              have HW4 : Hid (∀ n, ∃ l, w3.drewN l = w3.drew.drewN n) := Lib.hid (fun n => ⟨1 + n, by show _ = (w3.drewN 1).drewN n; rw [World.drewN_drewN]⟩)
                              clear he2 he3 s0 HB3' HT3 HA3 HSX
                              generalize w3.drew = w4 at *
                              have HCF := Lib.hid hcf
                              clear hcf
                              unfold ptr at *
                              rcases hk with rfl | rfl
                              · go_quiet (first | (go_at_call 60; refine Calls.quiet_of_same (HCF.out _)))
                                go_wp2_with fail
                                go_meet
                                exact ⟨HW4.out _, rfl⟩
                              · go_quiet (first | (go_at_call 61; refine Calls.quiet_of_same (HCF.out _)))
                                go_wp2_with fail
                                go_meet
                                exact ⟨HW4.out _, rfl⟩
                            case rest =>
                              obtain ⟨⟨n3, hn3⟩, rfl⟩ := hcut
                              have HA4 : Hid (FIn B Z m st M W (W.heap.size + 1) w1.heap.size W.heap.size (.slice (some ⟨g, 0, none⟩) P.1.length nc) (.slice ya yn yc) P.1 r.1 r.2 b2 wc) := Lib.hid (by rw [← hn3]; exact HA3.out.drewN n3)
                              have hsq := HSX.out.2.1
                              have hsh : ∃ ng, sa = some ⟨ng, 0, none⟩ ∧ sn = 1 ∧ sn ≤ sc := by
                                rcases hsq.2 with ⟨e, h0⟩ | ⟨ng, cap, cur, e, _, _, h3, _⟩
                                · exact absurd h0 (by simp)
                                · injection e with e1 e2 e3; exact ⟨ng, e1, e2, by omega⟩
                              obtain ⟨ng, rfl, rfl, hsc⟩ := hsh
                              have hce : ∀ x, wc.cell? x = w3.cell? x := fun x => by rw [← hn3]; exact World.cell?_drewN _ _ _
                              have p0 : wc.cell? ⟨ng, 0, none⟩ = some (.int .i64 q') := by rw [hce]; exact owns_cell hsq rfl (j := 0) rfl
                              have s1 := HB3'.out.cell 1
                              rw [← hce] at s1
                              have s1 : wc.cell? ⟨_, 1, none⟩ = some (.slice (some ⟨ng, 0, none⟩) 1 sc) := s1
                              have t1 := HT3.out.cell 1
                              rw [← hce] at t1
                              have t1 : wc.cell? ⟨wr.heap.size, 1, none⟩ = some (.int .i64 f) := t1
                              clear hsq hce hn3 HA3 HB3' HT3 s0 hfe
                              cases hgg : gg c
                              · have HSE2 : Hid (Rx.step M (M.length + 1) b2 c (a + 2) P.1 ([], P.2) = Rx.step M (M.length + 1) b2 c (a + 2) (P.1.drop (j + 1)) r) := Lib.hid (by rw [HSE.out, if_neg (by simp [hgg])])
                                clear hgg
                                go_wp2_with fail
                                go_roundg (P.1.length - (j + 1))
                                case measure => exact hmz
                                case rel => exact HNX.out _ _ _ HSE2.out HFC.out HA4.out
                              · have HSE2 : Hid (Rx.step M (M.length + 1) b2 c (a + 2) P.1 ([], P.2) = Rx.step M (M.length + 1) b2 c (a + 2) (P.1.drop (j + 1)) (spreadF M (M.length + 1) r.1 r.2 q' f (a + 2))) := Lib.hid (by rw [HSE.out, if_pos hgg])
                                clear hgg
                                have hrl : r.2.length = M.length := HFC.out.1.trans HG.out.len
                                have hff := spread_facts M hOk (a + 2) f (M.length + 1) r.1 r.2 q' hrl HQ'.out
                                have HFC2 := Lib.hid (HFC.out.trans hff)
                                have hb1 := free_le (a + 2) r.2
                                have hb2 := HFC.out.2.2
                                have hb3 := free_le (a + 2) P.2
                                have hb4 := HG.out.len
                                have hb5 := HA.out.1
                                have hb6 := HHF.out
                                have hb7 := HA.out.2.2
                                simp only [List.length_nil] at hb2
                                have HC : Hid (∀ n, Calls Try.prog 40 #[ptr m, .slice ya yn yc, .slice (some ⟨W.heap.size + 1, 0, none⟩) M.length M.length, .agg #[.int .i64 q', .int .i64 f], .int .i64 ((a : Int) + 2)] (wc.drewN n) (SpreadPost (W.heap.size + 1) (.slice ya yn yc) (wc.drewN n) (spreadF M (M.length + 1) r.1 r.2 q' f (a + 2)))) := Lib.hid (fun n => by
                                  have h1 := (HA4.out.drewN n).swap
                                  have h2 := spread_ok (M.length + 1) B Z (wc.drewN n) m (W.heap.size + 1) st M (.slice ya yn yc) r.1 r.2 q' f (a + 2) h1.mach hOk h1.now h1.marks h1.zb hrl HQ'.out HA.out.1 (by omega) (by omega) (by omega) (by omega)
                                  rw [hrl, show ((a + 2 : Nat) : Int) = (a : Int) + 2 from by omega] at h2
                                  exact h2)
                                generalize spreadF M (M.length + 1) r.1 r.2 q' f (a + 2) = r5 at *
                                clear hff hb1 hb2 hb3 hb4 hb5 hb6 hb7 hrl
                                unfold ptr at *
                                go_upto_region 25 with fail
                                go_still_tail 12, (by kernel_rfl)
                                change wpList _ _ _ _ _ (wc.drewN 1)
                                have HC1 := Lib.hid (HC.out 1)
                                have HA5 := Lib.hid (HA4.out.drewN 1)
                                clear HC p0 s1 t1 HA4
                                generalize wc.drewN 1 = w5 at *
                                go_wp2_with fail
                                refine (HC1.out).mono ?_
                                rintro e w6 ⟨sv5, rfl, x1, x2, x3, x4⟩
                                have HS5 := Lib.hid (HA5.out.swap.spread x1 x2 x3 x4).swap
                                obtain ⟨za, zn, zc, rfl⟩ := owns_slice x1
                                clear x1 x2 x3 x4
                                go_wp2_with fail
                                go_roundg (P.1.length - (j + 1))
                                case measure => exact hmz
                                case rel => exact HNX.out _ _ _ HSE2.out HFC2.out HS5.out
                          · have HSE : Hid (Rx.step M (M.length + 1) b2 c (a + 2) P.1 ([], P.2) = Rx.step M (M.length + 1) b2 c (a + 2) (P.1.drop (j + 1)) r) := Lib.hid (by rw [HST.out, HDR.out, Rx.step, if_neg hbk, hsst])
                            clear hbk hsst
                            obtain rfl : fv = .nilFunc := hsx.1
                            have HSX := Lib.hid hsx
                            clear hsx hfv
                            go_wp2_with fail
                            go_region
                            have HA3 := Lib.hid (HAL.out.more ((Below.refl _ _).alloc (Nat.le_refl _) (.cells #[.nilFunc, .slice sa sn sc] 74)))
                            have hsb3 : At (wc.alloc (.cells #[.nilFunc, .slice sa sn sc] 74)) wc.heap.size #[.nilFunc, .slice sa sn sc] 74 := At.new _ _ _
                            clear m0 m1 m2 m0a m1a m2a t0 t1 t0a
                            generalize (wc.alloc (.cells #[.nilFunc, .slice sa sn sc] 74)) = w3 at *
                            have s0 : w3.cell? ⟨wc.heap.size, 0, none⟩ = some .nilFunc := hsb3.cell 0
                            have hfe := fn_eq
                            clear hsb3
                            go_wp2_with fail
                            go_quiet (fail)
                            go_wp2_with fail
                            go_roundg (P.1.length - (j + 1))
                            case measure => exact hmz
                            case rel => exact HNX.out _ _ _ HSE.out HFC.out (HA3.out.drewN _)
                    case neg =>
                      obtain rfl : j = P.1.length := by have := HG2.out.2; omega
                      have HSE : Hid (Rx.step M (M.length + 1) b2 c (a + 2) P.1 ([], P.2) = r) := Lib.hid (by rw [HST.out, List.drop_of_length_le (Nat.le_refl _)]; rfl)
                      have HFIN := Lib.hid (HEND.out (.slice ya yn yc) wr (by rw [HSE.out]; exact HI6.out))
                      clear hlt HG2
                      go_wp2_with fail
                      go_roundg (s.size - a)
                      case measure => first | exact hmo | omega
                      case rel => exact HFIN.out
end Go.Proofs.Ytheblleadjbndaa

namespace Go.Proofs.Ytheblleadjbndaa
open Go.RowKit Rx

set_option maxHeartbeats 400000 in
theorem check_any (p : ByteArray) (W : World) : Calls Try.prog 19 #[.string p] W fun e w' => e = .returned (.int .i64 (checkR (bs p) : Nat)) ∧ Below W.heap.size W w' := by
  have hl : (bs p).length = p.size := by simp [bs]
  by_cases h : 200 < p.size
  · have HE : Hid (checkR (bs p) = 4) := Lib.hid (by unfold checkR; rw [if_pos (by omega)])
    have h1 : (p.size : Int) > 200 := by omega
    clear h hl
    rw [HE.out]
    go_enter Try.func19, Try.ntmps19
    go_wp2_with fail
    go_ret
    exact ⟨rfl, Below.refl _ _⟩
  · have h1 : ¬ (p.size : Int) > 200 := by omega
    have HP := Lib.hid (parse_any p W)
    have HE : Hid (checkR (bs p) = if (parse (bs p)).isSome then 0 else 3) := Lib.hid (by unfold checkR; rw [if_neg (by omega)])
    clear h hl
    go_enter Try.func19, Try.ntmps19
    go_wp2_with fail
    refine (HP.out).mono ?_
    rintro e w1 ⟨hb, hp⟩
    have HB := Lib.hid hb
    clear hb
    rcases ha : parse (bs p) with _ | a
    · rw [ha] at hp
      simp only at hp
      obtain rfl := hp
      have HE2 : Hid (checkR (bs p) = 3) := Lib.hid (by rw [HE.out, ha]; rfl)
      clear ha HP HE
      go_wp2_with fail
      go_ret
      exact ⟨by rw [HE2.out]; rfl, HB.out⟩
    · rw [ha] at hp
      simp only at hp
      obtain ⟨v, rfl, hv⟩ := hp
      have HE2 : Hid (checkR (bs p) = 0) := Lib.hid (by rw [HE.out, ha]; rfl)
      obtain ⟨vb, rfl⟩ := IsA.ptr a v hv
      clear ha HP HE hv
      unfold ptr
      go_wp2_with fail
      go_ret
      exact ⟨by rw [HE2.out]; rfl, HB.out⟩

set_option maxHeartbeats 1000000 in
theorem match_any (p s : ByteArray) (W : World) (hs : s.size ≤ 40000) : Calls Try.prog 14 #[.string p, .string s] W fun e w' => e = .returned (.bool (matchR (bs p) (bs s))) ∧ Below W.heap.size W w' := by
  have HS := Lib.hid hs
  clear hs
  have HP := Lib.hid (parse_any p W)
  go_enter Try.func14, Try.ntmps14
  go_wp2_with fail
  refine (HP.out).mono ?_
  rintro e w1 ⟨hb, hp⟩
  have HB := Lib.hid hb
  clear hb HP
  rcases ha : parse (bs p) with _ | a
  · rw [ha] at hp
    simp only at hp
    obtain rfl := hp
    have HE2 : Hid (matchR (bs p) (bs s) = false) := Lib.hid (by unfold matchR; rw [ha])
    clear ha
    go_wp2_with fail
    go_ret
    exact ⟨ret_bool HE2.out.symm, HB.out⟩
  · rw [ha] at hp
    simp only at hp
    obtain ⟨v, rfl, hv⟩ := hp
    have HE2 : Hid (matchR (bs p) (bs s) = match search a true (bs s) with | none => false | some x => x.2 == (bs s).length) := Lib.hid (by unfold matchR; rw [ha]; rfl)
    have hsz := parse_sz ha
    have HSZ := Lib.hid hsz
    have HBU := Lib.hid (build_any a _ w1 v hv (by omega))
    obtain ⟨vb, rfl⟩ := IsA.ptr a v hv
    clear ha hv hsz
    unfold ptr at HBU ⊢
    go_wp2_with fail
    refine (HBU.out).mono ?_
    rintro e w2 ⟨m, rfl, hm, hb2⟩
    have HF := Lib.hid (find_any true s _ _ w2 m (mach a).1 (mach a).2 hm (mach_ok a) (mach_lt a) (by have := mach_len a; have := HSZ.out; omega) HS.out (fun k hk => hk.2))
    have HB2 := Lib.hid hb2
    clear hm hb2 HBU
    unfold ptr at *
    go_wp2_with fail
    refine (HF.out).mono ?_
    rintro e w3 ⟨rfl, hb3⟩
    have HB3 : Hid (Below W.heap.size W w3) := Lib.hid (HB.out.trans ((HB2.out.trans (hb3.mono HB2.out.size)).mono HB.out.size))
    have HE3 : Hid (search a true (bs s) = findF (mach a).2 ((mach a).2.length + 1) (mach a).1 true (bs s) 0 [] (List.replicate (mach a).2.length 0) none) := Lib.hid rfl
    clear hb3 HF
    rw [← HE3.out]
    rcases hx : search a true (bs s) with _ | ⟨x1, x2⟩
    · have HE4 : Hid (matchR (bs p) (bs s) = false) := Lib.hid (by rw [HE2.out, hx])
      clear hx
      simp only [foundV, bestV, Option.isSome_none]
      go_wp2_with fail
      go_ret
      exact ⟨ret_bool HE4.out.symm, HB3.out.alloc HB3.out.size _⟩
    · have HE4 : Hid (matchR (bs p) (bs s) = ((x2 : Int) == (s.size : Int))) := Lib.hid (by
        rw [HE2.out, hx]
        have hl : (bs s).length = s.size := by simp [bs]
        rw [hl]
        show (x2 == s.size) = _
        by_cases e : x2 = s.size
        · simp [e]
        · have : ¬ (x2 : Int) = (s.size : Int) := by omega
          rw [beq_eq_false_iff_ne.2 e, beq_eq_false_iff_ne.2 this])
      clear hx
      simp only [foundV, bestV, Option.isSome_some]
      go_wp2_with fail
      go_ret
      exact ⟨ret_bool HE4.out.symm, HB3.out.alloc HB3.out.size _⟩

set_option maxHeartbeats 1000000 in
theorem find_pub (p s : ByteArray) (W : World) (hs : s.size ≤ 40000) : Calls Try.prog 17 #[.string p, .string s] W fun e w' => e = .returned (foundV (findR (bs p) (bs s))) ∧ Below W.heap.size W w' := by
  have HS := Lib.hid hs
  clear hs
  have HP := Lib.hid (parse_any p (W.alloc (.cells #[.int .i64 0, .int .i64 0] 26)))
  go_enter Try.func17, Try.ntmps17
  go_wp2_with fail
  refine (HP.out).mono ?_
  rintro e w1 ⟨hb, hp⟩
  have HB := Lib.hid hb
  have hrs : At w1 W.heap.size #[.int .i64 0, .int .i64 0] 26 := (At.new W #[.int .i64 0, .int .i64 0] 26).below hb
  have HBW : Hid (Below W.heap.size W w1) := Lib.hid (((Below.refl W.heap.size W).alloc (Nat.le_refl _) (.cells #[.int .i64 0, .int .i64 0] 26)).trans (hb.mono (by show W.heap.size ≤ (W.heap.push _).size; simp)))
  have HRS := Lib.hid hrs
  clear hb HP hrs
  have hfin : ∀ (w : World), Below w1.heap.size w1 w → ∀ y1 y2 : Int, At ((w.setCell ⟨W.heap.size, 0, none⟩ (.int .i64 y1)).setCell ⟨W.heap.size, 1, none⟩ (.int .i64 y2)) W.heap.size #[.int .i64 y1, .int .i64 y2] 26 ∧ Below W.heap.size W ((w.setCell ⟨W.heap.size, 0, none⟩ (.int .i64 y1)).setCell ⟨W.heap.size, 1, none⟩ (.int .i64 y2)) := fun w hw y1 y2 =>
    ⟨((HRS.out.below hw).set 0 (.int .i64 y1)).set 1 (.int .i64 y2), ((HBW.out.trans (hw.mono HBW.out.size)).setCell (Nat.le_refl _) _).setCell (Nat.le_refl _) _⟩
  have HFIN := Lib.hid hfin
  clear hfin
  rcases ha : parse (bs p) with _ | a
  · rw [ha] at hp
    simp only at hp
    obtain rfl := hp
    have HE2 : Hid (findR (bs p) (bs s) = none) := Lib.hid (by unfold findR; rw [ha]; rfl)
    have d3 : w1.cell? ⟨W.heap.size, 0, none⟩ = some (.int .i64 0) := HRS.out.cell 0
    have d4 : w1.cell? ⟨W.heap.size, 1, none⟩ = some (.int .i64 0) := HRS.out.cell 1
    have d5 : w1.frozen? ⟨W.heap.size, 0, none⟩ = false := HRS.out.free 0
    have d6 : w1.frozen? ⟨W.heap.size, 1, none⟩ = false := HRS.out.free 1
    clear ha
    go_wp2_with fail
    have q0 := (HFIN.out w1 (Below.refl _ _) 0 0).1.cell 0
    have q1 := (HFIN.out w1 (Below.refl _ _) 0 0).1.cell 1
    refine bodyPost_ret (v := .tuple #[.agg #[.int .i64 0, .int .i64 0], .bool false]) (by simp [results, Try.results17, go_sem, q0, q1]) rfl ⟨by rw [HE2.out]; rfl, (HFIN.out w1 (Below.refl _ _) 0 0).2⟩
  · rw [ha] at hp
    simp only at hp
    obtain ⟨v, rfl, hv⟩ := hp
    have HE2 : Hid (findR (bs p) (bs s) = search a false (bs s)) := Lib.hid (by unfold findR; rw [ha]; rfl)
    have hsz := parse_sz ha
    have HSZ := Lib.hid hsz
    have HBU := Lib.hid (build_any a _ w1 v hv (by omega))
    obtain ⟨vb, rfl⟩ := IsA.ptr a v hv
    clear ha hv hsz
    unfold ptr at HBU ⊢
    go_wp2_with fail
    refine (HBU.out).mono ?_
    rintro e w2 ⟨m, rfl, hm, hb2⟩
    have HF := Lib.hid (find_any false s _ _ w2 m (mach a).1 (mach a).2 hm (mach_ok a) (mach_lt a) (by have := mach_len a; have := HSZ.out; omega) HS.out (fun k hk => hk.2))
    have HB2 := Lib.hid hb2
    clear hm hb2 HBU
    unfold ptr at *
    go_wp2_with fail
    refine (HF.out).mono ?_
    rintro e w3 ⟨rfl, hb3⟩
    have HB3 : Hid (Below w1.heap.size w1 w3) := Lib.hid (HB2.out.trans (hb3.mono HB2.out.size))
    have HE3 : Hid (search a false (bs s) = findF (mach a).2 ((mach a).2.length + 1) (mach a).1 false (bs s) 0 [] (List.replicate (mach a).2.length 0) none) := Lib.hid rfl
    have hrs := HRS.out.below HB3.out
    have d3 : w3.cell? ⟨W.heap.size, 0, none⟩ = some (.int .i64 0) := hrs.cell 0
    have d4 : w3.cell? ⟨W.heap.size, 1, none⟩ = some (.int .i64 0) := hrs.cell 1
    have d5 : w3.frozen? ⟨W.heap.size, 0, none⟩ = false := hrs.free 0
    have d6 : w3.frozen? ⟨W.heap.size, 1, none⟩ = false := hrs.free 1
    clear hb3 HF hrs
    rw [← HE3.out]
    obtain ⟨y1, y2, hy⟩ : ∃ y1 y2 : Int, bestV (search a false (bs s)) = #[.int .i64 y1, .int .i64 y2] := by rcases search a false (bs s) with _ | x <;> exact ⟨_, _, rfl⟩
    have HE4 : Hid (foundV (findR (bs p) (bs s)) = .tuple #[.agg #[.int .i64 y1, .int .i64 y2], .bool (search a false (bs s)).isSome]) := Lib.hid (by rw [HE2.out]; unfold foundV; rw [hy])
    rw [show foundV (search a false (bs s)) = .tuple #[.agg #[.int .i64 y1, .int .i64 y2], .bool (search a false (bs s)).isSome] from by unfold foundV; rw [hy]]
    generalize (search a false (bs s)).isSome = z at *
    clear hy
    go_wp2_with fail
    have q0 := (HFIN.out w3 HB3.out y1 y2).1.cell 0
    have q1 := (HFIN.out w3 HB3.out y1 y2).1.cell 1
    refine bodyPost_ret (v := .tuple #[.agg #[.int .i64 y1, .int .i64 y2], .bool z]) (by simp [results, Try.results17, go_sem, q0, q1]) rfl ⟨by rw [HE4.out], (HFIN.out w3 HB3.out y1 y2).2⟩
end Go.Proofs.Ytheblleadjbndaa
