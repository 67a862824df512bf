/- Walks: Get of labels (the program's and the reference's). Walks: Check, Matches and Negate of matchers (the program's). -/
import Derived.Test.YthckgmbadmilfaaGreatMAW
import Derived.Deep.MidRow
import Derived.Test.YthckgmbadmilfaaGreatMAV
import Derived.Deep.RegionHeld3
namespace Go.Proofs.YthckgmbadmilfaaGreat
open Go.RowKit Go.Shelf
attribute [local go_sem] Oper.semAt_some

/-- A function whose body holds a range over a function, walked by the plain words. -/
theorem calls_marks7 {P : Program} {f : FuncId} {fn : Func} {c : Code} {args : Array Value} {w : World} {R : Ending → World → Prop}
    (hf : P.funcs[f]? = some fn) (hb : fn.body = some c)
    (h : c.wp P (bodyPostM Fence.wide 9 P fn R) { tmps := args ++ Array.replicate (fn.ntmps - args.size) undef, defers := [] } w) : Calls P f args w R :=
  callsIn_wide.1 (callsIn_of_wp_marks (n := 9) hf hb trivial (wpIn_wide.2 h) rfl)
theorem marks_ret17 {P : Program} {fn : Func} {R : Ending → World → Prop} {tmps : Array Value} {w : World} {v : Value} {D : Nat} (hK : w.heap[D]? = some (.deferred (some []))) (h : (results fn tmps).run P (w.putObj D (.deferred none)) = .ok v (w.putObj D (.deferred none))) (hR : R (.returned v) (w.putObj D (.deferred none))) :
    bodyPostM Fence.wide 9 P fn R .ret { tmps, defers := [{ target := .collected D, args := #[] }] } w :=
  ⟨by simp, .inl ⟨_, _, rfl, run_takeDeferred hK, v, h, hR⟩⟩
theorem keeps_of_below7 {B : Nat} {A C : World} (h : Below A.heap.size A C) : KeepsFrom B A C := ⟨h.size, fun _ _ _ h1 _ => (h.block _ (Array.getElem?_eq_some_iff.1 h1).1).trans h1⟩
theorem own_at7 {β : Type} (b : β → Nat) (t : TypeId) (f : β → Array Value) : Go.Own (β := β) (fun s W => At W (b s) (f s) t) := fun s _ _ _ hs hg hr =>
  hs.grown hg (fun e => by obtain ⟨o, ho, hc⟩ := hr (b s) e; rw [hs.out] at ho; injection ho with ho; rw [← ho] at hc; cases hc)
theorem load_plain7 {P : Program} {t : TypeId} (w : World) (a : Addr) (v : Value) (hp : ∀ w : World, (isAgg t).run P w = .ok false w) (hc : w.cell? a = some v) : (loadVar t a).run P w = .ok v w := by
  unfold loadVar
  rw [Sem.run_bind, hp]
  simp [run_load, hc]
theorem results_cell7 {P : Program} {fn : Func} {a : Tmp} {ta : TypeId} (h : fn.results = #[.cell a ta]) (tmps : Array Value) (w : World) {A : Addr} {x : Value}
    (ha : tmps.getD a undef = .pointer (some A)) (pa : ∀ w : World, (isAgg ta).run P w = .ok false w) (ca : w.cell? A = some x) : (results fn tmps).run P w = .ok x w := by
  rw [Array.getD_eq_getD_getElem?] at ha
  simp [results, h, ha, asAddr, load_plain7 w A x pa ca]
theorem plain_of7 {t : TypeId} {d : TypeDesc} (hu : Tryz.prog.underlying t = some d) (hd : d.isRow = false) (w : World) : (isAgg t).run Tryz.prog w = .ok false w := by
  unfold isAgg
  rw [Sem.run_bind, run_underlying hu]
  cases d <;> first | rfl | cases hd
theorem cell_putObj7 {W : World} {D r : Nat} {o : Obj} {c : Array Value} {t : TypeId} (h : At W r c t) (hne : r ≠ D) : At (W.putObj D o) r c t := ⟨by rw [World.putObj_heap_other hne]; exact h.out⟩

theorem getL_hit {ls : List Lab} {name : ByteArray} : ∀ {k : Nat} (h : k < ls.length), (∀ j (hj : j < ls.length), j < k → (ls[j]).name ≠ name) → (ls[k]).name = name → getL ls name = (ls[k]).value := by
  induction ls with
  | nil => intro k h; simp at h
  | cons x r ih =>
    intro k h h1 h2
    unfold getL
    cases k with
    | zero => rw [if_pos (show x.name = name from h2)]; rfl
    | succ k =>
      rw [if_neg (show ¬ x.name = name from h1 0 (by simp) (by omega))]
      exact ih (by simpa using h) (fun j hj hjk => h1 (j + 1) (by simpa using hj) (by omega)) h2
theorem getL_miss {ls : List Lab} {name : ByteArray} (h : ∀ x ∈ ls, x.name ≠ name) : getL ls name = ByteArray.empty := by
  induction ls with
  | nil => rfl
  | cons x r ih =>
    unfold getL
    rw [if_neg (h x (by simp))]
    exact ih fun y hy => h y (by simp [hy])

theorem marked_stops (n : Nat) (hn : 1 ≤ n) (Bl Bn Bd n₀ : Nat) (A : Option Addr) (c : Nat) (ls : List Lab) (name : ByteArray) (w : World)
    (hBl : At w Bl #[.slice A ls.length c] 31) (hBn : At w Bn #[.slice (some ⟨Bd, 0, none⟩) 1 1] 60) (hBd : At w Bd #[.string name] 9)
    (hn1 : Bn < n₀) (hn2 : Bd < n₀) (hnb : n₀ ≤ w.heap.size) (hls : LabsIn n₀ w A ls) (hl : ls.length ≤ 9223372036854775807) :
    SeqStopsK Fence.wide n Tryz.prog 147 #[.pointer (some ⟨Bl, 0, none⟩), .pointer (some ⟨Bn, 0, none⟩)] (mkEnc ls name) (Below n₀) (fun l => l = List.finRange ls.length) (fun pre => ∃ k, k ≤ ls.length ∧ pre = (List.finRange ls.length).take k) ls.length w := fun l J Jx W hW hJ _ hY h0 =>
  marked_in n hn l Bl Bn Bd n₀ A c ls name J Jx W hJ hY h0 (hBl.below hW) (hBn.below hW) (hBd.below hW) hn1 hn2 (Nat.le_trans hnb hW.size) (hls.below (hW.mono hnb)) hl
set_option maxHeartbeats 400000 in
theorem marked_any (A A2 : Option Addr) (k c k2 c2 : Nat) (w : World) :
    Calls Tryz.prog 126 #[.slice A k c, .slice A2 k2 c2] w fun e w' => e = .returned (.func (.func 147) #[] #[.pointer (some ⟨w.heap.size, 0, none⟩), .pointer (some ⟨w.heap.size + 1, 0, none⟩)]) ∧ w' = (w.alloc (.cells #[.slice A k c] 31)).alloc (.cells #[.slice A2 k2 c2] 60) := by
  go_enter Tryz.func126, Tryz.ntmps126
  go_wp2_with fail
  go_ret
  exact ⟨rfl, rfl⟩
set_option maxRecDepth 100000 in
set_option maxHeartbeats 2000000 in
theorem get_any (A : Option Addr) (c : Nat) (ls : List Lab) (name : ByteArray) (w : World) (hr : LabsIn w.heap.size w A ls) (hl : ls.length ≤ 9223372036854775807) :
    Calls Tryz.prog 85 #[.slice A ls.length c, .string name] w fun e w' => e = .returned (.string (getL ls name)) ∧ Below w.heap.size w w' := by
  have HRD := Lib.hid hr
  have HL := Lib.hid hl
  clear hr hl
  refine calls_marks7 Tryz.func85 rfl ?_
  simp only [Tryz.ntmps85, List.size_toArray, List.length_cons, List.length_nil, Nat.reduceAdd, Nat.reduceSub, Array.replicate_succ,
     Array.replicate_zero, List.push_toArray, List.append_toArray, List.nil_append, List.cons_append]
  go_wp2_with fail
  refine (marked_any _ _ _ _ _ _ _).mono ?_
  rintro e w4 ⟨rfl, hw4⟩
  have z1 : (w.alloc (.cells #[.string ⟨#[]⟩] 9)).heap.size = w.heap.size + 1 := by simp
  have z2 : ((w.alloc (.cells #[.string ⟨#[]⟩] 9)).alloc (.cells #[.string name] 9)).heap.size = w.heap.size + 2 := by simp
  have a1 := At.new (w.alloc (.cells #[.string ⟨#[]⟩] 9)) #[.string name] 9
  have a2 := At.new ((w.alloc (.cells #[.string ⟨#[]⟩] 9)).alloc (.cells #[.string name] 9)) #[.slice A ls.length c] 31
  have a3 := At.new (((w.alloc (.cells #[.string ⟨#[]⟩] 9)).alloc (.cells #[.string name] 9)).alloc (.cells #[.slice A ls.length c] 31)) #[.slice (some ⟨w.heap.size + 1, 0, none⟩) 1 1] 60
  rw [z1] at a1
  rw [z2] at a2 ⊢
  rw [show (((w.alloc (.cells #[.string ⟨#[]⟩] 9)).alloc (.cells #[.string name] 9)).alloc (.cells #[.slice A ls.length c] 31)).heap.size = w.heap.size + 3 by simp] at a3
  have HR4 : Hid (At w4 w.heap.size #[.string ⟨#[]⟩] 9) := Lib.hid (by rw [hw4]; exact (((At.new w _ _).alloc _).alloc _).alloc _)
  have HD4 : Hid (At w4 (w.heap.size + 1) #[.string name] 9) := Lib.hid (by rw [hw4]; exact (a1.alloc _).alloc _)
  have HL4 : Hid (At w4 (w.heap.size + 2) #[.slice A ls.length c] 31) := Lib.hid (by rw [hw4]; exact a2.alloc _)
  have HN4 : Hid (At w4 (w.heap.size + 3) #[.slice (some ⟨w.heap.size + 1, 0, none⟩) 1 1] 60) := Lib.hid (by rw [hw4]; exact a3)
  have HB4 : Hid (Below w.heap.size w w4) := Lib.hid (by rw [hw4]; exact ((((Below.refl _ _).alloc (Nat.le_refl _) _).alloc (by simp) _).alloc (by simp; omega) _).alloc (by simp; omega) _)
  have hsz : w4.heap.size = w.heap.size + 4 := by rw [hw4]; simp
  have HLS4 : Hid (LabsIn (w.heap.size + 4) w4 A ls) := Lib.hid ((HRD.out.below HB4.out).mono (by omega))
  clear hw4 a1 a2 a3 z1 z2
  obtain ⟨I, hIe⟩ : ∃ I : List (Fin ls.length) → World → Prop, I = (fun pre W => At W w.heap.size #[.string ⟨#[]⟩] 9 ∧ Below w.heap.size w W ∧ w4.heap.size ≤ W.heap.size ∧ ∀ y ∈ pre, (ls[y]).name ≠ name) := ⟨_, rfl⟩
  obtain ⟨Ix, hIxe⟩ : ∃ Ix : Code → List (Fin ls.length) → World → Prop, Ix = (fun c pre W => c = .ret ∧ (∃ q x, pre = q ++ [x] ∧ (∀ y ∈ q, (ls[y]).name ≠ name) ∧ (ls[x]).name = name ∧ At W w.heap.size #[.string (ls[x]).value] 9) ∧ Below w.heap.size w W) := ⟨_, rfl⟩
  have HIE := Lib.hid hIe
  have HIX := Lib.hid hIxe
  clear hIe hIxe
  go_wp2_with fail
  refine (wpIn_wide (n := 9)).1 ?_
  refine wpIn_rangeFunc_ownH rfl (by decide) (gf := 147) (lb := #[.pointer (some ⟨w.heap.size + 2, 0, none⟩), .pointer (some ⟨w.heap.size + 2 + 1, 0, none⟩)]) rfl trivial (enters_of Tryz.func147 (by kernel_rfl) rfl)
    (marked_stops 8 (by decide) (w.heap.size + 2) (w.heap.size + 3) (w.heap.size + 1) (w.heap.size + 4) A c ls name w4 HL4.out HN4.out HD4.out (by omega) (by omega) (by omega) HLS4.out HL.out)
    belowK_t (belowK_b (by omega)) (Below.refl _ _) (fun _ => rfl)
    I Ix ?hI ?hIx (by rw [HIE.out]; exact ⟨HR4.out, HB4.out, Nat.le_refl _, fun y hy => by simp at hy⟩)
    (fun x a' W => ∃ Bx, w4.heap.size ≤ Bx ∧ At W Bx #[.string (ls[x]).name, .string (ls[x]).value] 51 ∧ a' = { tmps := #[.slice A ls.length c, .string name, undef, undef, .pointer (some ⟨w.heap.size, 0, none⟩), .pointer (some ⟨Bx, 0, none⟩), .bool (decide ((ls[x]).name = name)), .slice A ls.length c, .string name, .slice (some ⟨w.heap.size + 1, 0, none⟩) 1 1, .func (.func 147) #[] #[.pointer (some ⟨w.heap.size + 2, 0, none⟩), .pointer (some ⟨w.heap.size + 2 + 1, 0, none⟩)], .agg #[.string (ls[x]).name, .string (ls[x]).value], .bool (decide ((ls[x]).name = name)), undef, undef, undef], defers := [] })
    ?hAx ?assign ?body ?done ?stop
  case hI =>
    rw [HIE.out]
    exact OwnFrom.and (fun pre X Y row hs hg hr => (own_at7 (β := Unit) (fun _ => w.heap.size) 9 (fun _ => #[.string ⟨#[]⟩])).from _ () X Y row hs hg hr) (OwnFrom.and (ownFrom_below (Nat.le_refl _) (by omega)) (OwnFrom.and (fun pre X Y row hs hg hr => Nat.le_trans hs hg.size) (fun pre X Y row hs hg hr => hs)))
  case hIx =>
    rw [HIX.out]
    rintro c pre X Y row ⟨h0, ⟨q, x, h1, h2, h3, h4⟩, h5⟩ hg hr
    exact ⟨h0, ⟨q, x, h1, h2, h3, (own_at7 (β := Unit) (fun _ => w.heap.size) 9 (fun _ => #[.string (ls[x]).value])).from _ () X Y row h4 hg hr⟩, (ownFrom_below (β := Unit) (n₀ := w.heap.size) (w₀ := w) (Nat.le_refl _) (show w.heap.size ≤ w4.heap.size by omega)) () X Y row h5 hg hr⟩
  case hAx =>
    rintro x a' _ X Y row ⟨Bx, h1, h2, h3⟩ hg hr
    exact ⟨Bx, h1, (own_at7 (β := Unit) (fun _ => Bx) 51 (fun _ => #[.string (ls[x]).name, .string (ls[x]).value])).from _ () X Y row h2 hg hr, h3⟩
  case assign =>
    intro l pre x W K hi hK
    have hE : mkEnc ls name x = #[.agg #[.string (ls[x]).name, .string (ls[x]).value], .bool (decide ((ls[x]).name = name))] := rfl
    rw [hE]
    clear hE
    rw [HIE.out] at hi
    obtain ⟨hr0, hbw, hs4, hI2⟩ := hi
    have hbN : Below W.heap.size W (W.alloc (.cells #[.string (ls[x]).name, .string (ls[x]).value] 51)) := (Below.refl _ _).alloc (Nat.le_refl _) _
    have HK := Lib.hid (hK _ _ (keeps_of_below7 hbN) (hbN.mono (by omega)) (by rw [HIE.out]; exact ⟨hr0.alloc _, hbw.alloc hbw.size _, by have := hbN.size; omega, hI2⟩) ⟨W.heap.size, hs4, At.new _ _ _, rfl⟩)
    clear hK hI2
    generalize (ls[x]).name = nx at *
    generalize (ls[x]).value = vx at *
    generalize decide (nx = name) = dx at *
    gi_wp2
    exact HK.out
  case body =>
    rintro l pre x a' W _ _ hi ⟨Bx, hBx, hat, rfl⟩ hlen
    rw [HIE.out] at hi
    obtain ⟨hr0, hbw, hs4, hno⟩ := hi
    have e1 := hat.cell 1
    have fr := hr0.free 0
    have cr := hr0.cell 0
    by_cases hx : (ls[x]).name = name
    · have hb2 : Below w.heap.size w (W.setCell ⟨w.heap.size, 0, none⟩ (.string (ls[x]).value)) := hbw.setCell (p := ⟨w.heap.size, 0, none⟩) (Nat.le_refl _) _
      have HF : Hid (∀ a', ownPostG w4.heap.size (Below (w.heap.size + 4)) I Ix (pre ++ [x]) W .ret a' (W.setCell ⟨w.heap.size, 0, none⟩ (.string (ls[x]).value))) := Lib.hid fun a' =>
        ⟨(KeepsOthers.setCell _ _ _).from _, by rw [HIX.out]; exact ⟨rfl, ⟨pre, x, rfl, hno, hx, hr0.set 0 _⟩, hb2⟩⟩
      have hd : decide ((ls[x]).name = name) = true := decide_eq_true hx
      rw [hd]
      clear hb2 hno hd hx
      generalize (ls[x]).value = vx at *
      generalize (ls[x]).name = nx at *
      gi_wp2
      exact HF.out _
    · have hd : decide ((ls[x]).name = name) = false := decide_eq_false hx
      have HF : Hid (∀ a', ownPostG w4.heap.size (Below (w.heap.size + 4)) I Ix (pre ++ [x]) W .normal a' W) := Lib.hid fun a' =>
        ⟨(KeepsOthers.refl _).from _, Below.refl _ _, by
          rw [HIE.out]
          refine ⟨hr0, hbw, hs4, fun y hy => ?_⟩
          rcases List.mem_append.1 hy with hy | hy
          · exact hno y hy
          · rw [List.mem_singleton.1 hy]; exact hx⟩
      rw [hd]
      clear hno hd hx
      generalize (ls[x]).value = vx at *
      generalize (ls[x]).name = nx at *
      gi_wp2
      exact HF.out _
  case done =>
    rintro D ys W hD rfl hi hK
    rw [HIE.out] at hi
    obtain ⟨hr0, hbw, hs4, hno⟩ := hi
    have fr := hr0.free 0
    have cr := hr0.cell 0
    have hg : getL ls name = ⟨#[]⟩ := getL_miss fun y hy => by
      obtain ⟨j, hj, rfl⟩ := List.getElem_of_mem hy
      exact hno ⟨j, hj⟩ (List.mem_finRange _)
    have HG := Lib.hid hg
    have hne : w.heap.size ≠ D := by omega
    have R0 := Lib.hid (hr0.set 0 (.string ⟨#[]⟩))
    have HB2 : Hid (Below w.heap.size w (W.setCell ⟨w.heap.size, 0, none⟩ (.string ⟨#[]⟩))) := Lib.hid (hbw.setCell (p := ⟨w.heap.size, 0, none⟩) (Nat.le_refl _) _)
    have HK2 : Hid ((W.setCell ⟨w.heap.size, 0, none⟩ (.string ⟨#[]⟩)).heap[D]? = some (.deferred (some []))) := Lib.hid (by rw [heap_setCell_other _ _ _ _ (by show D ≠ w.heap.size; omega)]; exact hK)
    clear hno hg hK
    go_wp2_with fail
    refine marks_ret17 HK2.out (results_cell7 rfl _ _ rfl (plain_of7 Tryz.underlying9 rfl) ((cell_putObj7 R0.out hne).cell 0)) ⟨ret_str HG.out.symm, ?_⟩
    exact HB2.out.grown (grownBy_putObj' _ D (.deferred none)) HB2.out.size (fun k e => by cases e; omega)
  case stop =>
    rintro D c pre W hD ⟨k, hk, hpk⟩ hi hK
    rw [HIX.out] at hi
    obtain ⟨rfl, ⟨q, x, h1, h2, h3, h4⟩, h5⟩ := hi
    have hg : getL ls name = (ls[x]).value := by
      have hkl : pre.length = k := by rw [hpk, finTake_len7 hk]
      have hql : q.length + 1 = k := by rw [← hkl, h1]; simp
      have hx : x = ⟨q.length, by omega⟩ := by
        have e1 : pre[q.length]? = some x := by rw [h1]; simp
        rw [hpk, List.getElem?_take_of_lt (by omega)] at e1
        rw [List.getElem?_eq_getElem (by simp; omega)] at e1
        simp at e1
        exact e1.symm
      subst hx
      refine getL_hit (k := q.length) _ (fun j hj hjk => h2 ⟨j, hj⟩ ?_) h3
      have e2 : q[j]? = some ⟨j, hj⟩ := by
        have e3 : pre[j]? = q[j]? := by rw [h1, List.getElem?_append_left hjk]
        rw [← e3, hpk, List.getElem?_take_of_lt (by omega), List.getElem?_eq_getElem (by simp; omega)]
        simp
      exact List.mem_of_getElem? e2
    have HG := Lib.hid hg
    have hne : w.heap.size ≠ D := by omega
    refine wpIn_ret ?_
    refine marks_ret17 hK (results_cell7 rfl _ _ rfl (plain_of7 Tryz.underlying9 rfl) ((cell_putObj7 h4 hne).cell 0)) ⟨ret_str HG.out.symm, ?_⟩
    exact h5.grown (grownBy_putObj' _ D (.deferred none)) h5.size (fun k e => by cases e; omega)
end Go.Proofs.YthckgmbadmilfaaGreat

namespace Go.Proofs.YthckgmbadmilfaaGreat
open Go.RowKit

theorem eqS (a b : ByteArray) : (a.toList == b.toList) = decide (a = b) := by
  rw [Bool.eq_iff_iff, beq_iff_eq, decide_eq_true_eq, toList_bs, toList_bs]
  exact ⟨bs_inj, fun h => by rw [h]⟩
theorem chkMF_step {ms : List Mt} {k : Nat} (h : k < ms.length) : chkMF (ms.drop k) = if chkM ms[k] = 0 then chkMF (ms.drop (k + 1)) else chkM ms[k] := by
  rw [List.drop_eq_getElem_cons h]
  rfl
theorem chkMF_end {ms : List Mt} {k : Nat} (h : ms.length ≤ k) : chkMF (ms.drop k) = 0 := by
  rw [List.drop_eq_nil_of_le h]
  rfl
set_option maxRecDepth 100000 in
set_option maxHeartbeats 1000000 in
theorem mcheck_any (A : Option Addr) (c : Nat) (ms : List Mt) (w : World) (hr : MtsIn w.heap.size w A ms) :
    Calls Tryz.prog 23 #[.slice A ms.length c] w fun e w' => e = .returned (.int .i64 (chkMs ms)) ∧ Below w.heap.size w w' := by
  by_cases h16 : 16 < ms.length
  · have HR : Hid (chkMs ms = 4) := Lib.hid (by unfold chkMs; rw [if_pos h16])
    go_enter Tryz.func23, Tryz.ntmps23
    go_wp2_with fail
    go_ret
    exact ⟨ret_int HR.out.symm, Below.refl _ _⟩
  · have HR : Hid (chkMs ms = chkMF (ms.drop 0)) := Lib.hid (by unfold chkMs; rw [if_neg h16]; rfl)
    have HRD := Lib.hid hr
    have hlen : ms.length ≤ 16 := by omega
    clear hr
    go_enter Tryz.func23, Tryz.ntmps23
    go_wp2_with fail
    go_loopw [11] (fun i wr => ∃ k : Nat, k ≤ ms.length ∧ i = .int .i64 k ∧ Hid (chkMs ms = chkMF (ms.drop k)) ∧ Below w.heap.size w wr) (fun i _ => ms.length - (intOf i).toNat)
    case atStart => exact ⟨0, Nat.zero_le _, rfl, HR, Below.refl _ _⟩
    case round =>
      obtain ⟨k, hk, rfl, HK, hD⟩ := hrel
      have HD := Lib.hid hD
      clear HR hD
      by_cases hlt : k < ms.length
      · have HST := Lib.hid (chkMF_step hlt)
        obtain ⟨b, o, rfl, hb, c0, c1, c2⟩ := (HRD.out.below HD.out).at_ k hlt
        have hb : b < wr.heap.size := Nat.lt_of_lt_of_le hb HD.out.size
        obtain ⟨x, hx⟩ : ∃ x, ms[k] = x := ⟨_, rfl⟩
        rw [hx] at HST c0 c1 c2
        clear hx
        have HW : Hid (Below w.heap.size w (wr.alloc (.cells #[.int .i64 x.kind, .string x.name, .string x.value] 39))) := Lib.hid (HD.out.alloc HD.out.size _)
        have HCO := Lib.hid (checkOne_any x (wr.alloc (.cells #[.int .i64 x.kind, .string x.name, .string x.value] 39)))
        by_cases hz : chkM x = 0
        · rw [hz] at HCO
          have HN : Hid (chkMs ms = chkMF (ms.drop (k + 1))) := Lib.hid (by rw [HK.out, HST.out, if_pos hz])
          clear hz HST HK
          go_wp2_with fail
          refine HCO.out.mono ?_
          rintro e w1 ⟨rfl, hb1⟩
          have HB1 := Lib.hid (HW.out.trans (hb1.mono HW.out.size))
          clear hb1 HCO
          go_wp2_with fail
          go_roundw
          case rel => exact ⟨k + 1, by omega, by go_num, HN, HB1.out⟩
          case measure => simp [intOf]; omega
        · have HN : Hid (chkMs ms = chkM x) := Lib.hid (by rw [HK.out, HST.out, if_neg hz])
          have hzb : (chkM x != 0) = true := by simpa using hz
          clear hz HST HK
          generalize chkM x = z at *
          go_wp2_with fail
          refine HCO.out.mono ?_
          rintro e w1 ⟨rfl, hb1⟩
          have HB1 := Lib.hid (HW.out.trans (hb1.mono HW.out.size))
          clear hb1 HCO
          go_wp2_with fail
          go_ret
          exact ⟨ret_int HN.out.symm, HB1.out⟩
      · have HN : Hid (chkMs ms = 0) := Lib.hid (by rw [HK.out, chkMF_end (Nat.le_of_not_lt hlt)])
        go_wp2_with fail
        go_ret
        exact ⟨ret_int HN.out.symm, HD.out⟩
set_option maxRecDepth 100000 in
set_option maxHeartbeats 1000000 in
theorem fit_any (m : Mt) (v : ByteArray) (w : World) (hv : v.size ≤ 40000) : Calls Tryz.prog 51 #[.agg #[.int .i64 m.kind, .string m.name, .string m.value], .string v] w fun e w' => e = .returned (.bool (fitM m v)) ∧ Below w.heap.size w w' := by
  have HAT0 := Lib.hid (At.new w #[.int .i64 m.kind, .string m.name, .string m.value] 39)
  have HB0 : Hid (Below w.heap.size w (w.alloc (.cells #[.int .i64 m.kind, .string m.name, .string m.value] 39))) := Lib.hid ((Below.refl _ _).alloc (Nat.le_refl _) _)
  have HV := Lib.hid hv
  clear hv
  go_enter Tryz.func51, Tryz.ntmps51
  go_upto_region 1 with fail
  generalize w.alloc (.cells #[.int .i64 m.kind, .string m.name, .string m.value] 39) = w0 at *
  have c0 := HAT0.out.cell 0
  have c2 := HAT0.out.cell 2
  by_cases h1 : m.kind = 1
  · have HR := Lib.hid (fit_one h1 v)
    have h1b : (m.kind == 1) = true := by rw [h1]; rfl
    clear h1
    go_wp2_with fail
    go_ret
    exact ⟨ret_bool (by rw [HR.out, ← eqS]), HB0.out⟩
  have h1b : (m.kind == 1) = false := beq_eq_false_iff_ne.2 h1
  by_cases h2 : m.kind = 2
  · have HR := Lib.hid (fit_two h2 v)
    have h2b : (m.kind == 2) = true := by rw [h2]; rfl
    clear h1 h2
    go_wp2_with fail
    go_ret
    exact ⟨ret_bool (by rw [HR.out, ← eqS]), HB0.out⟩
  have h2b : (m.kind == 2) = false := beq_eq_false_iff_ne.2 h2
  by_cases h3 : m.kind = 3
  · have HR := Lib.hid (fit_three h3 v)
    have h3b : (m.kind == 3) = true := by rw [h3]; rfl
    clear h1 h2 h3
    go_wp2_with fail
    refine (match_any m.value v w0 HV.out).mono ?_
    rintro e w1 ⟨rfl, hb1⟩
    have HB1 := Lib.hid (HB0.out.trans (hb1.mono HB0.out.size))
    clear hb1
    go_wp2_with fail
    go_ret
    exact ⟨ret_bool HR.out.symm, HB1.out⟩
  have h3b : (m.kind == 3) = false := beq_eq_false_iff_ne.2 h3
  have HR : Hid (fitM m v = !Rx.matchR (bs m.value) (bs v)) := Lib.hid (by unfold fitM; rw [if_neg h1, if_neg h2, if_neg h3])
  clear h1 h2 h3
  go_wp2_with fail
  refine (match_any m.value v w0 HV.out).mono ?_
  rintro e w1 ⟨rfl, hb1⟩
  have HB1 := Lib.hid (HB0.out.trans (hb1.mono HB0.out.size))
  clear hb1
  go_wp2_with fail
  go_ret
  exact ⟨ret_bool HR.out.symm, HB1.out⟩
set_option maxHeartbeats 400000 in
theorem valueOf_any (A : Option Addr) (c : Nat) (ls : List Lab) (name : ByteArray) (w : World) (hr : LabsIn w.heap.size w A ls) (hl : ls.length ≤ 9223372036854775807) :
    Calls Tryz.prog 52 #[.string name, .slice A ls.length c] w fun e w' => e = .returned (.string (getL ls name)) ∧ Below w.heap.size w w' := by
  have HG := Lib.hid (get_any A c ls name w hr hl)
  clear hr hl
  go_enter Tryz.func52, Tryz.ntmps52
  go_wp2_with fail
  refine HG.out.mono ?_
  rintro e w1 ⟨rfl, hb1⟩
  go_wp2_with fail
  go_ret
  exact ⟨rfl, hb1⟩

theorem fitsM_snoc {ms : List Mt} {ls : List Lab} {k : Nat} (h : k < ms.length) : fitsM (ms.take (k + 1)) ls = (fitsM (ms.take k) ls && fitM ms[k] (getL ls (ms[k]).name)) := by
  unfold fitsM
  rw [List.take_succ_eq_append_getElem h, List.all_append]
  simp
theorem fitsM_part {ms : List Mt} {ls : List Lab} {k : Nat} (h : k < ms.length) (hf : fitM ms[k] (getL ls (ms[k]).name) = false) : fitsM ms ls = false := by
  cases he : fitsM ms ls
  · rfl
  · unfold fitsM at he
    rw [List.all_eq_true] at he
    rw [he _ (List.getElem_mem h)] at hf
    cases hf
theorem getL_size {ls : List Lab} {n : ByteArray} {M : Nat} (h : ∀ x ∈ ls, x.value.size ≤ M) : (getL ls n).size ≤ M := by
  induction ls with
  | nil => exact Nat.zero_le _
  | cons x r ih =>
    unfold getL
    split
    · exact h x (by simp)
    · exact ih fun y hy => h y (by simp [hy])
set_option maxRecDepth 100000 in
set_option maxHeartbeats 2000000 in
theorem mmatches_any (A A2 : Option Addr) (c cc : Nat) (ms : List Mt) (ls : List Lab) (w : World) (hr : MtsIn w.heap.size w A ms) (hl : LabsIn w.heap.size w A2 ls) (hll : ls.length ≤ 9223372036854775807) (hv : ∀ x ∈ ls, x.value.size ≤ 40000) :
    Calls Tryz.prog 22 #[.slice A ms.length c, .slice A2 ls.length cc] w fun e w' => e = .returned (.bool (matM ms ls)) ∧ Below w.heap.size w w' := by
  have HCK := Lib.hid (mcheck_any A c ms w hr)
  have HRD := Lib.hid hr
  have HLS := Lib.hid hl
  have HV := Lib.hid hv
  clear hr hl hv
  by_cases hz : chkMs ms = 0
  · have HM : Hid (matM ms ls = fitsM ms ls) := Lib.hid (by unfold matM; rw [decide_eq_true hz, Bool.true_and])
    rw [hz] at HCK
    have hlen : ms.length ≤ 16 := (chkMs_iff.1 hz).1
    clear hz
    go_enter Tryz.func22, Tryz.ntmps22
    go_wp2_with fail
    refine HCK.out.mono ?_
    rintro e w1 ⟨rfl, hb1⟩
    have HB1 := Lib.hid hb1
    clear hb1 HCK
    go_wp2_with fail
    go_loopw [12] (fun i wr => ∃ k : Nat, k ≤ ms.length ∧ i = .int .i64 k ∧ Hid (fitsM (ms.take k) ls = true) ∧ Below w.heap.size w wr) (fun i _ => ms.length - (intOf i).toNat)
    case atStart => exact ⟨0, Nat.zero_le _, rfl, Lib.hid rfl, HB1.out⟩
    case round =>
      obtain ⟨k, hk, rfl, HK, hD⟩ := hrel
      have HD := Lib.hid hD
      clear HB1 hD
      by_cases hlt : k < ms.length
      · have HST := Lib.hid (fitsM_snoc (ls := ls) hlt)
        have HPT := Lib.hid (fitsM_part (ls := ls) hlt)
        obtain ⟨b, o, rfl, hb, c0, c1, c2⟩ := (HRD.out.below HD.out).at_ k hlt
        have hb : b < wr.heap.size := Nat.lt_of_lt_of_le hb HD.out.size
        obtain ⟨x, hx⟩ : ∃ x, ms[k] = x := ⟨_, rfl⟩
        rw [hx] at HST HPT c0 c1 c2
        clear hx
        have HW : Hid (Below w.heap.size w (wr.alloc (.cells #[.int .i64 x.kind, .string x.name, .string x.value] 39))) := Lib.hid (HD.out.alloc HD.out.size _)
        have HX := Lib.hid (At.new wr #[.int .i64 x.kind, .string x.name, .string x.value] 39)
        have hgs := getL_size (n := x.name) HV.out
        have hwr : w.heap.size ≤ wr.heap.size := HD.out.size
        go_upto_region 6 with fail
        generalize wr.alloc (.cells #[.int .i64 x.kind, .string x.name, .string x.value] 39) = w2 at *
        generalize wr.heap.size = Bx at *
        have HVO : Hid (∀ W, (W.cell? ⟨Bx, 0, none⟩ = some (.int .i64 x.kind) ∧ W.cell? ⟨Bx, 1, none⟩ = some (.string x.name) ∧ W.cell? ⟨Bx, 2, none⟩ = some (.string x.value) ∧ Bx < W.heap.size ∧ Below w.heap.size w W) →
            Calls Tryz.prog 52 #[.string x.name, .slice A2 ls.length cc] W fun e w' => e = .returned (.string (getL ls x.name)) ∧ (w'.cell? ⟨Bx, 0, none⟩ = some (.int .i64 x.kind) ∧ w'.cell? ⟨Bx, 1, none⟩ = some (.string x.name) ∧ w'.cell? ⟨Bx, 2, none⟩ = some (.string x.value) ∧ Bx < w'.heap.size ∧ Below w.heap.size w w') ∧ Below W.heap.size W w') := Lib.hid (by
          rintro W ⟨h0, h1, h2, h3, h4⟩
          refine (valueOf_any A2 _ ls x.name W ((HLS.out.below h4).mono h4.size) hll).mono ?_
          rintro e w' ⟨rfl, hb'⟩
          exact ⟨rfl, ⟨(hb'.cell (p := ⟨Bx, 0, none⟩) h3).trans h0, (hb'.cell (p := ⟨Bx, 1, none⟩) h3).trans h1, (hb'.cell (p := ⟨Bx, 2, none⟩) h3).trans h2, Nat.lt_of_lt_of_le h3 hb'.size, h4.trans (hb'.mono h4.size)⟩, hb'⟩)
        have HMA : Hid (∀ W, (W.cell? ⟨Bx, 0, none⟩ = some (.int .i64 x.kind) ∧ W.cell? ⟨Bx, 1, none⟩ = some (.string x.name) ∧ W.cell? ⟨Bx, 2, none⟩ = some (.string x.value) ∧ Bx < W.heap.size ∧ Below w.heap.size w W) →
            Calls Tryz.prog 51 #[.agg #[.int .i64 x.kind, .string x.name, .string x.value], .string (getL ls x.name)] W fun e w' => e = .returned (.bool (fitM x (getL ls x.name))) ∧ (w'.cell? ⟨Bx, 0, none⟩ = some (.int .i64 x.kind) ∧ w'.cell? ⟨Bx, 1, none⟩ = some (.string x.name) ∧ w'.cell? ⟨Bx, 2, none⟩ = some (.string x.value) ∧ Bx < w'.heap.size ∧ Below w.heap.size w w') ∧ Below W.heap.size W w') := Lib.hid (by
          rintro W ⟨h0, h1, h2, h3, h4⟩
          refine (fit_any x (getL ls x.name) W hgs).mono ?_
          rintro e w' ⟨rfl, hb'⟩
          exact ⟨rfl, ⟨(hb'.cell (p := ⟨Bx, 0, none⟩) h3).trans h0, (hb'.cell (p := ⟨Bx, 1, none⟩) h3).trans h1, (hb'.cell (p := ⟨Bx, 2, none⟩) h3).trans h2, Nat.lt_of_lt_of_le h3 hb'.size, h4.trans (hb'.mono h4.size)⟩, hb'⟩)
        have HI : Hid (w2.drew.cell? ⟨Bx, 0, none⟩ = some (.int .i64 x.kind) ∧ w2.drew.cell? ⟨Bx, 1, none⟩ = some (.string x.name) ∧ w2.drew.cell? ⟨Bx, 2, none⟩ = some (.string x.value) ∧ Bx < w2.drew.heap.size ∧ Below w.heap.size w w2.drew) := Lib.hid ⟨HX.out.drew.cell 0, HX.out.drew.cell 1, HX.out.drew.cell 2, HX.out.drew.lt, bN HW.out 1⟩
        obtain ⟨r, hrr⟩ : ∃ r, fitM x (getL ls x.name) = r := ⟨_, rfl⟩
        rw [hrr] at HMA HST HPT
        clear hrr hgs c0 c1 c2
        generalize getL ls x.name = g at *
        go_region_held3 (fun w' => w'.cell? ⟨Bx, 0, none⟩ = some (.int .i64 x.kind) ∧ w'.cell? ⟨Bx, 1, none⟩ = some (.string x.name) ∧ w'.cell? ⟨Bx, 2, none⟩ = some (.string x.value) ∧ Bx < w'.heap.size ∧ Below w.heap.size w w') ((first | assumption | exact HI.out | go_keep))
          (first | (go_at_call 52; refine (HVO.out _ (by assumption)).mono ?_; rintro e w' ⟨rfl, hs4, hb⟩) | (go_at_call 51; refine (HMA.out _ (by assumption)).mono ?_; rintro e w' ⟨rfl, hs4, hb⟩))
        have HE := Lib.hid hs4.2.2.2.2
        clear hs4 hb
        cases r
        · have HN : Hid (fitsM ms ls = false) := Lib.hid (HPT.out rfl)
          go_wp2_with fail
          go_ret
          exact ⟨ret_bool (by rw [HM.out, HN.out]), HE.out⟩
        · have HN : Hid (fitsM (ms.take (k + 1)) ls = true) := Lib.hid (by rw [HST.out, HK.out]; rfl)
          go_wp2_with fail
          go_roundw
          case rel => exact ⟨k + 1, by omega, by go_num, HN, HE.out⟩
          case measure => simp [intOf]; omega
      · have HN : Hid (fitsM ms ls = true) := Lib.hid (by
          have := HK.out
          rw [List.take_of_length_le (by omega)] at this
          exact this)
        go_wp2_with fail
        go_ret
        exact ⟨ret_bool (by rw [HM.out, HN.out]), HD.out⟩
  · have HM : Hid (matM ms ls = false) := Lib.hid (by unfold matM; rw [decide_eq_false hz, Bool.false_and])
    have hzb : (chkMs ms != 0) = true := by simpa using hz
    clear hz
    generalize chkMs ms = z at *
    go_enter Tryz.func22, Tryz.ntmps22
    go_wp2_with fail
    refine HCK.out.mono ?_
    rintro e w1 ⟨rfl, hb1⟩
    have HB1 := Lib.hid hb1
    clear hb1 HCK
    go_wp2_with fail
    go_ret
    exact ⟨ret_bool HM.out.symm, HB1.out⟩
end Go.Proofs.YthckgmbadmilfaaGreat
