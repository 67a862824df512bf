/- A region that draws its order, each operation of which yields the same in every order: one walk. -/
import Derived.Orders
import Derived.Test.YthckgmbadmilfaaGreatMAG
namespace Go.Proofs.YthckgmbadmilfaaGreat
open Go.RowKit

/-- What stands in the temporaries when some operations are done. -/
structure Fx (ops : Array Oper) (a0 : Act) (vals : Nat → Value) (listed : Array Bool) (act : Act) : Prop where
  size : listed.size = ops.size
  defers : act.defers = a0.defers
  tsize : act.tmps.size = a0.tmps.size
  got : ∀ (i : Nat) (o : Oper) (d : Nat), ops[i]? = some o → o.dst = some d → listed[i]? = some true → act.tmps[d]? = some (vals i)
  kept : ∀ d, (∀ (i : Nat) (o : Oper), ops[i]? = some o → o.dst = some d → listed[i]? ≠ some true) → act.tmps[d]? = a0.tmps[d]?
  down : ∀ (i : Nat) (o : Oper) (e : Edge), ops[i]? = some o → listed[i]? = some true → e ∈ o.after → Region.binds .any e = true → listed[e.on]? = some true
/-- The region's form: no guards, edges back, each slot written once. -/
structure FxOk (ops : Array Oper) (m : Nat) : Prop where
  guard : ∀ (i : Nat) (o : Oper), ops[i]? = some o → o.guard = none
  back : ∀ (i : Nat) (o : Oper) (e : Edge), ops[i]? = some o → e ∈ o.after → e.on < i
  once : ∀ (i j : Nat) (oi oj : Oper) (d : Nat), ops[i]? = some oi → ops[j]? = some oj → oi.dst = some d → oj.dst = some d → i = j
  room : ∀ (i : Nat) (o : Oper) (d : Nat), ops[i]? = some o → o.dst = some d → d < m
def fxB (ops : Array Oper) (m : Nat) : Bool := (List.range ops.size).all fun i => match ops[i]? with
  | none => true
  | some o => o.guard.isNone && o.after.all (fun e => decide (e.on < i)) && (match o.dst with
    | none => true
    | some d => decide (d < m) && (List.range ops.size).all fun j => match ops[j]? with
      | none => true
      | some q => decide (i = j) || !(q.dst == some d))
theorem fxB_ok {ops : Array Oper} {m : Nat} (h : fxB ops m = true) : FxOk ops m := by
  have h1 : ∀ (i : Nat) (o : Oper), ops[i]? = some o → o.guard = none ∧ (∀ e ∈ o.after, e.on < i) ∧ ∀ d, o.dst = some d → d < m ∧ ∀ (j : Nat) (q : Oper), ops[j]? = some q → q.dst = some d → i = j := by
    intro i o ho
    have hi : i < ops.size := (Array.getElem?_eq_some_iff.1 ho).1
    have h2 := List.all_eq_true.1 h i (List.mem_range.2 hi)
    simp only [ho, Bool.and_eq_true] at h2
    obtain ⟨⟨h3, h4⟩, h5⟩ := h2
    refine ⟨by simpa using h3, fun e he => ?_, fun d hd => ?_⟩
    · have := Array.all_eq_true_iff_forall_mem.1 h4 e he
      simpa using this
    · simp only [hd, Bool.and_eq_true, decide_eq_true_eq] at h5
      refine ⟨h5.1, fun j q hq hqd => ?_⟩
      have hj : j < ops.size := (Array.getElem?_eq_some_iff.1 hq).1
      have h6 := List.all_eq_true.1 h5.2 j (List.mem_range.2 hj)
      simp only [hq, hqd, Bool.or_eq_true, decide_eq_true_eq, Bool.not_eq_true', beq_self_eq_true] at h6
      rcases h6 with h6 | h6
      · exact h6
      · cases h6
  exact ⟨fun i o ho => (h1 i o ho).1, fun i o e ho he => (h1 i o ho).2.1 e he, fun i j oi oj d hi hj hd hd' => ((h1 i oi hi).2.2 d hd).2 j oj hj hd', fun i o d ho hd => ((h1 i o ho).2.2 d hd).1⟩
theorem get_setT {l : Array Bool} {i j : Nat} (h : (l.setIfInBounds i true)[j]? = some true) : j = i ∨ l[j]? = some true := by
  by_cases e : i = j
  · exact .inl e.symm
  · rw [Array.getElem?_setIfInBounds_ne e] at h
    exact .inr h
theorem set_getT {l : Array Bool} {i j : Nat} (h : l[j]? = some true) : (l.setIfInBounds i true)[j]? = some true := by
  by_cases e : i = j
  · subst e
    rw [Array.getElem?_setIfInBounds_self_of_lt (Array.getElem?_eq_some_iff.1 h).1]
  · rw [Array.getElem?_setIfInBounds_ne e]
    exact h
section
variable {ops : Array Oper} {a0 : Act} {vals : Nat → Value} {listed : Array Bool} {act : Act}
theorem Fx.start (a0 : Act) (vals : Nat → Value) : Fx ops a0 vals (Array.replicate ops.size false) a0 := by
  refine ⟨by simp, rfl, rfl, fun i o d _ _ h => ?_, fun _ _ => rfl, fun i o e _ h => ?_⟩
  all_goals
    rw [Array.getElem?_replicate] at h
    split at h <;> simp at h
theorem Fx.put (hk : FxOk ops a0.tmps.size) (h : Fx ops a0 vals listed act) {i : Nat} {o : Oper} (ho : ops[i]? = some o) (hl : listed[i]? = some false) (hd : ∀ e ∈ o.after, Region.binds .any e = true → listed[e.on]? = some true) : Fx ops a0 vals (listed.setIfInBounds i true) (act.put o.dst (vals i)) := by
  have hil : i < listed.size := (Array.getElem?_eq_some_iff.1 hl).1
  refine ⟨by simpa using h.size, ?_, ?_, fun j oj d hj hjd hjl => ?_, fun d hdd => ?_, fun j oj e hj hjl he hb => ?_⟩
  · unfold Act.put; split <;> exact h.defers
  · unfold Act.put; split
    · simpa using h.tsize
    · exact h.tsize
  · by_cases e : j = i
    · subst e
      rw [ho] at hj
      injection hj with hj
      subst hj
      unfold Act.put
      rw [hjd]
      simp only
      rw [Array.getElem?_setIfInBounds_self_of_lt (by rw [h.tsize]; exact hk.room _ _ _ ho hjd)]
    · have hjl2 : listed[j]? = some true := (get_setT hjl).resolve_left e
      have := h.got j oj d hj hjd hjl2
      unfold Act.put
      split
      · rename_i d' hd'
        have hne : d' ≠ d := fun e2 => e (hk.once j i oj o d hj ho hjd (by rw [hd', e2]))
        simp only
        rw [Array.getElem?_setIfInBounds_ne hne]
        exact this
      · exact this
  · have hkeep := h.kept d fun j oj hj hjd hjl => hdd j oj hj hjd (set_getT hjl)
    unfold Act.put
    split
    · rename_i d' hd'
      have hne : d' ≠ d := fun e2 => by
        subst e2
        refine hdd i o ho hd' ?_
        rw [Array.getElem?_setIfInBounds_self_of_lt hil]
      simp only
      rw [Array.getElem?_setIfInBounds_ne hne]
      exact hkeep
    · exact hkeep
  · by_cases e2 : j = i
    · subst e2
      rw [ho] at hj
      injection hj with hj
      subst hj
      exact set_getT (hd e he hb)
    · exact set_getT (h.down j oj e hj ((get_setT hjl).resolve_left e2) he hb)
theorem Fx.uniq (h : Fx ops a0 vals listed act) {act' : Act} (h' : Fx ops a0 vals listed act') : act = act' := by
  obtain ⟨t, df⟩ := act
  obtain ⟨t', df'⟩ := act'
  have e1 : df = df' := h.defers.trans h'.defers.symm
  have e2 : t = t' := by
    refine Array.ext_getElem? fun d => ?_
    by_cases hx : ∃ (i : Nat) (o : Oper), ops[i]? = some o ∧ o.dst = some d ∧ listed[i]? = some true
    · obtain ⟨i, o, h1, h2, h3⟩ := hx
      exact (h.got i o d h1 h2 h3).trans (h'.got i o d h1 h2 h3).symm
    · have hx2 : ∀ (i : Nat) (o : Oper), ops[i]? = some o → o.dst = some d → listed[i]? ≠ some true := fun i o h1 h2 h3 => hx ⟨i, o, h1, h2, h3⟩
      exact (h.kept d hx2).trans (h'.kept d hx2).symm
  subst e1 e2
  rfl
end
theorem count_set {l : List Bool} {i : Nat} (h : l[i]? = some false) : (l.set i true).count false + 1 = l.count false := by
  induction l generalizing i with
  | nil => simp at h
  | cons x r ih =>
    cases i with
    | zero =>
      simp at h
      subst h
      simp
    | succ i =>
      have := ih (i := i) (by simpa using h)
      simp only [List.set_cons_succ, List.count_cons]
      omega
theorem count_all {l : List Bool} (h : l.count false = 0) : l = List.replicate l.length true := by
  refine List.eq_replicate_iff.2 ⟨rfl, fun b hb => ?_⟩
  rw [List.count_eq_zero] at h
  cases b
  · exact absurd hb h
  · rfl
theorem first_false {l : List Bool} (h : l.count false ≠ 0) : ∃ i : Nat, l[i]? = some false ∧ ∀ j : Nat, j < i → l[j]? = some true := by
  induction l with
  | nil => simp at h
  | cons x r ih =>
    cases x
    · exact ⟨0, rfl, fun j hj => by omega⟩
    · obtain ⟨i, h1, h2⟩ := ih (by simpa using h)
      refine ⟨i + 1, by simpa using h1, fun j hj => ?_⟩
      cases j with
      | zero => rfl
      | succ j => simpa using h2 j (by omega)
theorem any_fixed {P : Program} {ops : Array Oper} {Q : Exit → Act → World → Prop} {a0 : Act} (hk : FxOk ops a0.tmps.size) (vals : Nat → Value) (wof : Array Bool → World)
    (hstep : ∀ (listed : Array Bool) (act : Act) (i : Nat) (o : Oper), Fx ops a0 vals listed act → listed[i]? = some false → ops[i]? = some o → (∀ e ∈ o.after, Region.binds .any e = true → listed[e.on]? = some true) → ∀ K : Act → World → Prop, K (act.put o.dst (vals i)) (wof (listed.setIfInBounds i true)) → o.wp P act (wof listed) K Q)
    (hend : ∀ act, Fx ops a0 vals (Array.replicate ops.size true) act → Q .normal act (wof (Array.replicate ops.size true))) :
    ∀ (fuel : Nat) (listed : Array Bool) (act : Act), Fx ops a0 vals listed act → listed.toList.count false ≤ fuel → wpAny P .any ops Q fuel listed act (wof listed) := by
  have hfull : ∀ (listed : Array Bool) (act : Act), Fx ops a0 vals listed act → listed.toList.count false = 0 → Q .normal act (wof listed) := by
    intro listed act h h0
    have e : listed = Array.replicate ops.size true := by
      have := count_all h0
      rw [← h.size]
      apply Array.toList_inj.1
      rw [this]
      simp
    rw [e] at h ⊢
    exact hend act h
  have hrd : ∀ (listed : Array Bool) (i : Nat), i ∈ Region.ready .any ops listed → ∃ o, ops[i]? = some o ∧ listed.getD i true = false ∧ ∀ e ∈ o.after, Region.binds .any e = true → listed[e.on]? = some true := by
    intro listed i hi
    unfold Region.ready at hi
    rw [List.mem_filter] at hi
    obtain ⟨h1, h2⟩ := hi
    simp only [Bool.and_eq_true, Bool.not_eq_true'] at h2
    rcases ho : ops[i]? with _ | o
    · rw [ho] at h2; simp at h2
    · rw [ho] at h2
      refine ⟨o, rfl, h2.1, fun e he hb => ?_⟩
      have h4 : o.after.all (fun e => !Region.binds .any e || listed.getD e.on false) = true := h2.2
      have h3 := Array.all_eq_true_iff_forall_mem.1 h4 e he
      simp only [hb, Bool.not_true, Bool.false_or, Array.getD_eq_getD_getElem?] at h3
      rcases hl : listed[e.on]? with _ | b
      · rw [hl] at h3; simp at h3
      · rw [hl] at h3
        simp at h3
        rw [h3]
  have hne : ∀ (listed : Array Bool) (act : Act), Fx ops a0 vals listed act → listed.toList.count false ≠ 0 → Region.ready .any ops listed ≠ [] := by
    intro listed act h h0 hr
    obtain ⟨i, h1, h2⟩ := first_false h0
    rw [Array.getElem?_toList] at h1
    have hi : i < ops.size := by rw [← h.size]; exact (Array.getElem?_eq_some_iff.1 h1).1
    have hmem : i ∈ Region.ready .any ops listed := by
      unfold Region.ready
      rw [List.mem_filter]
      refine ⟨List.mem_range.2 hi, ?_⟩
      rw [Array.getElem?_eq_getElem hi]
      simp only [Array.getD_eq_getD_getElem?, h1, Option.getD_some, Bool.not_false, Bool.true_and, Option.map_some]
      refine Array.all_eq_true_iff_forall_mem.2 fun e he => ?_
      have h3 := h2 e.on (hk.back i _ e (Array.getElem?_eq_getElem hi) he)
      rw [Array.getElem?_toList] at h3
      rw [h3]
      simp
    rw [hr] at hmem
    cases hmem
  intro fuel
  induction fuel with
  | zero =>
    intro listed act h hc
    have h0 : listed.toList.count false = 0 := by omega
    refine ⟨?_, hfull listed act h h0⟩
    refine List.eq_nil_iff_forall_not_mem.2 fun i hi => ?_
    obtain ⟨o, h1, h2, _⟩ := hrd listed i hi
    rw [List.count_eq_zero] at h0
    rw [Array.getD_eq_getD_getElem?] at h2
    rcases hl : listed[i]? with _ | b
    · rw [hl] at h2; simp at h2
    · rw [hl] at h2
      simp at h2
      subst h2
      exact h0 (List.mem_of_getElem? (by rw [Array.getElem?_toList]; exact hl))
  | succ fuel ih =>
    intro listed act h hc
    refine ⟨fun hr => ?_, fun i hi => ?_⟩
    · by_cases h0 : listed.toList.count false = 0
      · exact hfull listed act h h0
      · exact absurd hr (hne listed act h h0)
    · obtain ⟨o, h1, h2, h3⟩ := hrd listed i hi
      have hl : listed[i]? = some false := by
        rw [Array.getD_eq_getD_getElem?] at h2
        rcases hl : listed[i]? with _ | b
        · rw [hl] at h2; simp at h2
        · rw [hl] at h2
          simp at h2
          rw [h2]
      unfold wpOp
      rw [h1]
      simp only
      have hw : Region.wanted o (yielded ops act.tmps) = true := by
        unfold Region.wanted
        rw [hk.guard i o h1]
      rw [if_pos hw]
      left
      refine hstep listed act i o h hl h1 h3 _ ?_
      refine ih _ _ (h.put hk h1 hl h3) ?_
      have := count_set (l := listed.toList) (i := i) (by rw [Array.getElem?_toList]; exact hl)
      rw [Array.toList_setIfInBounds]
      omega
/-- What stands in the temporaries at the end. -/
def fxFin (ops : Array Oper) (a0 : Act) (vals : Nat → Value) (n : Nat) : Act := (List.range n).foldl (fun a i => a.put ((ops[i]?).bind (·.dst)) (vals i)) a0
def fxL (m n : Nat) : Array Bool := (List.range n).foldl (fun l i => l.setIfInBounds i true) (Array.replicate m false)
theorem fxL_succ (m n : Nat) : fxL m (n + 1) = (fxL m n).setIfInBounds n true := by unfold fxL; rw [List.range_succ, List.foldl_append]; rfl
theorem fxFin_succ (ops : Array Oper) (a0 : Act) (vals : Nat → Value) (n : Nat) : fxFin ops a0 vals (n + 1) = (fxFin ops a0 vals n).put ((ops[n]?).bind (·.dst)) (vals n) := by unfold fxFin; rw [List.range_succ, List.foldl_append]; rfl
theorem fxL_get (m : Nat) : ∀ n j, j < m → (fxL m n)[j]? = some (decide (j < n))
  | 0, j, hj => by
    unfold fxL
    simp [hj]
  | n + 1, j, hj => by
    rw [fxL_succ]
    by_cases e : n = j
    · subst e
      have hs : n < (fxL m n).size := by
        have := fxL_get m n n hj
        exact (Array.getElem?_eq_some_iff.1 this).1
      rw [Array.getElem?_setIfInBounds_self_of_lt hs]
      simp
    · rw [Array.getElem?_setIfInBounds_ne e, fxL_get m n j hj]
      congr 1
      exact decide_eq_decide.2 (by omega)
theorem Fx.seq {ops : Array Oper} {a0 : Act} (hk : FxOk ops a0.tmps.size) (vals : Nat → Value) : ∀ n, n ≤ ops.size → Fx ops a0 vals (fxL ops.size n) (fxFin ops a0 vals n)
  | 0, _ => Fx.start a0 vals
  | n + 1, hn => by
    have ih := Fx.seq hk vals n (by omega)
    rw [fxL_succ, fxFin_succ]
    have ho : ops[n]? = some ops[n] := Array.getElem?_eq_getElem (by omega)
    rw [ho]
    refine ih.put hk ho (by rw [fxL_get _ _ _ (by omega)]; simp) fun e he _ => ?_
    have := hk.back n _ e ho he
    rw [fxL_get _ _ _ (by omega)]
    simp [this]
theorem fxL_full (m : Nat) : fxL m m = Array.replicate m true := by
  refine Array.ext_getElem? fun j => ?_
  by_cases hj : j < m
  · rw [fxL_get m m j hj, Array.getElem?_replicate, if_pos hj, decide_eq_true hj]
  · have hs : (fxL m m).size = m := by
      have : ∀ n, (fxL m n).size = m := fun n => by
        induction n with
        | zero => simp [fxL]
        | succ n ih => rw [fxL_succ]; simpa using ih
      exact this m
    rw [Array.getElem?_eq_none (by omega), Array.getElem?_replicate, if_neg hj]
theorem region_fixed {id : Nat} {P : Program} {Q : Exit → Act → World → Prop} {a : Act} {w : World} {l : List Oper} (hm : P.follows .mixedOrders = true) (hB : fxB l.toArray a.tmps.size = true) (vals : Nat → Value) (wof : Array Bool → World)
    (h0 : wof (Array.replicate l.toArray.size false) = w.drew)
    (hstep : ∀ (listed : Array Bool) (act : Act) (i : Nat) (o : Oper), Fx l.toArray a vals listed act → listed[i]? = some false → l.toArray[i]? = some o → (∀ e ∈ o.after, Region.binds .any e = true → listed[e.on]? = some true) → ∀ K : Act → World → Prop, K (act.put o.dst (vals i)) (wof (listed.setIfInBounds i true)) → o.wp P act (wof listed) K Q)
    (hend : Q .normal (fxFin l.toArray a vals l.toArray.size) (wof (Array.replicate l.toArray.size true))) : (Code.region id l.toArray true).wp P Q a w := by
  refine wp_region_any hm ?_
  show wpAny P .any l.toArray Q l.toArray.size (Array.replicate l.toArray.size false) a w.drew
  rw [← h0]
  have hk := fxB_ok hB
  refine any_fixed hk vals wof hstep (fun act h => ?_) _ _ _ (Fx.start a vals) ?_
  · have h2 := Fx.seq hk vals l.toArray.size (Nat.le_refl _)
    rw [fxL_full] at h2
    rw [h.uniq h2]
    exact hend
  · refine Nat.le_trans List.count_le_length ?_
    simp
theorem ev_of {act : Act} {d : Nat} {v : Value} (h : act.tmps[d]? = some v) : act.eval (.tmp d) = v := by
  show act.tmps.getD d undef = v
  rw [Array.getD_eq_getD_getElem?, h]
  rfl
theorem Fx.base {ops : Array Oper} {a0 : Act} {vals : Nat → Value} {listed : Array Bool} {act : Act} (h : Fx ops a0 vals listed act) (d : Nat) (hb : (ops.all fun o => !(o.dst == some d)) = true) {v : Value} (hv : a0.tmps[d]? = some v) : act.tmps[d]? = some v := by
  refine (h.kept d fun i o ho hd => ?_).trans hv
  have := Array.all_eq_true_iff_forall_mem.1 hb o (Array.mem_of_getElem? ho)
  rw [hd] at this
  simp at this
theorem Fx.ev {ops : Array Oper} {a0 : Act} {vals : Nat → Value} {listed : Array Bool} {act : Act} (h : Fx ops a0 vals listed act) {j : Nat} {o : Oper} {d : Nat} (ho : ops[j]? = some o) (hd : o.dst = some d) (hl : listed[j]? = some true) {v : Value} (hv : vals j = v) : act.tmps[d]? = some v := by
  rw [← hv]
  exact h.got j o d ho hd hl
/-- The world behind some of three writers. -/
def wof3 (p q r : Nat) (W0 W1 W2 W3 : World) (listed : Array Bool) : World := if listed[r]? = some true then W3 else if listed[q]? = some true then W2 else if listed[p]? = some true then W1 else W0
theorem wof3_keep {p q r i : Nat} {W0 W1 W2 W3 : World} {listed : Array Bool} (hp : i ≠ p) (hq : i ≠ q) (hr : i ≠ r) : wof3 p q r W0 W1 W2 W3 (listed.setIfInBounds i true) = wof3 p q r W0 W1 W2 W3 listed := by
  unfold wof3
  rw [Array.getElem?_setIfInBounds_ne hp, Array.getElem?_setIfInBounds_ne hq, Array.getElem?_setIfInBounds_ne hr]
theorem wof3_cases {p q r : Nat} {W0 W1 W2 W3 : World} {listed : Array Bool} (hr : listed[r]? ≠ some true) : wof3 p q r W0 W1 W2 W3 listed = W0 ∨ wof3 p q r W0 W1 W2 W3 listed = W1 ∨ wof3 p q r W0 W1 W2 W3 listed = W2 := by
  unfold wof3
  rw [if_neg hr]
  split
  · exact .inr (.inr rfl)
  · split
    · exact .inr (.inl rfl)
    · exact .inl rfl
theorem wof3_0 {p q r : Nat} {W0 W1 W2 W3 : World} {listed : Array Bool} (hr : listed[r]? ≠ some true) (hq : listed[q]? ≠ some true) (hp : listed[p]? ≠ some true) : wof3 p q r W0 W1 W2 W3 listed = W0 := by
  unfold wof3; rw [if_neg hr, if_neg hq, if_neg hp]
theorem wof3_1 {p q r : Nat} {W0 W1 W2 W3 : World} {listed : Array Bool} (hr : listed[r]? ≠ some true) (hq : listed[q]? ≠ some true) (hp : listed[p]? = some true) : wof3 p q r W0 W1 W2 W3 listed = W1 := by
  unfold wof3; rw [if_neg hr, if_neg hq, if_pos hp]
theorem wof3_2 {p q r : Nat} {W0 W1 W2 W3 : World} {listed : Array Bool} (hr : listed[r]? ≠ some true) (hq : listed[q]? = some true) : wof3 p q r W0 W1 W2 W3 listed = W2 := by
  unfold wof3; rw [if_neg hr, if_pos hq]
theorem wof3_3 {p q r : Nat} {W0 W1 W2 W3 : World} {listed : Array Bool} (hr : listed[r]? = some true) : wof3 p q r W0 W1 W2 W3 listed = W3 := by
  unfold wof3; rw [if_pos hr]
theorem wp_yield {P : Program} {o : Oper} {act : Act} {w w' : World} {K : Act → World → Prop} {Q : Exit → Act → World → Prop} {v : Value} (hr : (execOp act.eval o).run P w = .ok (.value v) w') (h : K (act.put o.dst v) w') : o.wp P act w K Q := by
  unfold Oper.wp
  rw [hr]
  exact h
theorem wp_skip {P : Program} {o : Oper} {act : Act} {w w' : World} {K : Act → World → Prop} {Q : Exit → Act → World → Prop} {v : Value} (ho : o.dst = none) (hr : (execOp act.eval o).run P w = .ok .skip w') (h : K (act.put o.dst v) w') : o.wp P act w K Q := by
  unfold Oper.wp
  rw [hr]
  show K (act.put o.dst undef) w'
  rw [ho] at h ⊢
  exact h
end Go.Proofs.YthckgmbadmilfaaGreat
