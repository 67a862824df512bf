/- The search tells the leftmost longest match: the loop. Plain Lean. -/
import Derived.Test.YthckgmbadmilfaaGreatMAC
namespace Go.Proofs.YthckgmbadmilfaaGreat
namespace Rx
/-- From i to x, reading w. -/
inductive Rch (M : List St) (i : Nat) : List UInt8 → Nat → Prop
  | nil {x : Nat} : Eps M i x → Rch M i [] x
  | snoc {w : List UInt8} {r p x : Nat} {g : UInt8 → Bool} {c : UInt8} : Rch M i w r → M[r]? = some (.rd g p) → g c = true → Eps M p x → Rch M i (w ++ [c]) x
theorem Rch.eps {M : List St} {i x y : Nat} {w : List UInt8} (h : Rch M i w x) (he : Eps M x y) : Rch M i w y := by
  cases h with
  | nil h => exact .nil (h.trans he)
  | snoc a b c d => exact .snoc a b c (d.trans he)
theorem Rch.nil_inv {M : List St} {i x : Nat} (h : Rch M i [] x) : Eps M i x := by
  generalize hw : ([] : List UInt8) = w at h
  cases h with
  | nil h => exact h
  | snoc _ _ _ _ => simp at hw
theorem acc_eps {M : List St} {i x : Nat} (h : Eps M i x) {v : List UInt8} : Acc M x v → Acc M i v := by
  induction h with
  | refl => exact id
  | step a _ c _ ih => exact fun hv => Acc.ep a c (ih hv)
theorem Rch.acc {M : List St} {i x : Nat} {w v : List UInt8} (h : Rch M i w x) (hv : Acc M x v) : Acc M i (w ++ v) := by
  induction h generalizing v with
  | nil h => exact acc_eps h hv
  | snoc _ b c d ih =>
    rw [List.append_assoc]
    exact ih (Acc.rd b c (acc_eps d hv))
theorem acc_rch {M : List St} (h0 : M[0]? = some (.ep [])) {i : Nat} : ∀ (n x : Nat) (w v : List UInt8), Rch M i w x → AccN M n x v → Rch M i (w ++ v) 0 := by
  intro n
  induction n with
  | zero =>
    rintro x w v h ⟨rfl, rfl⟩
    simpa using h
  | succ n ih =>
    rintro x w v h (⟨f, q, c, w', h1, rfl, h3, h4⟩ | ⟨qs, q, h1, h2, h3⟩)
    · have := ih q (w ++ [c]) w' (.snoc h h1 h3 (.refl _)) h4
      simpa using this
    · have hx : x ≠ 0 := fun e => by
        subst e
        rw [h0] at h1
        injection h1 with h1
        injection h1 with h1
        subst h1
        simp at h2
      exact ih q w v (h.eps (.step h1 hx h2 (.refl _))) h3
theorem rch_iff {M : List St} (h0 : M[0]? = some (.ep [])) {i : Nat} {w : List UInt8} : Rch M i w 0 ↔ Acc M i w := by
  constructor
  · intro h
    have := h.acc (v := []) ⟨0, rfl, rfl⟩
    simpa using this
  · rintro ⟨n, h⟩
    exact acc_rch h0 n i [] w (.nil (.refl _)) h
/-- Ahead of a further byte there is a state that reads. -/
theorem Rch.mid {M : List St} {i x : Nat} {u : List UInt8} (h : Rch M i u x) : ∀ w v, u = w ++ v → v ≠ [] → ∃ r, Stop M r ∧ Rch M i w r := by
  induction h with
  | nil h =>
    intro w v e hv
    have := congrArg List.length e
    simp only [List.length_nil, List.length_append] at this
    exact absurd (List.length_eq_zero_iff.1 (by omega)) hv
  | @snoc w0 r p x g c a b cc d ih =>
    intro w v e hv
    obtain ⟨v', c', rfl⟩ : ∃ v' c', v = v' ++ [c'] := ⟨v.dropLast, v.getLast hv, (List.dropLast_concat_getLast hv).symm⟩
    rw [← List.append_assoc] at e
    have e1 := List.append_inj' e rfl
    by_cases hv' : v' = []
    · subst hv'
      rw [List.append_nil] at e1
      rw [← e1.1]
      exact ⟨r, .inr ⟨g, p, b⟩, a⟩
    · exact ih w v' e1.1 hv'
/-- A part of a string. -/
def seg (l : List UInt8) (f a : Nat) : List UInt8 := (l.take a).drop f
theorem seg_self (l : List UInt8) (a : Nat) : seg l a a = [] := by
  unfold seg
  exact List.drop_eq_nil_of_le (by rw [List.length_take]; omega)
theorem seg_succ {l : List UInt8} {f a : Nat} {c : UInt8} (hf : f ≤ a) (hc : l[a]? = some c) : seg l f (a + 1) = seg l f a ++ [c] := by
  have hl : a < l.length := (List.getElem?_eq_some_iff.1 hc).1
  have hc2 : l[a] = c := (List.getElem?_eq_some_iff.1 hc).2
  unfold seg
  rw [List.take_succ_eq_append_getElem hl, hc2, List.drop_append_of_le_length (by rw [List.length_take]; omega)]
theorem seg_split {l : List UInt8} {f a e : Nat} (hf : f ≤ a) (ha : a ≤ e) (he : e ≤ l.length) : seg l f e = seg l f a ++ seg l a e := by
  unfold seg
  have h1 : l.take e = l.take a ++ (l.take e).drop a := by
    have := List.take_append_drop a (l.take e)
    rw [List.take_take, Nat.min_eq_left ha] at this
    exact this.symm
  conv => lhs; rw [h1]
  rw [List.drop_append_of_le_length (by rw [List.length_take]; omega)]
theorem seg_len {l : List UInt8} {f e : Nat} (he : e ≤ l.length) : (seg l f e).length = e - f := by
  unfold seg
  rw [List.length_drop, List.length_take, Nat.min_eq_left he]
section
variable (M : List St) (st : Nat) (anch : Bool) (l : List UInt8)
def allowed (f : Nat) : Prop := anch = false ∨ f = 0
/-- A part matches. -/
structure Mt (f e : Nat) : Prop where
  al : allowed anch f
  le : f ≤ e
  len : e ≤ l.length
  rch : Rch M st (seg l f e) 0
/-- What a result must tell. -/
def Res : Option (Nat × Nat) → Prop
  | none => ∀ f e, ¬ Mt M st anch l f e
  | some y => Mt M st anch l y.1 y.2 ∧ ∀ f e, Mt M st anch l f e → y.1 ≤ f ∧ (f = y.1 → e ≤ y.2)
/-- What is known of the best part among those that end ahead of a. -/
structure Bst (a : Nat) (b : Option (Nat × Nat)) : Prop where
  mt : ∀ y, b = some y → Mt M st anch l y.1 y.2 ∧ y.2 < a
  no : b = none → ∀ f e, e < a → ¬ Mt M st anch l f e
  best : ∀ y, b = some y → ∀ f e, e < a → Mt M st anch l f e → y.1 ≤ f ∧ (f = y.1 → e ≤ y.2)
/-- What is known of the threads: those that begin ahead of c. -/
structure Thr (a c : Nat) (ts : List Th) (b : Option (Nat × Nat)) : Prop where
  sound : ∀ t ∈ ts, allowed anch t.2 ∧ t.2 ≤ a ∧ Stop M t.1 ∧ Rch M st (seg l t.2 a) t.1
  comp : ∀ f x, allowed anch f → f < c → (∀ y, b = some y → f ≤ y.1) → Stop M x → Rch M st (seg l f a) x → ∃ f', f' ≤ f ∧ (x, f') ∈ ts
end
theorem scan_some (a : Nat) : ∀ (l : List Th) (b : Option (Nat × Nat)) (y : Nat × Nat), b = some y → ∃ y1, scan a l b = some y1 ∧ y1.1 ≤ y.1 ∧ (y1 = y ∨ y1.2 = a)
  | [], b, y, h => ⟨y, h, Nat.le_refl _, .inl rfl⟩
  | t :: l, b, y, h => by
    simp only [scan]
    split
    · rename_i hc
      obtain ⟨y1, h1, h2, h3⟩ := scan_some a l (some (t.2, a)) (t.2, a) rfl
      exact ⟨y1, h1, Nat.le_trans h2 (hc.2 y h), .inr ((h3.elim (fun e => by rw [e]) id))⟩
    · exact scan_some a l b y h
theorem scan_mem (a : Nat) : ∀ (l : List Th) (b : Option (Nat × Nat)) (f : Nat), (0, f) ∈ l → (∀ y, b = some y → f ≤ y.1) → ∃ y, scan a l b = some y ∧ y.1 ≤ f ∧ y.2 = a
  | [], b, f, h, _ => by simp at h
  | t :: l, b, f, h, hy => by
    simp only [scan]
    have hnew : ∀ t2 : Nat, t2 ≤ f → ∃ y, scan a l (some (t2, a)) = some y ∧ y.1 ≤ f ∧ y.2 = a := fun t2 ht2 => by
      obtain ⟨y1, h1, h2, h3⟩ := scan_some a l (some (t2, a)) (t2, a) rfl
      exact ⟨y1, h1, Nat.le_trans h2 ht2, (h3.elim (fun e => by rw [e]) id)⟩
    rcases List.mem_cons.1 h with rfl | h
    · rw [if_pos ⟨rfl, hy⟩]
      exact hnew f (Nat.le_refl _)
    · split
      · by_cases hlt : f ≤ t.2
        · exact scan_mem a l _ f h (fun y hy2 => by injection hy2 with hy2; subst hy2; exact hlt)
        · exact hnew t.2 (by omega)
      · exact scan_mem a l b f h hy
theorem scan_from (a : Nat) : ∀ (l : List Th) (b : Option (Nat × Nat)) (y : Nat × Nat), scan a l b = some y → b = some y ∨ (y.2 = a ∧ (0, y.1) ∈ l)
  | [], b, y, h => .inl h
  | t :: l, b, y, h => by
    simp only [scan] at h
    split at h
    · rename_i hc
      rcases scan_from a l _ y h with h1 | ⟨h1, h2⟩
      · injection h1 with h1
        subst h1
        obtain ⟨t1, t2⟩ := t
        simp only at hc
        obtain ⟨rfl, _⟩ := hc
        exact .inr ⟨rfl, by simp⟩
      · exact .inr ⟨h1, by simp [h2]⟩
    · rcases scan_from a l b y h with h1 | ⟨h1, h2⟩
      · exact .inl h1
      · exact .inr ⟨h1, by simp [h2]⟩
section
variable {M : List St} {st : Nat} {anch : Bool} {l : List UInt8}
theorem scan_bst {a : Nat} {ts : List Th} {b : Option (Nat × Nat)} (ha : a ≤ l.length) (h : Bst M st anch l a b) (ht : Thr M st anch l a (a + 1) ts b) : Bst M st anch l (a + 1) (scan a ts b) := by
  have hat : ∀ f, Mt M st anch l f a → ∀ y, scan a ts b = some y → y.1 ≤ f ∧ (f = y.1 → a ≤ y.2) := by
    intro f hf y hy
    by_cases hb : ∀ y, b = some y → f ≤ y.1
    · obtain ⟨f', h1, h2⟩ := ht.comp f 0 hf.al (by have := hf.le; omega) hb (.inl rfl) hf.rch
      obtain ⟨y2, h3, h4, h5⟩ := scan_mem a ts b f' h2 (fun y hy => Nat.le_trans h1 (hb y hy))
      rw [hy] at h3
      injection h3 with h3
      subst h3
      exact ⟨by omega, fun _ => by omega⟩
    · simp only [Classical.not_forall, Nat.not_le] at hb
      obtain ⟨y0, hy0, hlt⟩ := hb
      obtain ⟨y2, h3, h4, _⟩ := scan_some a ts b y0 hy0
      rw [hy] at h3
      injection h3 with h3
      subst h3
      exact ⟨by omega, fun _ => by omega⟩
  refine ⟨fun y hy => ?_, fun hn f e he hm => ?_, fun y hy f e he hm => ?_⟩
  · rcases scan_from a ts b y hy with h1 | ⟨h1, h2⟩
    · have := h.mt y h1
      exact ⟨this.1, by omega⟩
    · obtain ⟨h3, h4, _, h6⟩ := ht.sound _ h2
      simp only at h3 h4 h6
      exact ⟨⟨h3, by rw [h1]; exact h4, by omega, by rw [h1]; exact h6⟩, by omega⟩
  · have hbn : b = none := by
      rcases b with _ | y
      · rfl
      · obtain ⟨y1, h1, _⟩ := scan_some a ts (some y) y rfl
        rw [hn] at h1; cases h1
    by_cases hea : e < a
    · exact h.no hbn f e hea hm
    · obtain rfl : e = a := by omega
      obtain ⟨f', h1, h2⟩ := ht.comp f 0 hm.al (by have := hm.le; omega) (fun y hy => by rw [hbn] at hy; cases hy) (.inl rfl) hm.rch
      obtain ⟨y2, h3, _⟩ := scan_mem e ts b f' h2 (fun y hy => by rw [hbn] at hy; cases hy)
      rw [hn] at h3; cases h3
  · by_cases hea : e < a
    · rcases hb : b with _ | y0
      · exact absurd hm (h.no hb f e hea)
      · obtain ⟨y1, h1, h2, h3⟩ := scan_some a ts b y0 hb
        rw [hy] at h1
        injection h1 with h1
        subst h1
        have h4 := h.best y0 hb f e hea hm
        refine ⟨by omega, fun hf => ?_⟩
        rcases h3 with rfl | h3
        · exact h4.2 hf
        · omega
    · obtain rfl : e = a := by omega
      exact hat f hm y hy
theorem begin_thr {a : Nat} {now : List Th} {mk : List Nat} {b : Option (Nat × Nat)} (hOk : Ok M) (hst : st < M.length) (hg : G M (a + 1) (now, mk) a) (ht : Thr M st anch l a a now b) (hb : Bst M st anch l a b) :
    Thr M st anch l a (a + 1) (begin_ M (M.length + 1) st anch a now mk b).1 b ∧ G M (a + 1) (begin_ M (M.length + 1) st anch a now mk b) a ∧ ∀ x v : Nat, (begin_ M (M.length + 1) st anch a now mk b).2[x]? = some v → v = a + 1 ∨ mk[x]? = some v := by
  unfold begin_
  split
  · rename_i hc
    have h1 := hg.spread hOk (q := st) (f := a) (Nat.le_refl _) hst
    refine ⟨⟨fun t htm => ?_, fun f x hal hf hy hx hr => ?_⟩, h1.g, h1.val⟩
    · rcases h1.sound t htm with h2 | ⟨h2, h3, h4⟩
      · exact ht.sound t h2
      · rw [h2]
        exact ⟨hc.2.elim .inr .inl, Nat.le_refl _, h3, by rw [seg_self]; exact .nil h4⟩
    · by_cases hfa : f < a
      · obtain ⟨f', h2, h3⟩ := ht.comp f x hal hfa hy hx hr
        exact ⟨f', h2, h1.keep _ h3⟩
      · obtain rfl : f = a := by omega
        rw [seg_self] at hr
        exact h1.comp x hx hr.nil_inv
  · rename_i hc
    refine ⟨⟨ht.sound, fun f x hal hf hy hx hr => ?_⟩, hg, fun x v hv => .inr hv⟩
    by_cases hfa : f < a
    · exact ht.comp f x hal hfa hy hx hr
    · obtain rfl : f = a := by omega
      exfalso
      rcases hbb : b with _ | y
      · apply hc
        refine ⟨hbb, ?_⟩
        rcases hal with h2 | h2
        · exact .inr h2
        · exact .inl h2
      · have h2 := hb.mt y hbb
        have h3 := hy y hbb
        have := h2.1.le
        omega
theorem find_res {n : Nat} (hOk : Ok M) (hst : st < M.length) : ∀ (a : Nat) (now : List Th) (mk : List Nat) (b : Option (Nat × Nat)), a + n = l.length → G M (a + 1) (now, mk) a → Thr M st anch l a a now b → Bst M st anch l a b → (∀ x v : Nat, mk[x]? = some v → v ≤ a + 1) → Res M st anch l (findF M (M.length + 1) st anch (l.drop a) a now mk b) := by
  induction n with
  | zero =>
    intro a now mk b ha hg ht hb hv
    obtain ⟨h1, h2, h3⟩ := begin_thr hOk hst hg ht hb
    have h4 := scan_bst (by omega) hb h1
    rw [List.drop_eq_nil_of_le (by omega)]
    show Res M st anch l (scan a _ b)
    generalize hB : scan a (begin_ M (M.length + 1) st anch a now mk b).1 b = B at h4
    rcases B with _ | y
    · exact fun f e hm => h4.no rfl f e (by have := hm.len; omega) hm
    · exact ⟨(h4.mt y rfl).1, fun f e hm => h4.best y rfl f e (by have := hm.len; omega) hm⟩
  | succ n ih =>
    intro a now mk b ha hg ht hb hv
    obtain ⟨h1, h2, h3⟩ := begin_thr hOk hst hg ht hb
    have h4 := scan_bst (by omega) hb h1
    have hmono : ∀ y, b = some y → ∃ y1, scan a (begin_ M (M.length + 1) st anch a now mk b).1 b = some y1 ∧ y1.1 ≤ y.1 := fun y hy => by
      obtain ⟨y1, h5, h6, _⟩ := scan_some a (begin_ M (M.length + 1) st anch a now mk b).1 b y hy
      exact ⟨y1, h5, h6⟩
    obtain ⟨c, hc⟩ : ∃ c, l[a]? = some c := ⟨_, List.getElem?_eq_getElem (by omega)⟩
    have hdrop : l.drop a = c :: l.drop (a + 1) := by
      rw [List.drop_eq_getElem_cons (by omega)]
      rw [(List.getElem?_eq_some_iff.1 hc).2]
    rw [hdrop, findF]
    generalize hB : scan a (begin_ M (M.length + 1) st anch a now mk b).1 b = B at h4 hmono ⊢
    generalize hP : begin_ M (M.length + 1) st anch a now mk b = P at h1 h2 h3 hB ⊢
    have hBy : ∀ f, (∀ y, B = some y → f ≤ y.1) → ∀ y, b = some y → f ≤ y.1 := fun f hf y hy => by
      obtain ⟨y1, h5, h6⟩ := hmono y hy
      exact Nat.le_trans (hf y1 h5) h6
    split
    · rename_i hcc
      have hno : ∀ f e, (∀ y, B = some y → f ≤ y.1) → f ≤ a → a < e → ¬ Mt M st anch l f e := by
        intro f e hy hf he hm
        have hsp := seg_split (l := l) hf (Nat.le_of_lt he) hm.len
        have hr := hm.rch
        have hne : seg l a e ≠ [] := fun h0 => by
          have := seg_len (l := l) (f := a) hm.len
          rw [h0] at this
          simp at this; omega
        obtain ⟨r, h5, h6⟩ := hr.mid _ _ hsp hne
        obtain ⟨f', _, h7⟩ := h1.comp f r hm.al (by omega) (hBy f hy) h5 h6
        rw [hcc.1] at h7
        simp at h7
      rcases B with _ | y
      · have han : anch = true := by simpa using hcc.2
        intro f e hm
        have hf0 : f = 0 := by
          rcases hm.al with h5 | h5
          · rw [han] at h5; cases h5
          · exact h5
        by_cases he : e < a + 1
        · exact h4.no rfl f e he hm
        · exact hno f e (fun y hy => by cases hy) (by omega) (by omega) hm
      · have hmy := h4.mt y rfl
        refine ⟨hmy.1, fun f e hm => ?_⟩
        by_cases he : e < a + 1
        · exact h4.best y rfl f e he hm
        · by_cases hfy : f ≤ y.1
          · exact absurd hm (hno f e (fun z hz => by injection hz with hz; subst hz; exact hfy) (by have := hmy.1.le; omega) (by omega))
          · exact ⟨by omega, fun h => by omega⟩
    · have hG0 : G M (a + 2) ([], P.2) 0 := by
        refine ⟨fun x hx => ?_, fun t ht => by simp at ht, .nil, h2.len⟩
        simp only at hx
        rcases h3 x _ hx with h5 | h5
        · omega
        · have := hv x _ h5
          omega
      have hS := step_stp hOk (k := a + 2) (bd := B) (c := c) P.1 ([], P.2) 0 a hG0 (Nat.zero_le _) (fun t ht => ⟨Nat.zero_le _, h2.le t ht⟩) h2.sorted
      generalize step M (M.length + 1) B c (a + 2) P.1 ([], P.2) = r at hS ⊢
      refine ih (a + 1) r.1 r.2 B (by omega) (hS.g.mono (by omega)) ⟨fun t htm => ?_, fun f x hal hf hy hx hr => ?_⟩ h4 (fun x v hxv => ?_)
      · rcases hS.sound t htm with h5 | ⟨h5, u, hu, h6, g, p, h7, h8, h9⟩
        · simp at h5
        · obtain ⟨h10, h11, h12, h13⟩ := h1.sound u hu
          rw [← h6]
          refine ⟨h10, by omega, h5, ?_⟩
          rw [seg_succ h11 hc]
          exact .snoc h13 h7 h8 h9
      · rw [seg_succ (by omega) hc] at hr
        generalize hw : seg l f a ++ [c] = w at hr
        cases hr with
        | nil _ => simp at hw
        | @snoc w' r0 p _ g c' h5 h6 h7 h8 =>
          have e1 := List.append_inj' hw rfl
          have e2 : c = c' := by simpa using e1.2
          rw [← e1.1] at h5
          rw [← e2] at h7
          obtain ⟨f', h9, h10⟩ := h1.comp f r0 hal (by omega) (hBy f hy) (.inr ⟨g, p, h6⟩) h5
          obtain ⟨f'', h11, h12⟩ := hS.comp (r0, f') h10 (fun y hyB => Nat.le_trans h9 (hy y hyB)) g p h6 h7 x hx h8
          exact ⟨f'', Nat.le_trans h11 h9, h12⟩
      · rcases hS.val x v hxv with h5 | h5
        · omega
        · rcases h3 x v h5 with h6 | h6
          · omega
          · have := hv x v h6
            omega
end
/-- A search tells the leftmost longest match. -/
theorem search_res (a : As) (anch : Bool) (l : List UInt8) : Res (mach a).2 (mach a).1 anch l (search a anch l) := by
  have hz : ∀ (x v : Nat), (List.replicate (mach a).2.length 0)[x]? = some v → v = 0 := fun x v hx => by
    rw [List.getElem?_replicate] at hx
    split at hx
    · injection hx with hx; omega
    · cases hx
  have hG : G (mach a).2 (0 + 1) (([] : List Th), List.replicate (mach a).2.length 0) 0 := by
    refine ⟨fun x hx => ?_, fun t ht => ?_, List.Pairwise.nil, by simp⟩
    · have := hz x _ hx; omega
    · simp at ht
  have hT : Thr (mach a).2 (mach a).1 anch l 0 0 [] none := ⟨fun t ht => by simp at ht, fun f x _ hf => by omega⟩
  have hB : Bst (mach a).2 (mach a).1 anch l 0 none := ⟨fun y hy => (by cases hy), fun _ f e he => by omega, fun y hy => (by cases hy)⟩
  exact find_res (anch := anch) (l := l) (n := l.length) (mach_ok a) (mach_lt a) 0 [] (List.replicate (mach a).2.length 0) none (by omega) hG hT hB (fun x v hx => by have := hz x v hx; omega)
theorem mt_iff (a : As) (anch : Bool) (l : List UInt8) (f e : Nat) : Mt (mach a).2 (mach a).1 anch l f e ↔ allowed anch f ∧ f ≤ e ∧ e ≤ l.length ∧ MA a (seg l f e) := by
  constructor
  · intro h
    exact ⟨h.al, h.le, h.len, (mach_acc a _).1 ((rch_iff (mach_zero a)).1 h.rch)⟩
  · rintro ⟨h1, h2, h3, h4⟩
    exact ⟨h1, h2, h3, (rch_iff (mach_zero a)).2 ((mach_acc a _).2 h4)⟩
/-- Match tells whether the tree matches. -/
theorem matchR_iff (p l : List UInt8) : matchR p l = true ↔ ∃ a, parse p = some a ∧ MA a l := by
  unfold matchR
  rcases hp : parse p with _ | a
  · simp
  · simp only [Option.some.injEq, exists_eq_left']
    have h := search_res a true l
    rcases hs : search a true l with _ | y
    · rw [hs] at h
      simp only [Bool.false_eq_true, false_iff]
      intro hm
      exact h 0 l.length ((mt_iff a true l 0 l.length).2 ⟨.inr rfl, Nat.zero_le _, Nat.le_refl _, by simpa [seg] using hm⟩)
    · rw [hs] at h
      obtain ⟨h1, h2⟩ := h
      have h3 := (mt_iff a true l _ _).1 h1
      have hy0 : y.1 = 0 := by
        rcases h3.1 with h4 | h4
        · cases h4
        · exact h4
      simp only [beq_iff_eq]
      constructor
      · intro he
        have := h3.2.2.2
        rw [hy0, he] at this
        simpa [seg] using this
      · intro hm
        have h4 := h2 0 l.length ((mt_iff a true l 0 l.length).2 ⟨.inr rfl, Nat.zero_le _, Nat.le_refl _, by simpa [seg] using hm⟩)
        have h5 := h4.2 hy0.symm
        have h6 := h3.2.2.1
        omega
end Rx
end Go.Proofs.YthckgmbadmilfaaGreat
