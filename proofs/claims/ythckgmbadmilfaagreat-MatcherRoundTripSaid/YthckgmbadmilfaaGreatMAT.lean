/- The search's loop: what it keeps. -/
import Derived.Test.YthckgmbadmilfaaGreatMAS
namespace Go.Proofs.YthckgmbadmilfaaGreat
open Go.RowKit Rx
namespace Rx
theorem free_le (k : Nat) (mk : List Nat) : free k mk ≤ mk.length := List.countP_le_length
theorem spread_mem (M : List St) (hOk : Ok M) (k f : Nat) : ∀ (n : Nat) (ts : List Th) (mk : List Nat) (q : Nat), q < M.length → ∀ t ∈ (spreadF M n ts mk q f k).1, t ∈ ts ∨ (t.1 < M.length ∧ t.2 = f) := by
  intro n
  induction n with
  | zero => intro ts mk q _ t ht; exact .inl ht
  | succ n ih =>
    intro ts mk q hq
    simp only [spreadF]
    have h0 : ∀ t ∈ ts ++ [(q, f)], t ∈ ts ∨ (t.1 < M.length ∧ t.2 = f) := fun t ht => by
      simp only [List.mem_append, List.mem_singleton] at ht
      rcases ht with h | rfl
      · exact .inl h
      · exact .inr ⟨hq, rfl⟩
    split
    · exact fun t ht => .inl ht
    · split
      · rename_i qs he
        split
        · exact h0
        · have hin : ∀ p ∈ qs, p < M.length := hOk q _ he
          have : ∀ (l : List Nat) (r : List Th × List Nat), (∀ p ∈ l, p < M.length) → (∀ t ∈ r.1, t ∈ ts ∨ (t.1 < M.length ∧ t.2 = f)) → ∀ t ∈ (l.foldl (fun r p => spreadF M n r.1 r.2 p f k) r).1, t ∈ ts ∨ (t.1 < M.length ∧ t.2 = f) := by
            intro l
            induction l with
            | nil => intro r _ h; exact h
            | cons p l ihl =>
              intro r hl h
              rw [List.foldl_cons]
              exact ihl _ (fun x hx => hl x (by simp [hx])) (fun t ht => by
                rcases ih r.1 r.2 p (hl p (by simp)) t ht with h1 | h1
                · exact h t h1
                · exact .inr h1)
          exact this qs _ hin (fun t ht => .inl ht)
      · exact h0
theorem step_mem (M : List St) (hOk : Ok M) (k n : Nat) (b : Option (Nat × Nat)) (c : UInt8) : ∀ (l : List Th) (r : List Th × List Nat) (t : Th), t ∈ (step M n b c k l r).1 → t ∈ r.1 ∨ (t.1 < M.length ∧ ∃ u ∈ l, t.2 = u.2)
  | [], r, t, ht => .inl ht
  | u :: l, r, t, ht => by
    simp only [step] at ht
    split at ht
    · exact .inl ht
    · rcases step_mem M hOk k n b c l _ t ht with h | ⟨h1, v, hv, h2⟩
      · split at h
        · rename_i f q he
          split at h
          · rcases spread_mem M hOk k u.2 n r.1 r.2 q (hOk _ _ he q (by simp [Nx])) t h with h | h
            · exact .inl h
            · exact .inr ⟨h.1, u, by simp, h.2⟩
          · exact .inl h
        · exact .inl h
      · exact .inr ⟨h1, v, by simp [hv], h2⟩
theorem scan_append (at_ : Nat) : ∀ (l l2 : List Th) (b : Option (Nat × Nat)), scan at_ (l ++ l2) b = scan at_ l2 (scan at_ l b)
  | [], _, _ => rfl
  | _ :: l, l2, b => by simp only [List.cons_append, scan]; exact scan_append at_ l l2 _
/-- What the search's threads look like at a position. -/
structure Gd (M : List St) (a : Nat) (now : List Th) (mk : List Nat) : Prop where
  mem : ∀ t ∈ now, t.1 < M.length ∧ t.2 ≤ a
  len : mk.length = M.length
  bound : now.length ≤ M.length
theorem begin_good {M : List St} (hOk : Ok M) {n st : Nat} (hst : st < M.length) (anch : Bool) {a : Nat} {now : List Th} {mk : List Nat} (b : Option (Nat × Nat)) (h : Gd M a now mk) (hf : now.length + free (a + 1) mk ≤ M.length) : Gd M a (begin_ M n st anch a now mk b).1 (begin_ M n st anch a now mk b).2 := by
  unfold begin_
  split
  · have h1 := spread_facts M hOk (a + 1) a n now mk st h.len hst
    refine ⟨fun t ht => ?_, h1.1.trans h.len, by have := h1.2.2; omega⟩
    rcases spread_mem M hOk (a + 1) a n now mk st hst t ht with h2 | h2
    · exact h.mem t h2
    · exact ⟨h2.1, by omega⟩
  · exact h
theorem step_good {M : List St} (hOk : Ok M) {n : Nat} (b : Option (Nat × Nat)) (c : UInt8) {a : Nat} {now : List Th} {mk : List Nat} (h : Gd M a now mk) :
    Gd M (a + 1) (step M n b c (a + 2) now ([], mk)).1 (step M n b c (a + 2) now ([], mk)).2 ∧ (step M n b c (a + 2) now ([], mk)).1.length + free (a + 2) (step M n b c (a + 2) now ([], mk)).2 ≤ M.length := by
  have h1 := step_facts M hOk (a + 2) n b c now ([], mk) h.len
  have h2 := free_le (a + 2) mk
  have h3 := h.len
  have h4 := h1.2.2
  simp only [List.length_nil] at h4
  refine ⟨⟨fun t ht => ?_, h1.1.trans h.len, by omega⟩, by omega⟩
  rcases step_mem M hOk (a + 2) n b c now ([], mk) t ht with h5 | ⟨h5, u, hu, h6⟩
  · simp at h5
  · exact ⟨h5, by have := (h.mem u hu).2; omega⟩
/-- What is left to search behind the scan. -/
def Next (M : List St) (n st : Nat) (anch : Bool) (l : List UInt8) (R : Option (Nat × Nat)) (a : Nat) (now : List Th) (mk : List Nat) (b : Option (Nat × Nat)) : Prop :=
  (a = l.length → R = b) ∧ ∀ c, l[a]? = some c → R = if now = [] ∧ (b.isSome = true ∨ anch = true) then b else findF M n st anch (l.drop (a + 1)) (a + 1) (step M n b c (a + 2) now ([], mk)).1 (step M n b c (a + 2) now ([], mk)).2 b
theorem findF_next {M : List St} {n st : Nat} {anch : Bool} {l : List UInt8} {R : Option (Nat × Nat)} {a : Nat} {now : List Th} {mk : List Nat} {b : Option (Nat × Nat)} (h : R = findF M n st anch (l.drop a) a now mk b) :
    Next M n st anch l R a (begin_ M n st anch a now mk b).1 (begin_ M n st anch a now mk b).2 (scan a (begin_ M n st anch a now mk b).1 b) := by
  refine ⟨fun ha => ?_, fun c hc => ?_⟩
  · rw [h, List.drop_eq_nil_of_le (by omega)]; rfl
  · have hlt : a < l.length := (List.getElem?_eq_some_iff.1 hc).1
    rw [h, List.drop_eq_getElem_cons hlt]
    have : l[a] = c := by rw [List.getElem?_eq_getElem hlt] at hc; exact Option.some.inj hc
    rw [this, findF]
end Rx
/-- A row without its elements. -/
theorem Ths.emp {w : World} {a : Option Addr} {n c : Nat} {ts : List Th} (h : Ths w (.slice a n c) ts) : Ths w (.slice a 0 c) [] := by
  rcases h.2 with ⟨e, _⟩ | ⟨g, cap, cur, e, h1, h2, h3, h4, h5, h6⟩
  · injection e with e1 e2 e3
    subst e1 e3
    exact ⟨rfl, .inl ⟨rfl, rfl⟩⟩
  · injection e with e1 e2 e3
    subst e1 e3
    exact ⟨rfl, .inr ⟨g, c, cur, rfl, h1, h2, Nat.zero_le _, h4, h5, by simp [thc]⟩⟩
theorem own_any (a : Option Addr) (n c n' c' : Nat) : (Value.slice a n c).ownBlock = (Value.slice a n' c').ownBlock := by cases a <;> rfl
/-- The next set is empty. -/
theorem FIn.emp {B : Nat} {Z : Nat → Prop} {m : Nat} {st : Int} {M : List St} {W : World} {b bb rb : Nat} {nv : Value} {now nxt : List Th} {mk : List Nat} {best : Option (Nat × Nat)} {wr : World} {a : Option Addr} {n c : Nat} (h : FIn B Z m st M W b bb rb nv (.slice a n c) now nxt mk best wr) : FIn B Z m st M W b bb rb nv (.slice a 0 c) now [] mk best wr :=
  { h with nxt := h.nxt.emp, sep := fun g h1 h2 => h.sep g h1 (by rw [own_any a n c 0 c]; exact h2), nxv := fun g h1 => h.nxv g (by rw [own_any a n c 0 c]; exact h1) }
theorem FIn.drewN {B : Nat} {Z : Nat → Prop} {m : Nat} {st : Int} {M : List St} {W : World} {b bb rb : Nat} {nv xv : Value} {now nxt : List Th} {mk : List Nat} {best : Option (Nat × Nat)} {wr : World} (h : FIn B Z m st M W b bb rb nv xv now nxt mk best wr) (n : Nat) : FIn B Z m st M W b bb rb nv xv now nxt mk best (wr.drewN n) :=
  h.more ⟨rfl, rfl, rfl, Nat.le_refl _, fun _ _ => rfl⟩
/-- What a walk reads of a thread. -/
theorem Ths.read {w : World} {a : Option Addr} {n c : Nat} {ts : List Th} (h : Ths w (.slice a n c) ts) {j : Nat} {t : Th} (hj : ts[j]? = some t) : n = ts.length ∧ n ≤ c ∧ ∃ g, a = some ⟨g, 0, none⟩ ∧ w.cell? ⟨g, j * 2, none⟩ = some (.int .i64 t.1) ∧ w.cell? ⟨g, j * 2 + 1, none⟩ = some (.int .i64 t.2) ∧ g < w.heap.size := by
  have hlt : j < ts.length := (List.getElem?_eq_some_iff.1 hj).1
  have hthc : ∀ (ts : List Th) (j : Nat) (t : Th), ts[j]? = some t → (thc ts)[j * 2]? = some (intV t.1) ∧ (thc ts)[j * 2 + 1]? = some (intV t.2) := by
    intro ts
    induction ts with
    | nil => intro j t h; simp at h
    | cons u ts ih =>
      intro j t h
      rcases j with _ | j
      · simp only [List.getElem?_cons_zero] at h
        injection h with h
        subst h
        exact ⟨rfl, rfl⟩
      · simp only [List.getElem?_cons_succ] at h
        have := ih j t h
        have e1 : (j + 1) * 2 = j * 2 + 1 + 1 := by omega
        rw [e1]
        exact this
  obtain ⟨k1, k2⟩ := hthc ts j t hj
  have hs : ∃ g, a = some ⟨g, 0, none⟩ ∧ n = ts.length ∧ n ≤ c := by
    rcases h.2 with ⟨e, h0⟩ | ⟨g, cap, cur, e, _, _, h3, _⟩
    · omega
    · injection e with e1 e2 e3
      exact ⟨g, e1, e2, by omega⟩
  obtain ⟨g, rfl, hn, hc⟩ := hs
  obtain ⟨C, hC⟩ := owns_type h (g := g) rfl
  exact ⟨hn, hc, g, rfl, owns_cell h rfl k1, owns_cell h rfl k2, hC.lt⟩
theorem Ths.len {w : World} {a : Option Addr} {n c : Nat} {ts : List Th} (h : Ths w (.slice a n c) ts) : n = ts.length := by
  rcases h.2 with ⟨e, h0⟩ | ⟨g, cap, cur, e, _⟩
  · injection e with e1 e2 e3; omega
  · injection e with e1 e2 e3
/-- What the outer loop keeps. -/
structure FRel (B : Nat) (Z : Nat → Prop) (m st : Nat) (M : List St) (W : World) (b bb rb : Nat) (anch : Bool) (l : List UInt8) (R : Option (Nat × Nat)) (nv xv fv av : Value) (a : Nat) (wr : World) : Prop where
  ex : ∃ now nxt mk best, FIn B Z m st M W b bb rb nv xv now nxt mk best wr ∧ fv = .bool best.isSome ∧ av = .int .i64 (a : Nat) ∧ a ≤ l.length ∧ Gd M a now mk ∧ now.length + free (a + 1) mk ≤ M.length ∧ R = findF M (M.length + 1) st anch (l.drop a) a now mk best
/-- The marks at first. -/
theorem Marks.made {w : World} {b n : Nat} (h : w.ownsRow 0 3 1 (.slice (some ⟨b, 0, none⟩) n n) n (madeCells #[.int .i64 0] n).toList) : Marks w b (List.replicate n 0) := by
  rcases h.2 with ⟨e, h0⟩ | ⟨g, cap, cur, e, h1, h2, h3, h4, h5, h6⟩
  · cases e
  · injection e with e1 e2 e3
    injection e1 with e1
    injection e1 with e1 _ _
    subst e1 e3
    have e4 : cur.toList = (madeCells #[.int .i64 0] n).toList := by
      rw [← h6, List.take_of_length_le]
      simp [h5]
    have e5 : cur = (List.map intV (List.replicate n 0)).toArray := by
      apply Array.toList_inj.1
      rw [e4]
      simp only [madeCells, intV, Array.toList_map, Array.toList_range, List.map_replicate]
      rw [List.eq_replicate_iff]
      refine ⟨by simp, fun x hx => ?_⟩
      rw [List.mem_map] at hx
      obtain ⟨y, _, rfl⟩ := hx
      simp [Nat.mod_one]
    unfold Marks
    rw [← e5]
    exact ⟨h2⟩
end Go.Proofs.YthckgmbadmilfaaGreat
