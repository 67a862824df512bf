/- Texts of labels that are read: plain Lean. Slices that are read: of structs of any number of cells; of labels. Walks: the bytes of a name, a name (the program's and the reference's). -/
import Derived.Test.YtoojpfcnekpboaaMAB
namespace Go.Proofs.Ytoojpfcnekpboaa

def unescB (c : UInt8) : Option UInt8 := if c = 92 ∨ c = 34 then some c else if c = 110 then some 10 else none
/-- A value behind its first quotation mark, and the bytes up to and with the second one. -/
def unqL : List UInt8 → Option (List UInt8 × Nat)
  | [] => none
  | [c] => if c = 34 then some ([], 1) else none
  | c :: d :: q => if c = 34 then some ([], 1) else if c = 10 then none else if c = 92 then ((unescB d).bind fun e => (unqL q).map fun p => (e :: p.1, p.2 + 2)) else (unqL (d :: q)).map fun p => (c :: p.1, p.2 + 1)
theorem unqL_end : unqL [] = none := rfl
theorem unqL_quote (r : List UInt8) : unqL (34 :: r) = some ([], 1) := by cases r <;> simp [unqL]
theorem unqL_line (r : List UInt8) : unqL (10 :: r) = none := by cases r <;> simp [unqL]
theorem unqL_back_end : unqL [92] = none := by simp [unqL]
theorem unqL_back (d : UInt8) (q : List UInt8) : unqL (92 :: d :: q) = (unescB d).bind fun e => (unqL q).map fun p => (e :: p.1, p.2 + 2) := by simp [unqL]
theorem unqL_other (c : UInt8) (r : List UInt8) (h1 : c ≠ 34) (h2 : c ≠ 10) (h3 : c ≠ 92) : unqL (c :: r) = (unqL r).map fun p => (c :: p.1, p.2 + 1) := by
  cases r with
  | nil => simp [unqL, h1]
  | cons d q => simp [unqL, h1, h2, h3]
theorem quoB_consP (c : UInt8) (r : List UInt8) : quoB (c :: r) = (if c = 92 ∨ c = 34 then [92, c] else if c = 10 then [92, 110] else [c]) ++ quoB r := rfl
/-- What is quoted is read. -/
theorem unqL_quo : ∀ (v t : List UInt8), unqL (quoB v ++ 34 :: t) = some (v, (quoB v).length + 1)
  | [], t => by simp [quoB, unqL_quote]
  | c :: r, t => by
    have ih := unqL_quo r t
    rw [quoB_consP]
    by_cases h1 : c = 92 ∨ c = 34
    · rw [if_pos h1]
      show unqL (92 :: c :: (quoB r ++ 34 :: t)) = _
      rw [unqL_back, ih]
      simp [unescB, h1]
    · rw [if_neg h1]
      by_cases h2 : c = 10
      · rw [if_pos h2]
        show unqL (92 :: 110 :: (quoB r ++ 34 :: t)) = _
        rw [unqL_back, ih]
        simp [unescB, h2]
      · rw [if_neg h2]
        show unqL (c :: (quoB r ++ 34 :: t)) = _
        rw [unqL_other c _ (fun e => h1 (.inr e)) h2 (fun e => h1 (.inl e)), ih]
        simp
/-- What is read was quoted. -/
theorem unqL_some : ∀ (n : Nat) (l : List UInt8), l.length ≤ n → ∀ (v : List UInt8) (k : Nat), unqL l = some (v, k) → ∃ t, l = quoB v ++ 34 :: t ∧ k = (quoB v).length + 1
  | _, [], _, v, k, h => by simp [unqL] at h
  | 0, c :: r, hn, _, _, _ => by simp at hn
  | n + 1, c :: r, hn, v, k, h => by
    by_cases h1 : c = 34
    · subst h1
      rw [unqL_quote] at h
      cases h
      exact ⟨r, rfl, rfl⟩
    · by_cases h2 : c = 10
      · subst h2; rw [unqL_line] at h; cases h
      · by_cases h3 : c = 92
        · subst h3
          cases r with
          | nil => rw [unqL_back_end] at h; cases h
          | cons d q =>
            rw [unqL_back] at h
            cases hd : unescB d with
            | none => rw [hd] at h; cases h
            | some e =>
              rw [hd] at h
              cases hq : unqL q with
              | none => rw [hq] at h; cases h
              | some p =>
                rw [hq] at h
                obtain ⟨t, h4, h5⟩ := unqL_some n q (by simp at hn; omega) p.1 p.2 hq
                simp only [Option.bind_some, Option.map_some, Option.some.injEq, Prod.mk.injEq] at h
                obtain ⟨rfl, rfl⟩ := h
                refine ⟨t, ?_, ?_⟩
                · rw [quoB_consP]
                  unfold unescB at hd
                  split at hd
                  · rename_i hx
                    injection hd with hd
                    subst hd
                    rw [if_pos hx, h4]
                    rfl
                  · split at hd
                    · rename_i hx hy
                      injection hd with hd
                      subst hd
                      rw [if_neg (by decide), if_pos rfl, h4, hy]
                      rfl
                    · cases hd
                · rw [quoB_consP, List.length_append, h5]
                  have : (if e = 92 ∨ e = 34 then [92, e] else if e = 10 then [92, 110] else [e]).length = 2 := by
                    unfold unescB at hd
                    split at hd
                    · rename_i hx; injection hd with hd; subst hd; rw [if_pos hx]; rfl
                    · split at hd
                      · injection hd with hd; subst hd; rfl
                      · cases hd
                  omega
        · rw [unqL_other c r h1 h2 h3] at h
          cases hq : unqL r with
          | none => rw [hq] at h; cases h
          | some p =>
            rw [hq] at h
            obtain ⟨t, h4, h5⟩ := unqL_some n r (by simp at hn; omega) p.1 p.2 hq
            simp only [Option.map_some, Option.some.injEq, Prod.mk.injEq] at h
            obtain ⟨rfl, rfl⟩ := h
            refine ⟨t, ?_, ?_⟩
            · rw [quoB_consP, if_neg (by rintro (e | e); exact h3 e; exact h1 e), if_neg h2, h4]; rfl
            · rw [quoB_consP, if_neg (by rintro (e | e); exact h3 e; exact h1 e), if_neg h2, h5]; simp

/-! ### Lists -/
def lab1 (l : List UInt8) : Option (Lab × List UInt8) :=
  if l.takeWhile letB5 = [] then none
  else match l.dropWhile letB5 with
  | a :: b :: r => if a = 61 ∧ b = 34 then (unqL r).map fun p => (⟨str (l.takeWhile letB5), str p.1⟩, r.drop p.2) else none
  | _ => none
def labsF : Nat → List UInt8 → Option (List Lab)
  | 0, _ => none
  | f + 1, l => (lab1 l).bind fun p => match p.2 with
    | [] => none
    | c :: q => if c = 44 then (labsF f q).map (p.1 :: ·) else if c = 125 ∧ q = [] then some [p.1] else none
def parL (l : List UInt8) : Option (List Lab) := if l = [123, 125] then some [] else match l with
  | [] => none
  | c :: r => if c = 123 then labsF (r.length + 1) r else none
/-- A name as the text reader takes it. -/
def letN (x : Lab) : Prop := bs x.name ≠ [] ∧ ∀ c ∈ bs x.name, letB5 c = true
theorem takeWhile_name : ∀ (n t : List UInt8), (∀ c ∈ n, letB5 c = true) → (n ++ 61 :: t).takeWhile letB5 = n ∧ (n ++ 61 :: t).dropWhile letB5 = 61 :: t
  | [], t, _ => by
    have : letB5 61 = false := by decide
    simp [this]
  | c :: r, t, h => by
    have h1 := h c List.mem_cons_self
    have h2 := takeWhile_name r t (fun d hd => h d (List.mem_cons_of_mem _ hd))
    rw [List.cons_append, List.takeWhile_cons_of_pos h1, List.dropWhile_cons_of_pos h1, h2.1, h2.2]
    exact ⟨rfl, rfl⟩
theorem lab1_fmt (x : Lab) (t : List UInt8) (h : letN x) : lab1 (fmtX x ++ t) = some (x, t) := by
  have e : fmtX x ++ t = bs x.name ++ 61 :: (34 :: (quoB (bs x.value) ++ 34 :: t)) := by unfold fmtX; simp
  obtain ⟨h1, h2⟩ := takeWhile_name (bs x.name) (34 :: (quoB (bs x.value) ++ 34 :: t)) h.2
  unfold lab1
  rw [e, h1, h2, if_neg h.1]
  simp only [and_self, if_true]
  rw [unqL_quo]
  have e2 : List.drop ((quoB (bs x.value)).length + 1) (quoB (bs x.value) ++ 34 :: t) = t := by
    rw [List.drop_append, List.drop_of_length_le (by omega)]
    simp
  simp only [Option.map_some, e2]
  rfl
theorem lab1_some (l : List UInt8) (x : Lab) (t : List UInt8) (h : lab1 l = some (x, t)) : l = fmtX x ++ t ∧ letN x := by
  unfold lab1 at h
  split at h
  · cases h
  · rename_i hn
    split at h
    · rename_i a b r hd
      split at h
      · rename_i hab
        obtain ⟨rfl, rfl⟩ := hab
        cases hq : unqL r with
        | none => rw [hq] at h; cases h
        | some p =>
          rw [hq] at h
          simp only [Option.map_some, Option.some.injEq, Prod.mk.injEq] at h
          obtain ⟨rfl, rfl⟩ := h
          obtain ⟨t2, h4, h5⟩ := unqL_some _ r (Nat.le_refl _) p.1 p.2 hq
          refine ⟨?_, hn, fun c hc => ?_⟩
          · have e := (List.takeWhile_append_dropWhile (p := letB5) (l := l)).symm
            rw [hd] at e
            rw [e]
            unfold fmtX
            simp only [bs_str]
            have e2 : r.drop p.2 = t2 := by
              rw [h4, h5, List.drop_append, List.drop_of_length_le (by omega)]
              simp
            rw [e2]
            have e3 : l.takeWhile letB5 ++ 61 :: 34 :: r = l := by rw [← hd]; exact List.takeWhile_append_dropWhile
            rw [e3]
            simp only [List.append_assoc, List.cons_append, List.nil_append]
            rw [← h4]
            exact e
          · simp only [bs_str] at hc
            exact List.all_eq_true.1 List.all_takeWhile c hc
      · cases h
    · cases h
theorem labsF_fmt : ∀ (ls : List Lab) (x : Lab) (f : Nat), ls.length < f → letN x → (∀ y ∈ ls, letN y) → labsF f (fmtX x ++ (fmtMore ls ++ [125])) = some (x :: ls)
  | [], x, f, hf, hx, _ => by
    obtain ⟨f, rfl⟩ : ∃ g, f = g + 1 := ⟨f - 1, by simp at hf; omega⟩
    unfold labsF
    rw [lab1_fmt x _ hx]
    simp [fmtMore]
  | y :: r, x, f, hf, hx, h => by
    obtain ⟨f, rfl⟩ : ∃ g, f = g + 1 := ⟨f - 1, by simp at hf; omega⟩
    have ih := labsF_fmt r y f (by simp at hf; omega) (h y List.mem_cons_self) (fun z hz => h z (List.mem_cons_of_mem _ hz))
    unfold labsF
    rw [lab1_fmt x _ hx]
    have e : fmtMore (y :: r) ++ [125] = 44 :: (fmtX y ++ (fmtMore r ++ [125])) := by rw [show fmtMore (y :: r) = 44 :: (fmtX y ++ fmtMore r) from rfl]; simp
    simp only [Option.bind_some, e, if_true, ih, Option.map_some]
theorem labsF_some : ∀ (f : Nat) (l : List UInt8) (ls : List Lab), labsF f l = some ls → ∃ x r, ls = x :: r ∧ l = fmtX x ++ (fmtMore r ++ [125]) ∧ letN x ∧ ∀ y ∈ r, letN y
  | 0, _, _, h => by cases h
  | f + 1, l, ls, h => by
    unfold labsF at h
    cases hl : lab1 l with
    | none => rw [hl] at h; cases h
    | some p =>
      rw [hl] at h
      obtain ⟨x, t⟩ := p
      obtain ⟨h1, h2⟩ := lab1_some l x t hl
      simp only [Option.bind_some] at h
      cases t with
      | nil => cases h
      | cons c q =>
        simp only at h
        split at h
        · rename_i hc
          subst hc
          cases hq : labsF f q with
          | none => rw [hq] at h; cases h
          | some qs =>
            rw [hq] at h
            simp only [Option.map_some, Option.some.injEq] at h
            subst h
            obtain ⟨y, r, rfl, h4, h5, h6⟩ := labsF_some f q qs hq
            refine ⟨x, y :: r, rfl, ?_, h2, fun z hz => ?_⟩
            · rw [h1, h4, show fmtMore (y :: r) = 44 :: (fmtX y ++ fmtMore r) from rfl]
              simp
            · rcases List.mem_cons.1 hz with rfl | hz
              · exact h5
              · exact h6 z hz
        · split at h
          · rename_i hc
            obtain ⟨rfl, rfl⟩ := hc
            injection h with h
            subst h
            exact ⟨x, [], rfl, by rw [h1]; rfl, h2, fun y hy => by simp at hy⟩
          · cases h
theorem fmtMore_lenP : ∀ r : List Lab, r.length ≤ (fmtMore r).length
  | [] => Nat.le_refl _
  | x :: r => by
    have := fmtMore_lenP r
    rw [show fmtMore (x :: r) = 44 :: (fmtX x ++ fmtMore r) from rfl]
    simp only [List.length_cons, List.length_append]
    omega
theorem fmtX_posP (x : Lab) : 3 ≤ (fmtX x).length := by unfold fmtX; simp only [List.length_append, List.length_cons, List.length_nil]; omega
theorem parL_fmt (ls : List Lab) (h : ∀ x ∈ ls, letN x) : parL (fmtL ls) = some ls := by
  unfold parL
  cases ls with
  | nil => exact if_pos rfl
  | cons x r =>
    have e : fmtL (x :: r) = 123 :: (fmtX x ++ (fmtMore r ++ [125])) := by unfold fmtL fmtIn; simp
    have hp := fmtX_posP x
    rw [if_neg, e]
    · simp only [if_true]
      refine labsF_fmt r x _ ?_ (h x List.mem_cons_self) (fun y hy => h y (List.mem_cons_of_mem _ hy))
      have := fmtMore_lenP r
      simp only [List.length_append, List.length_cons, List.length_nil]
      omega
    · rw [e]
      intro h2
      have := congrArg List.length h2
      simp only [List.length_append, List.length_cons, List.length_nil] at this
      omega
theorem parL_some (l : List UInt8) (ls : List Lab) (h : parL l = some ls) : l = fmtL ls ∧ ∀ x ∈ ls, letN x := by
  unfold parL at h
  split at h
  · rename_i he
    injection h with h
    subst h
    exact ⟨by rw [he]; rfl, fun x hx => by simp at hx⟩
  · split at h
    · cases h
    · rename_i c r
      split at h
      · rename_i hc
        subst hc
        obtain ⟨x, q, rfl, h1, h2, h3⟩ := labsF_some _ _ _ h
        refine ⟨by rw [h1]; unfold fmtL fmtIn; simp, fun y hy => ?_⟩
        rcases List.mem_cons.1 hy with rfl | hy
        · exact h2
        · exact h3 y hy
      · cases h
theorem nameB_letN (x : Lab) (h : nameB x.name = true) : letN x := by
  unfold nameB at h
  simp only [Bool.and_eq_true, List.all_eq_true, decide_eq_true_eq] at h
  refine ⟨fun e => ?_, h.1.1⟩
  have := h.1.2.1
  rw [← bs_length, e] at this
  simp at this
theorem chkFrom_names : ∀ (p : Option ByteArray) (ls : List Lab), chkFrom p ls = 0 → ∀ x ∈ ls, nameB x.name = true
  | _, [], _, x, hx => by simp at hx
  | p, y :: r, h, x, hx => by
    unfold chkFrom at h
    split at h
    · rename_i hn
      split at h
      · cases h
      · split at h
        · cases h
        · split at h
          · cases h
          · rcases List.mem_cons.1 hx with rfl | hx
            · exact hn
            · exact chkFrom_names _ r h x hx
    · cases h
/-- What Parse answers: the list and the error. -/
def parE (s : ByteArray) : List Lab × Int := match parL (bs s) with
  | none => ([], 3)
  | some ls => if chkL ls = 0 then (ls, 0) else ([], chkL ls)
theorem parE_fmt (s : ByteArray) (ls : List Lab) (h : bs s = fmtL ls) (hc : chkL ls = 0) : parE s = (ls, 0) := by
  have hn : ∀ x ∈ ls, letN x := fun x hx => nameB_letN x (chkFrom_names none ls (by unfold chkL at hc; split at hc; cases hc; exact hc) x hx)
  unfold parE
  rw [h, parL_fmt ls hn]
  simp only [if_pos hc]
theorem parE_ok (s : ByteArray) (ls : List Lab) (h : parE s = (ls, 0)) : bs s = fmtL ls ∧ chkL ls = 0 := by
  unfold parE at h
  split at h
  · cases h
  · rename_i l hl
    split at h
    · rename_i hc
      injection h with h _
      subst h
      exact ⟨(parL_some _ _ hl).1, hc⟩
    · rename_i hc
      injection h with _ h
      exact absurd h hc
end Go.Proofs.Ytoojpfcnekpboaa

namespace Go.Proofs.Ytoojpfcnekpboaa
open Go.RowKit

/-- A slice whose elements (s cells each) are these; it lies below block B. -/
def RdIn (B : Nat) (w : World) (s : Nat) (A : Option Addr) (xs : List (Array Value)) : Prop :=
  ∀ k (h : k < xs.length), ∃ b o, A = some ⟨b, o, none⟩ ∧ b < B ∧ ∀ j, j < s → w.cell? ⟨b, o + k * s + j, none⟩ = (xs[k])[j]?
section
variable {B B' : Nat} {w w' : World} {s : Nat} {A : Option Addr} {xs : List (Array Value)}
theorem RdIn.mono (h : RdIn B w s A xs) (hB : B ≤ B') : RdIn B' w s A xs := fun k hk => by
  obtain ⟨b, o, h1, h2, h3⟩ := h k hk
  exact ⟨b, o, h1, by omega, h3⟩
theorem RdIn.same (h : RdIn B w s A xs) (hc : ∀ b, b < B → w'.heap[b]? = w.heap[b]?) : RdIn B w' s A xs := fun k hk => by
  obtain ⟨b, o, h1, h2, h3⟩ := h k hk
  exact ⟨b, o, h1, h2, fun j hj => (World.cell?_of_block (hc b h2)).trans (h3 j hj)⟩
theorem RdIn.below (h : RdIn B w s A xs) (hb : Below B w w') : RdIn B w' s A xs := h.same fun b hlt => hb.block b hlt
theorem RdIn.drewN (h : RdIn B w s A xs) (n : Nat) : RdIn B (w.drewN n) s A xs := h.same fun _ _ => rfl
theorem RdIn.alloc (h : RdIn B w s A xs) (hB : B ≤ w.heap.size) (o : Obj) : RdIn B (w.alloc o) s A xs := h.same fun b hlt => Below.heap_alloc w o b (by omega)
theorem RdIn.nil (B : Nat) (w : World) (s : Nat) (A : Option Addr) : RdIn B w s A [] := fun k h => absurd h (by simp)
end

def Lab.cells (x : Lab) : Array Value := #[.string x.name, .string x.value]
/-- A slice of labels that is read. -/
def LabsIn (B : Nat) (w : World) (A : Option Addr) (ls : List Lab) : Prop := RdIn B w 2 A (ls.map Lab.cells)
section
variable {B B' : Nat} {w w' : World} {A : Option Addr} {ls : List Lab}
theorem LabsIn.at_ (h : LabsIn B w A ls) (k : Nat) (hk : k < ls.length) : ∃ b o, A = some ⟨b, o, none⟩ ∧ b < B ∧ w.cell? ⟨b, o + k * 2, none⟩ = some (.string (ls[k]).name) ∧ w.cell? ⟨b, o + k * 2 + 1, none⟩ = some (.string (ls[k]).value) := by
  obtain ⟨b, o, h1, h2, h3⟩ := h k (by simpa using hk)
  refine ⟨b, o, h1, h2, ?_, ?_⟩
  · have := h3 0 (by omega)
    simpa [Lab.cells] using this
  · have := h3 1 (by omega)
    simpa [Lab.cells] using this
theorem LabsIn.mono (h : LabsIn B w A ls) (hB : B ≤ B') : LabsIn B' w A ls := RdIn.mono h hB
theorem LabsIn.same (h : LabsIn B w A ls) (hc : ∀ b, b < B → w'.heap[b]? = w.heap[b]?) : LabsIn B w' A ls := RdIn.same h hc
theorem LabsIn.below (h : LabsIn B w A ls) (hb : Below B w w') : LabsIn B w' A ls := RdIn.below h hb
theorem LabsIn.drewN (h : LabsIn B w A ls) (n : Nat) : LabsIn B (w.drewN n) A ls := RdIn.drewN h n
theorem LabsIn.alloc (h : LabsIn B w A ls) (hB : B ≤ w.heap.size) (o : Obj) : LabsIn B (w.alloc o) A ls := RdIn.alloc h hB o
theorem LabsIn.nil (B : Nat) (w : World) (A : Option Addr) : LabsIn B w A [] := RdIn.nil B w 2 A
end
theorem drop_cons {α : Type} {l : List α} {k : Nat} (h : k < l.length) : l.drop k = l[k] :: l.drop (k + 1) := List.drop_eq_getElem_cons h
/-- The world is the old one; some orders have been drawn. -/
structure Drw (w w' : World) : Prop where mk :: (out : ∃ n, w' = w.drewN n)
theorem Drw.refl (w : World) : Drw w w := ⟨0, rfl⟩
theorem Drw.step {w w' : World} (h : Drw w w') (n : Nat) : Drw w (w'.drewN n) := by
  obtain ⟨m, rfl⟩ := h
  exact ⟨m + n, World.drewN_drewN _ _ _⟩
theorem Drw.trans {w w' w'' : World} (h : Drw w w') (h' : Drw w' w'') : Drw w w'' := by
  obtain ⟨m, rfl⟩ := h'
  exact h.step m
theorem Drw.below {w w' : World} (h : Drw w w') : Below w.heap.size w w' := by
  obtain ⟨n, rfl⟩ := h
  exact bN (Below.refl _ _) n
theorem str_ne {s : ByteArray} (h : s.size ≠ 0) : (s.toList == ([] : List UInt8)) = false := by
  rw [beq_eq_false_iff_ne, toList_bs]
  intro e
  have : (bs s).length = 0 := by rw [e]; rfl
  rw [bs_length] at this
  exact h this
theorem str_eq {s : ByteArray} (h : s.size = 0) : (s.toList == ([] : List UInt8)) = true := by
  rw [beq_iff_eq, toList_bs]
  exact List.eq_nil_of_length_eq_zero (by rw [bs_length]; exact h)
theorem below_round {w wr : World} (h : Below w.heap.size w wr) (o : Obj) (n : Nat) : Below w.heap.size w ((wr.alloc o).drewN n) := bN (h.alloc h.size o) n
theorem at_alloc {wr : World} {b o : Nat} {v : Value} (h : wr.cell? ⟨b, o, none⟩ = some v) (hb : b < wr.heap.size) (x : Obj) : (wr.alloc x).cell? ⟨b, o, none⟩ = some v := (World.cell?_alloc_lt wr x ⟨b, o, none⟩ hb).trans h
end Go.Proofs.Ytoojpfcnekpboaa

namespace Go.Proofs.Ytoojpfcnekpboaa
open Go.RowKit

theorem byte_cases (c : UInt8) : c.toNat ≤ 47 ∨ (48 ≤ c.toNat ∧ c.toNat ≤ 57) ∨ (58 ≤ c.toNat ∧ c.toNat ≤ 64) ∨ (65 ≤ c.toNat ∧ c.toNat ≤ 90) ∨ (91 ≤ c.toNat ∧ c.toNat ≤ 94) ∨ c.toNat = 95 ∨ c.toNat = 96 ∨ (97 ≤ c.toNat ∧ c.toNat ≤ 122) ∨ 123 ≤ c.toNat := by omega
set_option maxHeartbeats 1000000 in
theorem isNameByte_any (c : UInt8) (w : World) : Calls Try.prog 89 #[.int .u8 c.toNat] w fun e w' => e = .returned (.bool (letB5 c)) ∧ w' = w := by
  have HB : Hid (letB5 c = decide ((97 ≤ c.toNat ∧ c.toNat ≤ 122) ∨ (65 ≤ c.toNat ∧ c.toNat ≤ 90) ∨ (48 ≤ c.toNat ∧ c.toNat ≤ 57) ∨ c.toNat = 95)) := Lib.hid rfl
  have h := byte_cases c
  rcases h with h | ⟨h, h2⟩ | ⟨h, h2⟩ | ⟨h, h2⟩ | ⟨h, h2⟩ | h | h | ⟨h, h2⟩ | h
  all_goals
    go_enter Try.func89, Try.ntmps89
    go_wp2_with fail
    go_ret
    exact ⟨ret_bool (by rw [HB.out]; rw [Bool.eq_iff_iff]; first | (simp; done) | (simp; omega)), rfl⟩
set_option maxHeartbeats 1000000 in
theorem letter05_any (c : UInt8) (w : World) : Calls Try.prog 91 #[.int .u8 c.toNat] w fun e w' => e = .returned (.bool (letB5 c)) ∧ w' = w := by
  have HB : Hid (letB5 c = decide ((97 ≤ c.toNat ∧ c.toNat ≤ 122) ∨ (65 ≤ c.toNat ∧ c.toNat ≤ 90) ∨ (48 ≤ c.toNat ∧ c.toNat ≤ 57) ∨ c.toNat = 95)) := Lib.hid rfl
  have h := byte_cases c
  rcases h with h | ⟨h, h2⟩ | ⟨h, h2⟩ | ⟨h, h2⟩ | ⟨h, h2⟩ | h | h | ⟨h, h2⟩ | h
  all_goals
    go_enter Try.func91, Try.ntmps91
    go_wp2_with fail
    go_ret
    exact ⟨ret_bool (by rw [HB.out]; rw [Bool.eq_iff_iff]; first | (simp; done) | (simp; omega)), rfl⟩
end Go.Proofs.Ytoojpfcnekpboaa
