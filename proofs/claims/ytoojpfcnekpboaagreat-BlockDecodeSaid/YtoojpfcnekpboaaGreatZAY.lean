/- Texts of labels that are read: plain Lean. A directory that is read: plain Lean. -/
import Derived.Test.YtoojpfcnekpboaaGreatZAB
import Derived.Test.YtoojpfcnekpboaaGreatZAV
import Derived.Test.YtoojpfcnekpboaaGreatZAR
namespace Go.Proofs.YtoojpfcnekpboaaGreat

def unescB (c : UInt8) : Option UInt8 := if c = 92 ∨ c = 34 then some c else if c = 110 then some 10 else none
/-- A value behind its first quotation mark, and the bytes up to and with the second one. -/
def unqL : List UInt8 → Option (List UInt8 × Nat)
  | [] => none
  | [c] => if c = 34 then some ([], 1) else none
  | c :: d :: q => if c = 34 then some ([], 1) else if c = 10 then none else if c = 92 then ((unescB d).bind fun e => (unqL q).map fun p => (e :: p.1, p.2 + 2)) else (unqL (d :: q)).map fun p => (c :: p.1, p.2 + 1)
theorem unqL_end : unqL [] = none := rfl
theorem unqL_quote (r : List UInt8) : unqL (34 :: r) = some ([], 1) := by cases r <;> simp [unqL]
theorem unqL_line (r : List UInt8) : unqL (10 :: r) = none := by cases r <;> simp [unqL]
theorem unqL_back_end : unqL [92] = none := by simp [unqL]
theorem unqL_back (d : UInt8) (q : List UInt8) : unqL (92 :: d :: q) = (unescB d).bind fun e => (unqL q).map fun p => (e :: p.1, p.2 + 2) := by simp [unqL]
theorem unqL_other (c : UInt8) (r : List UInt8) (h1 : c ≠ 34) (h2 : c ≠ 10) (h3 : c ≠ 92) : unqL (c :: r) = (unqL r).map fun p => (c :: p.1, p.2 + 1) := by
  cases r with
  | nil => simp [unqL, h1]
  | cons d q => simp [unqL, h1, h2, h3]
theorem quoB_consP (c : UInt8) (r : List UInt8) : quoB (c :: r) = (if c = 92 ∨ c = 34 then [92, c] else if c = 10 then [92, 110] else [c]) ++ quoB r := rfl
/-- What is quoted is read. -/
theorem unqL_quo : ∀ (v t : List UInt8), unqL (quoB v ++ 34 :: t) = some (v, (quoB v).length + 1)
  | [], t => by simp [quoB, unqL_quote]
  | c :: r, t => by
    have ih := unqL_quo r t
    rw [quoB_consP]
    by_cases h1 : c = 92 ∨ c = 34
    · rw [if_pos h1]
      show unqL (92 :: c :: (quoB r ++ 34 :: t)) = _
      rw [unqL_back, ih]
      simp [unescB, h1]
    · rw [if_neg h1]
      by_cases h2 : c = 10
      · rw [if_pos h2]
        show unqL (92 :: 110 :: (quoB r ++ 34 :: t)) = _
        rw [unqL_back, ih]
        simp [unescB, h2]
      · rw [if_neg h2]
        show unqL (c :: (quoB r ++ 34 :: t)) = _
        rw [unqL_other c _ (fun e => h1 (.inr e)) h2 (fun e => h1 (.inl e)), ih]
        simp
/-- What is read was quoted. -/
theorem unqL_some : ∀ (n : Nat) (l : List UInt8), l.length ≤ n → ∀ (v : List UInt8) (k : Nat), unqL l = some (v, k) → ∃ t, l = quoB v ++ 34 :: t ∧ k = (quoB v).length + 1
  | _, [], _, v, k, h => by simp [unqL] at h
  | 0, c :: r, hn, _, _, _ => by simp at hn
  | n + 1, c :: r, hn, v, k, h => by
    by_cases h1 : c = 34
    · subst h1
      rw [unqL_quote] at h
      cases h
      exact ⟨r, rfl, rfl⟩
    · by_cases h2 : c = 10
      · subst h2; rw [unqL_line] at h; cases h
      · by_cases h3 : c = 92
        · subst h3
          cases r with
          | nil => rw [unqL_back_end] at h; cases h
          | cons d q =>
            rw [unqL_back] at h
            cases hd : unescB d with
            | none => rw [hd] at h; cases h
            | some e =>
              rw [hd] at h
              cases hq : unqL q with
              | none => rw [hq] at h; cases h
              | some p =>
                rw [hq] at h
                obtain ⟨t, h4, h5⟩ := unqL_some n q (by simp at hn; omega) p.1 p.2 hq
                simp only [Option.bind_some, Option.map_some, Option.some.injEq, Prod.mk.injEq] at h
                obtain ⟨rfl, rfl⟩ := h
                refine ⟨t, ?_, ?_⟩
                · rw [quoB_consP]
                  unfold unescB at hd
                  split at hd
                  · rename_i hx
                    injection hd with hd
                    subst hd
                    rw [if_pos hx, h4]
                    rfl
                  · split at hd
                    · rename_i hx hy
                      injection hd with hd
                      subst hd
                      rw [if_neg (by decide), if_pos rfl, h4, hy]
                      rfl
                    · cases hd
                · rw [quoB_consP, List.length_append, h5]
                  have : (if e = 92 ∨ e = 34 then [92, e] else if e = 10 then [92, 110] else [e]).length = 2 := by
                    unfold unescB at hd
                    split at hd
                    · rename_i hx; injection hd with hd; subst hd; rw [if_pos hx]; rfl
                    · split at hd
                      · injection hd with hd; subst hd; rfl
                      · cases hd
                  omega
        · rw [unqL_other c r h1 h2 h3] at h
          cases hq : unqL r with
          | none => rw [hq] at h; cases h
          | some p =>
            rw [hq] at h
            obtain ⟨t, h4, h5⟩ := unqL_some n r (by simp at hn; omega) p.1 p.2 hq
            simp only [Option.map_some, Option.some.injEq, Prod.mk.injEq] at h
            obtain ⟨rfl, rfl⟩ := h
            refine ⟨t, ?_, ?_⟩
            · rw [quoB_consP, if_neg (by rintro (e | e); exact h3 e; exact h1 e), if_neg h2, h4]; rfl
            · rw [quoB_consP, if_neg (by rintro (e | e); exact h3 e; exact h1 e), if_neg h2, h5]; simp

/-! ### Lists -/
def lab1 (l : List UInt8) : Option (Lab × List UInt8) :=
  if l.takeWhile letB5 = [] then none
  else match l.dropWhile letB5 with
  | a :: b :: r => if a = 61 ∧ b = 34 then (unqL r).map fun p => (⟨str (l.takeWhile letB5), str p.1⟩, r.drop p.2) else none
  | _ => none
def labsF : Nat → List UInt8 → Option (List Lab)
  | 0, _ => none
  | f + 1, l => (lab1 l).bind fun p => match p.2 with
    | [] => none
    | c :: q => if c = 44 then (labsF f q).map (p.1 :: ·) else if c = 125 ∧ q = [] then some [p.1] else none
def parL (l : List UInt8) : Option (List Lab) := if l = [123, 125] then some [] else match l with
  | [] => none
  | c :: r => if c = 123 then labsF (r.length + 1) r else none
/-- A name as the text reader takes it. -/
def letN (x : Lab) : Prop := bs x.name ≠ [] ∧ ∀ c ∈ bs x.name, letB5 c = true
theorem takeWhile_name : ∀ (n t : List UInt8), (∀ c ∈ n, letB5 c = true) → (n ++ 61 :: t).takeWhile letB5 = n ∧ (n ++ 61 :: t).dropWhile letB5 = 61 :: t
  | [], t, _ => by
    have : letB5 61 = false := by decide
    simp [this]
  | c :: r, t, h => by
    have h1 := h c List.mem_cons_self
    have h2 := takeWhile_name r t (fun d hd => h d (List.mem_cons_of_mem _ hd))
    rw [List.cons_append, List.takeWhile_cons_of_pos h1, List.dropWhile_cons_of_pos h1, h2.1, h2.2]
    exact ⟨rfl, rfl⟩
theorem lab1_fmt (x : Lab) (t : List UInt8) (h : letN x) : lab1 (fmtX x ++ t) = some (x, t) := by
  have e : fmtX x ++ t = bs x.name ++ 61 :: (34 :: (quoB (bs x.value) ++ 34 :: t)) := by unfold fmtX; simp
  obtain ⟨h1, h2⟩ := takeWhile_name (bs x.name) (34 :: (quoB (bs x.value) ++ 34 :: t)) h.2
  unfold lab1
  rw [e, h1, h2, if_neg h.1]
  simp only [and_self, if_true]
  rw [unqL_quo]
  have e2 : List.drop ((quoB (bs x.value)).length + 1) (quoB (bs x.value) ++ 34 :: t) = t := by
    rw [List.drop_append, List.drop_of_length_le (by omega)]
    simp
  simp only [Option.map_some, e2]
  rfl
theorem lab1_some (l : List UInt8) (x : Lab) (t : List UInt8) (h : lab1 l = some (x, t)) : l = fmtX x ++ t ∧ letN x := by
  unfold lab1 at h
  split at h
  · cases h
  · rename_i hn
    split at h
    · rename_i a b r hd
      split at h
      · rename_i hab
        obtain ⟨rfl, rfl⟩ := hab
        cases hq : unqL r with
        | none => rw [hq] at h; cases h
        | some p =>
          rw [hq] at h
          simp only [Option.map_some, Option.some.injEq, Prod.mk.injEq] at h
          obtain ⟨rfl, rfl⟩ := h
          obtain ⟨t2, h4, h5⟩ := unqL_some _ r (Nat.le_refl _) p.1 p.2 hq
          refine ⟨?_, hn, fun c hc => ?_⟩
          · have e := (List.takeWhile_append_dropWhile (p := letB5) (l := l)).symm
            rw [hd] at e
            rw [e]
            unfold fmtX
            simp only [bs_str]
            have e2 : r.drop p.2 = t2 := by
              rw [h4, h5, List.drop_append, List.drop_of_length_le (by omega)]
              simp
            rw [e2]
            have e3 : l.takeWhile letB5 ++ 61 :: 34 :: r = l := by rw [← hd]; exact List.takeWhile_append_dropWhile
            rw [e3]
            simp only [List.append_assoc, List.cons_append, List.nil_append]
            rw [← h4]
            exact e
          · simp only [bs_str] at hc
            exact List.all_eq_true.1 List.all_takeWhile c hc
      · cases h
    · cases h
theorem labsF_fmt : ∀ (ls : List Lab) (x : Lab) (f : Nat), ls.length < f → letN x → (∀ y ∈ ls, letN y) → labsF f (fmtX x ++ (fmtMore ls ++ [125])) = some (x :: ls)
  | [], x, f, hf, hx, _ => by
    obtain ⟨f, rfl⟩ : ∃ g, f = g + 1 := ⟨f - 1, by simp at hf; omega⟩
    unfold labsF
    rw [lab1_fmt x _ hx]
    simp [fmtMore]
  | y :: r, x, f, hf, hx, h => by
    obtain ⟨f, rfl⟩ : ∃ g, f = g + 1 := ⟨f - 1, by simp at hf; omega⟩
    have ih := labsF_fmt r y f (by simp at hf; omega) (h y List.mem_cons_self) (fun z hz => h z (List.mem_cons_of_mem _ hz))
    unfold labsF
    rw [lab1_fmt x _ hx]
    have e : fmtMore (y :: r) ++ [125] = 44 :: (fmtX y ++ (fmtMore r ++ [125])) := by rw [show fmtMore (y :: r) = 44 :: (fmtX y ++ fmtMore r) from rfl]; simp
    simp only [Option.bind_some, e, if_true, ih, Option.map_some]
theorem labsF_some : ∀ (f : Nat) (l : List UInt8) (ls : List Lab), labsF f l = some ls → ∃ x r, ls = x :: r ∧ l = fmtX x ++ (fmtMore r ++ [125]) ∧ letN x ∧ ∀ y ∈ r, letN y
  | 0, _, _, h => by cases h
  | f + 1, l, ls, h => by
    unfold labsF at h
    cases hl : lab1 l with
    | none => rw [hl] at h; cases h
    | some p =>
      rw [hl] at h
      obtain ⟨x, t⟩ := p
      obtain ⟨h1, h2⟩ := lab1_some l x t hl
      simp only [Option.bind_some] at h
      cases t with
      | nil => cases h
      | cons c q =>
        simp only at h
        split at h
        · rename_i hc
          subst hc
          cases hq : labsF f q with
          | none => rw [hq] at h; cases h
          | some qs =>
            rw [hq] at h
            simp only [Option.map_some, Option.some.injEq] at h
            subst h
            obtain ⟨y, r, rfl, h4, h5, h6⟩ := labsF_some f q qs hq
            refine ⟨x, y :: r, rfl, ?_, h2, fun z hz => ?_⟩
            · rw [h1, h4, show fmtMore (y :: r) = 44 :: (fmtX y ++ fmtMore r) from rfl]
              simp
            · rcases List.mem_cons.1 hz with rfl | hz
              · exact h5
              · exact h6 z hz
        · split at h
          · rename_i hc
            obtain ⟨rfl, rfl⟩ := hc
            injection h with h
            subst h
            exact ⟨x, [], rfl, by rw [h1]; rfl, h2, fun y hy => by simp at hy⟩
          · cases h
theorem fmtMore_lenP : ∀ r : List Lab, r.length ≤ (fmtMore r).length
  | [] => Nat.le_refl _
  | x :: r => by
    have := fmtMore_lenP r
    rw [show fmtMore (x :: r) = 44 :: (fmtX x ++ fmtMore r) from rfl]
    simp only [List.length_cons, List.length_append]
    omega
theorem fmtX_posP (x : Lab) : 3 ≤ (fmtX x).length := by unfold fmtX; simp only [List.length_append, List.length_cons, List.length_nil]; omega
theorem parL_fmt (ls : List Lab) (h : ∀ x ∈ ls, letN x) : parL (fmtL ls) = some ls := by
  unfold parL
  cases ls with
  | nil => exact if_pos rfl
  | cons x r =>
    have e : fmtL (x :: r) = 123 :: (fmtX x ++ (fmtMore r ++ [125])) := by unfold fmtL fmtIn; simp
    have hp := fmtX_posP x
    rw [if_neg, e]
    · simp only [if_true]
      refine labsF_fmt r x _ ?_ (h x List.mem_cons_self) (fun y hy => h y (List.mem_cons_of_mem _ hy))
      have := fmtMore_lenP r
      simp only [List.length_append, List.length_cons, List.length_nil]
      omega
    · rw [e]
      intro h2
      have := congrArg List.length h2
      simp only [List.length_append, List.length_cons, List.length_nil] at this
      omega
theorem parL_some (l : List UInt8) (ls : List Lab) (h : parL l = some ls) : l = fmtL ls ∧ ∀ x ∈ ls, letN x := by
  unfold parL at h
  split at h
  · rename_i he
    injection h with h
    subst h
    exact ⟨by rw [he]; rfl, fun x hx => by simp at hx⟩
  · split at h
    · cases h
    · rename_i c r
      split at h
      · rename_i hc
        subst hc
        obtain ⟨x, q, rfl, h1, h2, h3⟩ := labsF_some _ _ _ h
        refine ⟨by rw [h1]; unfold fmtL fmtIn; simp, fun y hy => ?_⟩
        rcases List.mem_cons.1 hy with rfl | hy
        · exact h2
        · exact h3 y hy
      · cases h
theorem nameB_letN (x : Lab) (h : nameB x.name = true) : letN x := by
  unfold nameB at h
  simp only [Bool.and_eq_true, List.all_eq_true, decide_eq_true_eq] at h
  refine ⟨fun e => ?_, h.1.1⟩
  have := h.1.2.1
  rw [← bs_length, e] at this
  simp at this
theorem chkFrom_names : ∀ (p : Option ByteArray) (ls : List Lab), chkFrom p ls = 0 → ∀ x ∈ ls, nameB x.name = true
  | _, [], _, x, hx => by simp at hx
  | p, y :: r, h, x, hx => by
    unfold chkFrom at h
    split at h
    · rename_i hn
      split at h
      · cases h
      · split at h
        · cases h
        · split at h
          · cases h
          · rcases List.mem_cons.1 hx with rfl | hx
            · exact hn
            · exact chkFrom_names _ r h x hx
    · cases h
/-- What Parse answers: the list and the error. -/
def parE (s : ByteArray) : List Lab × Int := match parL (bs s) with
  | none => ([], 3)
  | some ls => if chkL ls = 0 then (ls, 0) else ([], chkL ls)
theorem parE_fmt (s : ByteArray) (ls : List Lab) (h : bs s = fmtL ls) (hc : chkL ls = 0) : parE s = (ls, 0) := by
  have hn : ∀ x ∈ ls, letN x := fun x hx => nameB_letN x (chkFrom_names none ls (by unfold chkL at hc; split at hc; cases hc; exact hc) x hx)
  unfold parE
  rw [h, parL_fmt ls hn]
  simp only [if_pos hc]
theorem parE_ok (s : ByteArray) (ls : List Lab) (h : parE s = (ls, 0)) : bs s = fmtL ls ∧ chkL ls = 0 := by
  unfold parE at h
  split at h
  · cases h
  · rename_i l hl
    split at h
    · rename_i hc
      injection h with h _
      subst h
      exact ⟨(parL_some _ _ hl).1, hc⟩
    · rename_i hc
      injection h with _ h
      exact absurd h hc
end Go.Proofs.YtoojpfcnekpboaaGreat

namespace Go.Proofs.YtoojpfcnekpboaaGreat

structure RS where
  rest : ByteArray
  bad : Bool
def rNum (st : RS) : Int × RS := if st.bad = true ∨ (rdG st.rest).2.2 ≠ 0 then (0, ⟨st.rest, true⟩) else ((rdG st.rest).1, ⟨cutS st.rest (rdG st.rest).2.1.toNat, false⟩)
def rByt (n : Int) (st : RS) : ByteArray × RS := if st.bad = true ∨ (st.rest.size : Int) < n then (⟨#[]⟩, ⟨st.rest, true⟩) else (st.rest.extract 0 n.toNat, ⟨cutS st.rest n.toNat, false⟩)
/-- The seven readings of an item. -/
structure RI where
  sig : Int
  text : ByteArray
  zone : ByteArray
  off : Int
  size : Int
  st : RS
def rRaw (st : RS) : RI :=
  let a := rNum st
  let b := rNum a.2
  let t := rByt b.1 b.2
  let c := rNum t.2
  let z := rByt c.1 c.2
  let o := rNum z.2
  let q := rNum o.2
  ⟨a.1, t.1, z.1, o.1, q.1, q.2⟩
def rItm (at_ : Int) (st : RS) : Itm × RS :=
  let r := rRaw st
  if r.st.bad = true ∨ r.off ≠ at_ ∨ r.size < 4 ∨ 262148 < r.size then (⟨r.sig, [], Zn.zero, r.off, r.size⟩, ⟨r.st.rest, true⟩)
  else (⟨r.sig, (parE r.text).1, (zD r.zone).1, r.off, r.size⟩, ⟨r.st.rest, decide ((parE r.text).2 ≠ 0 ∨ (zD r.zone).2 ≠ 0)⟩)
def rLoop (count : Int) : Nat → Int → RS → List Itm → List Itm × Int × RS
  | 0, at_, st, acc => (acc, at_, st)
  | f + 1, at_, st, acc => if st.bad = false ∧ (acc.length : Int) < count then rLoop count f (at_ + (rItm at_ st).1.size) (rItm at_ st).2 (acc ++ [(rItm at_ st).1]) else (acc, at_, st)
structure RB where
  id : Int
  width : Int
  fr : Int
  items : List Itm
  total : Int
  st : RS
def rBlk (st : RS) : RB :=
  let m := rByt 4 st
  let i := rNum (if m.1 = str magicB then m.2 else ⟨m.2.rest, true⟩)
  let w := rNum i.2
  let f := rNum w.2
  let c := rNum f.2
  let l := rLoop c.1 4001 0 (if 4000 < c.1 then ⟨c.2.rest, true⟩ else c.2) []
  ⟨i.1, w.1, f.1, l.1, l.2.1, l.2.2⟩
/-- The chunk of an item, without its data. -/
def chkOf (x : Itm) : Chk := ⟨x.sig, x.labs, x.zone, ⟨#[]⟩⟩
def RB.blk (r : RB) : Blk := ⟨r.id, r.width, r.fr, r.items.map chkOf⟩

/-! ### Bounds -/
theorem rdG_bounds (s : ByteArray) : 0 ≤ (rdG s).1 ∧ (rdG s).1 ≤ 1152921504606846976 ∧ 0 ≤ (rdG s).2.1 ∧ (rdG s).2.1 ≤ s.size := by
  by_cases h : (rdG s).2.2 = 0
  · obtain ⟨m, h1, h2, h3, h4, _⟩ := rdG_ok s _ _ (trip_eta _ h)
    omega
  · obtain ⟨h1, h2⟩ := rdG_bad s h
    omega
theorem rNum_bounds (st : RS) : 0 ≤ (rNum st).1 ∧ (rNum st).1 ≤ 1152921504606846976 ∧ (rNum st).2.rest.size ≤ st.rest.size := by
  have := rdG_bounds st.rest
  unfold rNum
  split
  · exact ⟨Int.le_refl 0, by show (0 : Int) ≤ _; decide, Nat.le_refl _⟩
  · refine ⟨this.1, this.2.1, ?_⟩
    rw [cutS_size]
    omega
theorem rNum_bad (st : RS) (h : st.bad = true) : (rNum st).2.bad = true := by
  unfold rNum
  rw [if_pos (.inl h)]
theorem rByt_bounds (n : Int) (st : RS) : (rByt n st).1.size ≤ st.rest.size ∧ (rByt n st).2.rest.size ≤ st.rest.size := by
  unfold rByt
  split
  · exact ⟨Nat.zero_le _, Nat.le_refl _⟩
  · rw [cutS_size, ByteArray.size_extract]
    omega
theorem rByt_bad (n : Int) (st : RS) (h : st.bad = true) : (rByt n st).2.bad = true := by
  unfold rByt
  rw [if_pos (.inl h)]
theorem rRaw_bounds (st : RS) : 0 ≤ (rRaw st).size ∧ (rRaw st).size ≤ 1152921504606846976 ∧ (rRaw st).st.rest.size ≤ st.rest.size ∧ (rRaw st).text.size ≤ st.rest.size ∧ (rRaw st).zone.size ≤ st.rest.size := by
  unfold rRaw
  have h1 := rNum_bounds st
  have h2 := rNum_bounds (rNum st).2
  have h3 := rByt_bounds (rNum (rNum st).2).1 (rNum (rNum st).2).2
  have h4 := rNum_bounds (rByt (rNum (rNum st).2).1 (rNum (rNum st).2).2).2
  have h5 := rByt_bounds (rNum (rByt (rNum (rNum st).2).1 (rNum (rNum st).2).2).2).1 (rNum (rByt (rNum (rNum st).2).1 (rNum (rNum st).2).2).2).2
  have h6 := rNum_bounds (rByt (rNum (rByt (rNum (rNum st).2).1 (rNum (rNum st).2).2).2).1 (rNum (rByt (rNum (rNum st).2).1 (rNum (rNum st).2).2).2).2).2
  have h7 := rNum_bounds (rNum (rByt (rNum (rByt (rNum (rNum st).2).1 (rNum (rNum st).2).2).2).1 (rNum (rByt (rNum (rNum st).2).1 (rNum (rNum st).2).2).2).2).2).2
  refine ⟨h7.1, h7.2.1, ?_, ?_, ?_⟩
  · show (rNum _).2.rest.size ≤ _
    omega
  · show (rByt _ _).1.size ≤ _
    omega
  · show (rByt _ _).1.size ≤ _
    omega
theorem rItm_bounds (a : Int) (st : RS) : 0 ≤ (rItm a st).1.size ∧ (rItm a st).1.size ≤ 1152921504606846976 ∧ (rItm a st).2.rest.size ≤ st.rest.size ∧ ((rItm a st).2.bad = false → (rItm a st).1.size ≤ 262148) := by
  have := rRaw_bounds st
  unfold rItm
  simp only
  split
  · exact ⟨this.1, this.2.1, this.2.2.1, fun h => by cases h⟩
  · rename_i h
    exact ⟨this.1, this.2.1, this.2.2.1, fun _ => by show (rRaw st).size ≤ _; omega⟩
end Go.Proofs.YtoojpfcnekpboaaGreat
