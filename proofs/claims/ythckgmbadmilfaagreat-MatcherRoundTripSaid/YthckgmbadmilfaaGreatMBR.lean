/- Texts of matchers that are read: plain Lean. -/
import Derived.Test.YthckgmbadmilfaaGreatMAG
import Derived.Test.YthckgmbadmilfaaGreatMBQ
namespace Go.Proofs.YthckgmbadmilfaaGreat

/-- The operator with the quotation mark behind it. -/
def opQ (k : Int) : List UInt8 := opK k ++ [34]
def opM (l : List UInt8) : Option (Int × List UInt8) :=
  if (opQ 1).isPrefixOf l then some (1, l.drop 2) else if (opQ 2).isPrefixOf l then some (2, l.drop 3) else if (opQ 3).isPrefixOf l then some (3, l.drop 3) else if (opQ 4).isPrefixOf l then some (4, l.drop 3) else none
def mt1 (l : List UInt8) : Option (Mt × List UInt8) :=
  if l.takeWhile letB5 = [] then none
  else match opM (l.dropWhile letB5) with
  | some (k, r) => (unqL r).map fun p => (⟨k, str (l.takeWhile letB5), str p.1⟩, r.drop p.2)
  | none => none
def mtsF : Nat → List UInt8 → Option (List Mt)
  | 0, _ => none
  | f + 1, l => (mt1 l).bind fun p => match p.2 with
    | [] => none
    | c :: q => if c = 44 then (mtsF f q).map (p.1 :: ·) else if c = 125 ∧ q = [] then some [p.1] else none
def parM (l : List UInt8) : Option (List Mt) := if l = [123, 125] then some [] else match l with
  | [] => none
  | c :: r => if c = 123 then mtsF (r.length + 1) r else none
/-- What Parse answers: the list and the error. -/
def parseM (s : List UInt8) : List Mt × Int := match parM s with
  | none => ([], 3)
  | some l => if chkMs l = 0 then (l, 0) else ([], chkMs l)

def letM (x : Mt) : Prop := bs x.name ≠ [] ∧ (∀ c ∈ bs x.name, letB5 c = true) ∧ 1 ≤ x.kind ∧ x.kind ≤ 4
theorem chk_letM {x : Mt} (h : chkM x = 0) : letM x := by
  unfold chkM at h
  split at h
  · omega
  · split at h
    · rename_i h1 h2
      have := nameB_letN ⟨x.name, x.value⟩ h2
      exact ⟨this.1, this.2, by omega, by omega⟩
    · omega
theorem opM_fmt (k : Int) (h1 : 1 ≤ k) (h2 : k ≤ 4) (t : List UInt8) : opM (opK k ++ 34 :: t) = some (k, t) := by
  have : k = 1 ∨ k = 2 ∨ k = 3 ∨ k = 4 := by omega
  rcases this with rfl | rfl | rfl | rfl <;> simp [opM, opQ, opK]
theorem opM_some {l t : List UInt8} {k : Int} (h : opM l = some (k, t)) : l = opK k ++ 34 :: t ∧ 1 ≤ k ∧ k ≤ 4 := by
  unfold opM at h
  split at h
  · rename_i h1
    obtain ⟨r, rfl⟩ := List.isPrefixOf_iff_prefix.1 h1
    injection h with h
    injection h with h3 h4
    subst h3; subst h4
    exact ⟨by simp [opQ, opK], by omega, by omega⟩
  · split at h
    · rename_i h1
      obtain ⟨r, rfl⟩ := List.isPrefixOf_iff_prefix.1 h1
      injection h with h
      injection h with h3 h4
      subst h3; subst h4
      exact ⟨by simp [opQ, opK], by omega, by omega⟩
    · split at h
      · rename_i h1
        obtain ⟨r, rfl⟩ := List.isPrefixOf_iff_prefix.1 h1
        injection h with h
        injection h with h3 h4
        subst h3; subst h4
        exact ⟨by simp [opQ, opK], by omega, by omega⟩
      · split at h
        · rename_i h1
          obtain ⟨r, rfl⟩ := List.isPrefixOf_iff_prefix.1 h1
          injection h with h
          injection h with h3 h4
          subst h3; subst h4
          exact ⟨by simp [opQ, opK], by omega, by omega⟩
        · cases h
theorem opK_head (k : Int) (t : List UInt8) : ∃ c r, opK k ++ 34 :: t = c :: r ∧ letB5 c = false := by
  unfold opK
  split
  · exact ⟨61, _, rfl, by decide⟩
  · split
    · exact ⟨33, _, rfl, by decide⟩
    · split
      · exact ⟨61, _, rfl, by decide⟩
      · exact ⟨33, _, rfl, by decide⟩
theorem takeWhile_let : ∀ (n t : List UInt8), (∀ c ∈ n, letB5 c = true) → (∃ c r, t = c :: r ∧ letB5 c = false) → (n ++ t).takeWhile letB5 = n ∧ (n ++ t).dropWhile letB5 = t
  | [], t, _, ⟨c, r, e, hc⟩ => by
    subst e
    simp [hc]
  | c :: r, t, h, h0 => by
    have h1 := h c List.mem_cons_self
    have h2 := takeWhile_let r t (fun d hd => h d (List.mem_cons_of_mem _ hd)) h0
    rw [List.cons_append, List.takeWhile_cons_of_pos h1, List.dropWhile_cons_of_pos h1, h2.1, h2.2]
    exact ⟨rfl, rfl⟩
theorem mt1_fmt (x : Mt) (t : List UInt8) (h : letM x) : mt1 (fmtM x ++ t) = some (x, t) := by
  have e : fmtM x ++ t = bs x.name ++ (opK x.kind ++ 34 :: (quoB (bs x.value) ++ 34 :: t)) := by unfold fmtM; simp
  obtain ⟨h1, h2⟩ := takeWhile_let (bs x.name) (opK x.kind ++ 34 :: (quoB (bs x.value) ++ 34 :: t)) h.2.1 (opK_head _ _)
  unfold mt1
  rw [e, h1, h2, if_neg h.1, opM_fmt _ h.2.2.1 h.2.2.2]
  simp only
  rw [unqL_quo]
  have e2 : List.drop ((quoB (bs x.value)).length + 1) (quoB (bs x.value) ++ 34 :: t) = t := by
    rw [List.drop_append, List.drop_of_length_le (by omega)]
    simp
  simp only [Option.map_some, e2]
  rfl
theorem mt1_some (l : List UInt8) (x : Mt) (t : List UInt8) (h : mt1 l = some (x, t)) : l = fmtM x ++ t ∧ letM x := by
  unfold mt1 at h
  split at h
  · cases h
  · rename_i hn
    split at h
    · rename_i k r hd
      cases hq : unqL r with
      | none => rw [hq] at h; cases h
      | some p =>
        rw [hq] at h
        simp only [Option.map_some, Option.some.injEq, Prod.mk.injEq] at h
        obtain ⟨rfl, rfl⟩ := h
        obtain ⟨h6, h7, h8⟩ := opM_some hd
        obtain ⟨t2, h4, h5⟩ := unqL_some _ r (Nat.le_refl _) p.1 p.2 hq
        refine ⟨?_, hn, fun c hc => ?_, h7, h8⟩
        · have e := (List.takeWhile_append_dropWhile (p := letB5) (l := l)).symm
          have e2 : r.drop p.2 = t2 := by
            rw [h4, h5, List.drop_append, List.drop_of_length_le (by omega)]
            simp
          have e3 : fmtM ⟨k, str (l.takeWhile letB5), str p.1⟩ ++ List.drop p.2 r = l.takeWhile letB5 ++ l.dropWhile letB5 := by
            rw [e2, h6]
            unfold fmtM
            simp only [bs_str, List.append_assoc, List.cons_append, List.nil_append]
            rw [← h4]
          rw [e3]
          exact e
        · simp only [bs_str] at hc
          exact List.all_eq_true.1 List.all_takeWhile c hc
    · cases h
theorem mtsF_fmt : ∀ (ls : List Mt) (x : Mt) (f : Nat), ls.length < f → letM x → (∀ y ∈ ls, letM y) → mtsF f (fmtM x ++ (fmtMmore ls ++ [125])) = some (x :: ls)
  | [], x, f, hf, hx, _ => by
    obtain ⟨f, rfl⟩ : ∃ g, f = g + 1 := ⟨f - 1, by simp at hf; omega⟩
    unfold mtsF
    rw [mt1_fmt x _ hx]
    simp [fmtMmore]
  | y :: r, x, f, hf, hx, h => by
    obtain ⟨f, rfl⟩ : ∃ g, f = g + 1 := ⟨f - 1, by simp at hf; omega⟩
    have ih := mtsF_fmt r y f (by simp at hf; omega) (h y List.mem_cons_self) (fun z hz => h z (List.mem_cons_of_mem _ hz))
    unfold mtsF
    rw [mt1_fmt x _ hx]
    have e : fmtMmore (y :: r) ++ [125] = 44 :: (fmtM y ++ (fmtMmore r ++ [125])) := by rw [show fmtMmore (y :: r) = 44 :: (fmtM y ++ fmtMmore r) from rfl]; simp
    simp only [Option.bind_some, e, if_true, ih, Option.map_some]
theorem mtsF_some : ∀ (f : Nat) (l : List UInt8) (ls : List Mt), mtsF f l = some ls → ∃ x r, ls = x :: r ∧ l = fmtM x ++ (fmtMmore r ++ [125]) ∧ letM x ∧ ∀ y ∈ r, letM y
  | 0, _, _, h => by cases h
  | f + 1, l, ls, h => by
    unfold mtsF at h
    cases hl : mt1 l with
    | none => rw [hl] at h; cases h
    | some p =>
      rw [hl] at h
      obtain ⟨x, t⟩ := p
      obtain ⟨h1, h2⟩ := mt1_some l x t hl
      simp only [Option.bind_some] at h
      cases t with
      | nil => cases h
      | cons c q =>
        simp only at h
        split at h
        · rename_i hc
          subst hc
          cases hq : mtsF f q with
          | none => rw [hq] at h; cases h
          | some qs =>
            rw [hq] at h
            simp only [Option.map_some, Option.some.injEq] at h
            subst h
            obtain ⟨y, r, rfl, h4, h5, h6⟩ := mtsF_some f q qs hq
            refine ⟨x, y :: r, rfl, ?_, h2, fun z hz => ?_⟩
            · rw [h1, h4, show fmtMmore (y :: r) = 44 :: (fmtM y ++ fmtMmore r) from rfl]
              simp
            · rcases List.mem_cons.1 hz with rfl | hz
              · exact h5
              · exact h6 z hz
        · split at h
          · rename_i hc
            obtain ⟨rfl, rfl⟩ := hc
            injection h with h
            subst h
            exact ⟨x, [], rfl, by rw [h1]; rfl, h2, fun y hy => by simp at hy⟩
          · cases h
theorem fmtMmore_len : ∀ r : List Mt, r.length ≤ (fmtMmore r).length
  | [] => Nat.le_refl _
  | x :: r => by
    have := fmtMmore_len r
    rw [show fmtMmore (x :: r) = 44 :: (fmtM x ++ fmtMmore r) from rfl]
    simp only [List.length_cons, List.length_append]
    omega
theorem fmtM_pos (x : Mt) : 2 ≤ (fmtM x).length := by unfold fmtM; simp only [List.length_append, List.length_cons, List.length_nil]; omega
/-- The text of a list, valid or not. -/
def fmtM0 (l : List Mt) : List UInt8 := 123 :: (fmtMin l ++ [125])
theorem parM_fmt (ls : List Mt) (h : ∀ x ∈ ls, letM x) : parM (fmtM0 ls) = some ls := by
  unfold parM
  cases ls with
  | nil => exact if_pos rfl
  | cons x r =>
    have e : fmtM0 (x :: r) = 123 :: (fmtM x ++ (fmtMmore r ++ [125])) := by unfold fmtM0 fmtMin; simp
    have hp := fmtM_pos x
    rw [if_neg, e]
    · simp only [if_true]
      refine mtsF_fmt r x _ ?_ (h x List.mem_cons_self) (fun y hy => h y (List.mem_cons_of_mem _ hy))
      have := fmtMmore_len r
      simp only [List.length_append, List.length_cons, List.length_nil]
      omega
    · rw [e]
      intro h2
      have := congrArg List.length h2
      simp only [List.length_append, List.length_cons, List.length_nil] at this
      omega
theorem parM_some (l : List UInt8) (ls : List Mt) (h : parM l = some ls) : l = fmtM0 ls ∧ ∀ x ∈ ls, letM x := by
  unfold parM at h
  split at h
  · rename_i he
    injection h with h
    subst h
    exact ⟨by rw [he]; rfl, fun x hx => by simp at hx⟩
  · split at h
    · cases h
    · rename_i c r
      split at h
      · rename_i hc
        subst hc
        obtain ⟨x, q, rfl, h1, h2, h3⟩ := mtsF_some _ _ _ h
        refine ⟨by rw [h1]; unfold fmtM0 fmtMin; simp, fun y hy => ?_⟩
        rcases List.mem_cons.1 hy with rfl | hy
        · exact h2
        · exact h3 y hy
      · cases h
theorem chkMF_all : ∀ {l : List Mt}, chkMF l = 0 → ∀ m ∈ l, chkM m = 0
  | [], _, m, hm => by simp at hm
  | y :: r, h, m, hm => by
    unfold chkMF at h
    split at h
    · rename_i h0
      rcases List.mem_cons.1 hm with rfl | hm
      · exact h0
      · exact chkMF_all h m hm
    · rename_i h0
      exact absurd h h0
theorem parseM_fmt {l : List Mt} (h : chkMs l = 0) : parseM (fmtMs l) = (l, 0) := by
  have hn : ∀ x ∈ l, letM x := fun x hx => chk_letM (chkMF_all (by unfold chkMs at h; split at h; omega; exact h) x hx)
  have e : fmtMs l = fmtM0 l := by unfold fmtMs fmtM0; rw [if_pos h]
  unfold parseM
  rw [e, parM_fmt l hn]
  simp only [if_pos h]
theorem parseM_ok {s : List UInt8} {l : List Mt} (h : parseM s = (l, 0)) : chkMs l = 0 ∧ fmtMs l = s := by
  unfold parseM at h
  split at h
  · injection h with _ h
    omega
  · rename_i r hr
    split at h
    · rename_i hc
      injection h with h _
      subst h
      refine ⟨hc, ?_⟩
      rw [(parM_some _ _ hr).1]
      unfold fmtMs fmtM0
      rw [if_pos hc]
    · rename_i hc
      injection h with _ h
      exact absurd h hc
theorem parseM_err {s : List UInt8} (h : (parseM s).2 ≠ 0) : (parseM s).1 = [] := by
  unfold parseM at h ⊢
  split
  · rfl
  · split
    · rename_i l hl hc
      simp only [hl, if_pos hc] at h
      exact absurd rfl h
    · rfl
end Go.Proofs.YthckgmbadmilfaaGreat
