/- Matchers in plain Lean: what simplifying does. A region that draws its order, under the wide fence: what it reads first, then a chain. DERIVED: THE SHELF's CONTRACTS AT THIS DUMP, IN PLAIN WORDS (tools/lay-plain.mjs out of 'TryzShelf.lean', which tools/lay-shelf.mjs wrote): THE SAME DECLARATIONS UNDER THE SAME NAMES: 'import', 'namespace', 'open', 'def', 'theorem' AND NOTHING ELSE: no command of the shelf's: FOR A HAND-IN. Each laying: the table of numbers ('.._ren') and one theorem, a field a fact of the dump's own or the kernel's comparison; each contract: ONE APPLICATION. Walks: the labels with their marks (an iterator of the program), and Get. -/
import Derived.Test.YthckgmbadmilfaaGreatMAV
import Derived.Test.YthckgmbadmilfaaGreatMAA
import Derived.OrdersIn
import Derived.OwnWalkIn
import Derived.TacticsInMore
import Derived.StillTailTactics
import Derived.Test.YthckgmbadmilfaaGreatMAG
import Derived.Shelf.Small.Bits
import Derived.Shelf.Small.Strs
import Derived.Shelf.Small.Wraps
import Derived.Shelf.Strconv.Itoa0
import Derived.Shelf.Strings.Search1
import Derived.Shelf.Strings.Prefix
import Derived.Shelf.Slices.Turned
import Derived.Ground.Names2Prog
import Derived.Shelf.Slices.SearchI
import Derived.Test.YthckgmbadmilfaaGreatProg
import Derived.RangeFuncNested
import Derived.RangeFuncBound
import Derived.RangeFuncCalls
import Derived.RangeFuncLeaves
import Derived.RangeFuncBox
import Derived.LoopNIn
import Derived.LoopIn
namespace Go.Proofs.YthckgmbadmilfaaGreat

theorem chkMF_iff : ∀ {l : List Mt}, chkMF l = 0 ↔ ∀ m ∈ l, chkM m = 0
  | [] => by simp [chkMF]
  | m :: r => by
    unfold chkMF
    by_cases h : chkM m = 0
    · rw [if_pos h, chkMF_iff (l := r)]
      simp [h]
    · rw [if_neg h]
      simp [h]
theorem chkMs_iff {l : List Mt} : chkMs l = 0 ↔ l.length ≤ 16 ∧ ∀ m ∈ l, chkM m = 0 := by
  unfold chkMs
  by_cases h : 16 < l.length
  · rw [if_pos h]
    constructor
    · intro h2; omega
    · intro h2; omega
  · rw [if_neg h, chkMF_iff]
    constructor
    · intro h2; exact ⟨by omega, h2⟩
    · exact fun h2 => h2.2

/-! ### Literals -/
theorem fit_one {m : Mt} (h : m.kind = 1) (v : ByteArray) : fitM m v = decide (v = m.value) := by unfold fitM; rw [if_pos h]
theorem fit_two {m : Mt} (h : m.kind = 2) (v : ByteArray) : fitM m v = !decide (v = m.value) := by unfold fitM; rw [if_neg (by omega), if_pos h]
theorem fit_three {m : Mt} (h : m.kind = 3) (v : ByteArray) : fitM m v = Rx.matchR (bs m.value) (bs v) := by unfold fitM; rw [if_neg (by omega), if_neg (by omega), if_pos h]
theorem fit_four {m : Mt} (h : m.kind = 4) (v : ByteArray) : fitM m v = !Rx.matchR (bs m.value) (bs v) := by unfold fitM; rw [if_neg (by omega), if_neg (by omega), if_neg (by omega)]
theorem fit_lit (m : Mt) (v : ByteArray) : fitM (litM m) v = fitM m v := by
  unfold litM
  split
  · rename_i hk
    split
    · rename_i hp
      have e : decide (v = str (Rx.prefR (bs m.value)).1) = Rx.matchR (bs m.value) (bs v) := by
        rw [Rx.match_all hp]
        exact decide_eq_decide.2 ⟨fun h => by rw [h, bs_str], fun h => by rw [← h, str_bs]⟩
      rcases hk with hk | hk
      · rw [fit_three hk, fit_one (by show m.kind - 2 = 1; omega), e]
      · rw [fit_four hk, fit_two (by show m.kind - 2 = 2; omega), e]
    · rfl
  · rfl
theorem lit_name (m : Mt) : (litM m).name = m.name := by unfold litM; split <;> (try split) <;> rfl
theorem lit_34 {m : Mt} (h : (litM m).kind = 3 ∨ (litM m).kind = 4) : litM m = m ∧ (Rx.prefR (bs m.value)).2 = false := by
  unfold litM at h ⊢
  by_cases hk : m.kind = 3 ∨ m.kind = 4
  · rw [if_pos hk] at h ⊢
    by_cases hp : (Rx.prefR (bs m.value)).2 = true
    · rw [if_pos hp] at h
      simp only at h
      omega
    · rw [if_neg hp]
      exact ⟨rfl, by simpa using hp⟩
  · rw [if_neg hk] at h
    exact absurd h hk
theorem lit_lit (m : Mt) : litM (litM m) = litM m := by
  by_cases h : (litM m).kind = 3 ∨ (litM m).kind = 4
  · rw [(lit_34 h).1, (lit_34 h).1]
  · show (if _ then _ else _) = _
    rw [if_neg h]
theorem pre_len7 : ∀ s : Rx.Ss, (Rx.pre s).1.length ≤ Rx.szS s := by
  intro s
  induction s using Rx.Ss.rec (motive_1 := fun _ => True) (motive_3 := fun _ => True) with
  | nil => exact Nat.le_refl _
  | cons u s _ ih => rcases u with c | f | a | u | u | u <;> simp only [Rx.pre, Rx.szS, Rx.szU, List.length_cons, List.length_nil] <;> omega
  | _ => trivial
theorem pref_len7 (p : List UInt8) : (Rx.prefR p).1.length ≤ 200 := by
  unfold Rx.prefR
  rcases h : Rx.parse p with _ | a
  · simp
  · rcases a with s | ⟨s, a⟩
    · have h1 := Rx.parse_sz h
      have h2 := pre_len7 s
      simp only [Rx.szA] at h1
      simp only
      omega
    · simp
theorem chk_lit {m : Mt} (h : chkM m = 0) : chkM (litM m) = 0 := by
  by_cases hk : m.kind = 3 ∨ m.kind = 4
  · by_cases hp : (Rx.prefR (bs m.value)).2 = true
    · have e : litM m = ⟨m.kind - 2, m.name, str (Rx.prefR (bs m.value)).1⟩ := by unfold litM; rw [if_pos hk, if_pos hp]
      have hl := pref_len7 (bs m.value)
      unfold chkM at h
      rw [if_neg (by omega)] at h
      rw [e]
      unfold chkM
      simp only
      by_cases hn : nameB m.name = true
      · rw [if_neg (by omega), if_pos hn, if_neg (by omega), if_neg (by rw [str_size]; omega)]
      · rw [if_neg hn] at h
        omega
    · have e : litM m = m := by unfold litM; rw [if_pos hk, if_neg hp]
      rw [e]; exact h
  · have e : litM m = m := by unfold litM; rw [if_neg hk]
    rw [e]; exact h

/-! ### Contradictions -/
theorem eql_some {l : List Mt} {n : ByteArray} {q : Mt} (h : eqlM l n = some q) : q ∈ l ∧ q.name = n ∧ q.kind = 1 := by
  unfold eqlM at h
  have h1 := List.find?_some h
  simp only [Bool.and_eq_true, decide_eq_true_eq] at h1
  exact ⟨List.mem_of_find?_eq_some h, h1.1, h1.2⟩
theorem eql_none {l : List Mt} {n : ByteArray} (h : eqlM l n = none) : ∀ q ∈ l, q.name = n → ¬ q.kind = 1 := by
  intro q hq hn hk
  unfold eqlM at h
  rw [List.find?_eq_none] at h
  have := h q hq
  simp [hn, hk] at this
theorem apart_no {p q : ByteArray} {v : List UInt8} (h : apartM p q = true) (h1 : Rx.matchR (bs p) v = true) (h2 : Rx.matchR (bs q) v = true) : False := by
  obtain ⟨a, e1⟩ := Rx.match_pref h1
  obtain ⟨b, e2⟩ := Rx.match_pref h2
  unfold apartM at h
  simp only [Bool.and_eq_true, Bool.not_eq_true', ← Bool.not_eq_true, List.isPrefixOf_iff_prefix] at h
  rcases List.prefix_or_prefix_of_prefix (l₃ := v) ⟨a, e1.symm⟩ ⟨b, e2.symm⟩ with h3 | h3
  · exact h.1 h3
  · exact h.2 h3
/-- A list after the first step is contradictory. -/
def CP (P : List Mt) : Prop := ∃ m ∈ P, (m.kind = 3 ∧ Rx.emptyR (bs m.value) = true) ∨ (∃ q ∈ P, q.name = m.name ∧ q.kind = 1 ∧ fitM m q.value = false) ∨
  (m.kind = 3 ∧ ∃ y ∈ P, y.name = m.name ∧ y.kind = 3 ∧ apartM m.value y.value = true)
theorem contra_eql {P : List Mt} {m q : Mt} (he : eqlM P m.name = some q) (hf : fitM m q.value = false) : contraM P m = true := by
  unfold contraM
  split
  · rfl
  · rw [he]
    simp [hf]
theorem contra_iff (P : List Mt) : P.any (contraM P) = true ↔ CP P := by
  rw [List.any_eq_true]
  constructor
  · rintro ⟨m, hm, h⟩
    refine ⟨m, hm, ?_⟩
    unfold contraM at h
    split at h
    · rename_i h1
      exact .inl h1
    · split at h
      · rename_i q he
        obtain ⟨h1, h2, h3⟩ := eql_some he
        exact .inr (.inl ⟨q, h1, h2, h3, by simpa using h⟩)
      · simp only [Bool.and_eq_true, decide_eq_true_eq, List.any_eq_true] at h
        obtain ⟨h1, y, hy, ⟨h2, h3⟩, h4⟩ := h
        exact .inr (.inr ⟨h1, y, hy, h2, h3, h4⟩)
  · rintro ⟨m, hm, h | ⟨q, hq, h1, h2, h3⟩ | ⟨h1, y, hy, h2, h3, h4⟩⟩
    · refine ⟨m, hm, ?_⟩
      unfold contraM
      rw [if_pos h]
    · rcases he : eqlM P m.name with _ | q0
      · exact absurd h2 (eql_none he q hq h1)
      · by_cases hv : q0.value = q.value
        · exact ⟨m, hm, contra_eql he (by rw [hv]; exact h3)⟩
        · refine ⟨q, hq, contra_eql (by rw [h1]; exact he) ?_⟩
          rw [fit_one h2]
          simpa using hv
    · rcases he : eqlM P m.name with _ | q0
      · refine ⟨m, hm, ?_⟩
        unfold contraM
        split
        · rfl
        · rw [he]
          simp only [Bool.and_eq_true, decide_eq_true_eq, List.any_eq_true]
          exact ⟨h1, y, hy, ⟨h2, h3⟩, h4⟩
      · rcases hf : fitM m q0.value with _ | _
        · exact ⟨m, hm, contra_eql he hf⟩
        · rcases hf2 : fitM y q0.value with _ | _
          · exact ⟨y, hy, contra_eql (by rw [h2]; exact he) hf2⟩
          · rw [fit_three h1] at hf
            rw [fit_three h3] at hf2
            exact (apart_no h4 hf hf2).elim

/-! ### What is needed -/
def HasE (P : List Mt) (n : ByteArray) : Prop := ∃ q ∈ P, q.name = n ∧ q.kind = 1
def NQ (P : List Mt) (m : Mt) : Prop := (HasE P m.name → m.kind = 1) ∧ (¬ HasE P m.name → ¬ (m.kind = 4 ∧ Rx.emptyR (bs m.value) = true) ∧ ¬ ∃ y ∈ P, y.name = m.name ∧ y.kind = 3 ∧ exclM y m = true)
theorem excld_iff {P : List Mt} {m : Mt} : excldM P m = true ↔ ∃ y ∈ P, y.name = m.name ∧ y.kind = 3 ∧ exclM y m = true := by
  unfold excldM
  rw [List.any_eq_true]
  simp only [Bool.and_eq_true, decide_eq_true_eq]
  exact ⟨fun ⟨y, a, ⟨b, c⟩, d⟩ => ⟨y, a, b, c, d⟩, fun ⟨y, a, b, c, d⟩ => ⟨y, a, ⟨b, c⟩, d⟩⟩
theorem need_iff {P : List Mt} (hc : ¬ CP P) {m : Mt} (hm : m ∈ P) : needM P m = true ↔ NQ P m := by
  unfold needM NQ
  rcases he : eqlM P m.name with _ | q
  · have hE : ¬ HasE P m.name := fun ⟨q, h1, h2, h3⟩ => eql_none he q h1 h2 h3
    simp only
    rw [← excld_iff]
    constructor
    · intro h
      refine ⟨fun h2 => absurd h2 hE, fun _ => ?_⟩
      split at h
      · cases h
      · rename_i h3
        exact ⟨h3, by simpa using h⟩
    · rintro ⟨_, h⟩
      obtain ⟨h1, h2⟩ := h hE
      rw [if_neg h1]
      simpa using h2
  · obtain ⟨h1, h2, h3⟩ := eql_some he
    have hE : HasE P m.name := ⟨q, h1, h2, h3⟩
    simp only [decide_eq_true_eq]
    constructor
    · rintro rfl
      exact ⟨fun _ => h3, fun h => absurd hE h⟩
    · rintro ⟨h, _⟩
      have hk := h hE
      refine Mt.ext' (hk.trans h3.symm) h2.symm ?_
      rcases hf : fitM m q.value with _ | _
      · exact absurd ⟨m, hm, .inr (.inl ⟨q, h1, h2, h3, hf⟩)⟩ hc
      · rw [fit_one hk] at hf
        exact (of_decide_eq_true hf).symm
theorem sim_no {l : List Mt} (h : chkMs l = 0) (hc : CP (l.map litM)) : simM l = ([], false) := by
  unfold simM
  rw [if_pos h, if_pos ((contra_iff _).2 hc)]
theorem sim_yes {l : List Mt} (h : chkMs l = 0) (hc : ¬ CP (l.map litM)) : (simM l).2 = true ∧ OrdM (simM l).1 ∧ ∀ x, x ∈ (simM l).1 ↔ x ∈ l.map litM ∧ NQ (l.map litM) x := by
  have e : simM l = (setM ((l.map litM).filter (needM (l.map litM))), true) := by
    unfold simM
    rw [if_pos h, if_neg (fun h2 => hc ((contra_iff _).1 h2))]
  rw [e]
  refine ⟨rfl, ord_set _, fun x => ?_⟩
  rw [mem_set, List.mem_filter]
  exact ⟨fun ⟨a, b⟩ => ⟨a, (need_iff hc a).1 b⟩, fun ⟨a, b⟩ => ⟨a, (need_iff hc a).2 b⟩⟩

/-! ### What matches -/
theorem fits_iff {l : List Mt} {ls : List Lab} : fitsM l ls = true ↔ ∀ m ∈ l, fitM m (getL ls m.name) = true := by unfold fitsM; rw [List.all_eq_true]
theorem fits_lit (l : List Mt) (ls : List Lab) : fitsM (l.map litM) ls = fitsM l ls := by
  unfold fitsM
  rw [List.all_map]
  congr 1
  funext m
  simp only [Function.comp_apply, lit_name, fit_lit]
theorem contra_fits {P : List Mt} (hc : CP P) (f : ByteArray → ByteArray) (h : ∀ m ∈ P, fitM m (f m.name) = true) : False := by
  obtain ⟨m, hm, h0 | ⟨q, hq, h1, h2, h3⟩ | ⟨h1, y, hy, h2, h3, h4⟩⟩ := hc
  · have := h m hm
    rw [fit_three h0.1, Rx.empty_no h0.2] at this
    cases this
  · have e := h q hq
    rw [fit_one h2, h1] at e
    have e2 := of_decide_eq_true e
    have := h m hm
    rw [e2, h3] at this
    cases this
  · have e1 := h m hm
    have e2 := h y hy
    rw [fit_three h1] at e1
    rw [fit_three h3, h2] at e2
    exact apart_no h4 e1 e2
theorem need_fits {P : List Mt} (hc : ¬ CP P) (f : ByteArray → ByteArray) (h : ∀ m ∈ P, NQ P m → fitM m (f m.name) = true) : ∀ m ∈ P, fitM m (f m.name) = true := by
  intro m hm
  by_cases hE : HasE P m.name
  · obtain ⟨q, hq, h1, h2⟩ := hE
    have e := h q hq ⟨fun _ => h2, fun h3 => absurd ⟨q, hq, rfl, h2⟩ h3⟩
    rw [fit_one h2, h1] at e
    have e2 := of_decide_eq_true e
    rw [e2]
    rcases hf : fitM m q.value with _ | _
    · exact absurd ⟨m, hm, .inr (.inl ⟨q, hq, h1, h2, hf⟩)⟩ hc
    · rfl
  · by_cases h4 : m.kind = 4 ∧ Rx.emptyR (bs m.value) = true
    · rw [fit_four h4.1, Rx.empty_no h4.2]
      rfl
    · by_cases hx : ∃ y ∈ P, y.name = m.name ∧ y.kind = 3 ∧ exclM y m = true
      · obtain ⟨y, hy, h1, h2, h3⟩ := hx
        have e := h y hy ⟨fun h5 => absurd (by rw [← h1]; exact h5) hE, fun _ => ⟨by omega, by
          rintro ⟨z, _, _, _, hz⟩
          unfold exclM at hz
          rw [if_neg (by omega), if_neg (by omega)] at hz
          cases hz⟩⟩
        rw [fit_three h2, h1] at e
        unfold exclM at h3
        split at h3
        · rename_i hk
          rw [fit_two hk]
          rcases hd : decide (f m.name = m.value) with _ | _
          · rfl
          · rw [of_decide_eq_true hd] at e
            rw [e] at h3
            cases h3
        · split at h3
          · rename_i hk
            rw [fit_four hk]
            rcases hd : Rx.matchR (bs m.value) (bs (f m.name)) with _ | _
            · rfl
            · exact (apart_no h3 e hd).elim
          · cases h3
      · exact h m hm ⟨fun h5 => absurd h5 hE, fun _ => ⟨h4, hx⟩⟩
/-- The simplified list matches the same labels; a contradictory one matches none. -/
theorem sim_fits {l : List Mt} (h : chkMs l = 0) (ls : List Lab) : if (simM l).2 = true then fitsM (simM l).1 ls = fitsM l ls else fitsM l ls = false := by
  by_cases hc : CP (l.map litM)
  · rw [sim_no h hc, if_neg (by simp)]
    rcases hf : fitsM l ls with _ | _
    · rfl
    · rw [← fits_lit, fits_iff] at hf
      exact (contra_fits hc (getL ls) hf).elim
  · obtain ⟨h1, _, h3⟩ := sim_yes h hc
    rw [if_pos h1, ← fits_lit l, Bool.eq_iff_iff, fits_iff, fits_iff]
    constructor
    · exact fun h4 => need_fits hc (getL ls) fun m hm hn => h4 m ((h3 m).2 ⟨hm, hn⟩)
    · exact fun h4 m hm => h4 m ((h3 m).1 hm).1
end Go.Proofs.YthckgmbadmilfaaGreat

namespace Go.Proofs.YthckgmbadmilfaaGreat
open Go.RowKit

section
variable {n : Nat} {P : Program} {ops : Array Oper} {Q : Exit → Act → World → Prop}
theorem still_wide {o : Oper} {a : Act} {w : World} {K : Act → Prop} {K' : Act → World → Prop} (hk : ∀ a, K a → K' a w) (h : o.still P a w K) : o.wpIn Fence.wide n P a w K' Q := by
  refine ⟨fun _ _ => trivial, ?_⟩
  show o.uponIn Fence.wide n P a K' Q ((execOp a.eval o).run P w)
  unfold Oper.still at h
  generalize (execOp a.eval o).run P w = r at *
  cases r with
  | ok x w' =>
    cases x with
    | value v => obtain ⟨rfl, h⟩ := h; exact hk _ h
    | skip => obtain ⟨rfl, h⟩ := h; exact hk _ h
    | enter f args =>
      obtain ⟨rfl, v, hc, hn⟩ := h
      refine ⟨fun h2 => (by cases h2), callsIn_wide.2 (Calls.mono hc ?_)⟩
      rintro e w'' ⟨rfl, rfl⟩
      exact hk _ hn
    | _ => exact h.elim
  | halt x w' => exact h.elim
theorem opIn_of_stOp {i : Nat} {a : Act} {w : World} {K : Act → Prop} {K' : Act → World → Prop} (hk : ∀ a, K a → K' a w) (h : stOp P ops w i K a) : wpOpIn Fence.wide n P ops Q i K' a w := by
  unfold stOp at h
  unfold wpOpIn
  rcases ho : ops[i]? with _ | o
  · rw [ho] at h
    exact hk _ h
  · rw [ho] at h
    simp only at h ⊢
    by_cases hw : Region.wanted o (yielded ops a.tmps) = true
    · rw [if_pos hw] at h ⊢
      exact still_wide hk h
    · rw [if_neg hw] at h ⊢
      exact ⟨fun _ _ => trivial, hk _ h⟩
theorem anyIn_of_head {md : Region.Mode} {w : World} {m g : Nat} {L : Array Bool → Act → Prop} (hL : ∀ listed a, L listed a → wpAnyIn Fence.wide n P md ops Q g listed a w) :
    ∀ (f : Nat) (listed : Array Bool) (a : Act), wpAnyL P md ops w m L f listed a → wpAnyIn Fence.wide n P md ops Q (f + g) listed a w
  | 0, listed, a, h => by rw [Nat.zero_add]; exact hL _ _ h
  | f + 1, listed, a, h => by
    rw [show f + 1 + g = (f + g) + 1 by omega]
    exact ⟨fun h0 => absurd h0 h.1, fun i hi => opIn_of_stOp (fun a' h' => anyIn_of_head hL f _ a' h') (h.2 i hi).2⟩
theorem opIn_mono {i : Nat} {a : Act} {w : World} {K K' : Act → World → Prop} (hk : ∀ a w, K a w → K' a w) (h : wpOpIn Fence.wide n P ops Q i K a w) : wpOpIn Fence.wide n P ops Q i K' a w := by
  unfold wpOpIn at h ⊢
  rcases ho : ops[i]? with _ | o
  · rw [ho] at h
    exact hk _ _ h
  · rw [ho] at h
    simp only at h ⊢
    by_cases hw : Region.wanted o (yielded ops a.tmps) = true
    · rw [if_pos hw] at h ⊢
      exact Oper.wpIn_mono hk h
    · rw [if_neg hw] at h ⊢
      exact ⟨h.1, hk _ _ h.2⟩
theorem anyIn_of_seq {md : Region.Mode} : ∀ (l : List Oper) (k : Nat) (listed : Array Bool) (a : Act) (w : World), (∀ j, l[j]? = ops[k + j]?) →
    Region.seqB md ops l.length k listed = true → wpListIn Fence.wide n P ops Q l a w → wpAnyIn Fence.wide n P md ops Q l.length listed a w
  | [], _, _, _, _, _, hB, h => ⟨by simpa [Region.seqB] using hB, h⟩
  | o :: l, k, listed, a, w, hl, hB, h => by
    have h0 : ops[k]? = some o := by simpa using (hl 0).symm
    simp only [List.length_cons, Region.seqB, Bool.and_eq_true, decide_eq_true_eq] at hB
    refine ⟨fun h1 => (by rw [hB.1] at h1; cases h1), fun i hi => ?_⟩
    rw [hB.1] at hi
    have hik : i = k := by simpa using hi
    subst hik
    have hw : wpOpIn Fence.wide n P ops Q i (wpListIn Fence.wide n P ops Q l) a w := by unfold wpOpIn; simp only [h0]; exact h
    exact opIn_mono (fun a' w' h' => anyIn_of_seq l (i + 1) _ a' w' (fun j => by have := hl (j + 1); simpa [Nat.add_assoc, Nat.add_comm 1 j] using this) hB.2 h') hw
end
theorem region_wide_still_tail {id nF : Nat} {P : Program} {Q : Exit → Act → World → Prop} {a : Act} {w : World} {l : List Oper} (n : Nat) (hm : P.follows .mixedOrders = true) (hB : Region.lexTailB .any l.toArray n = true)
    (h : wpStill P l.toArray { w with drawn := w.drawn + 1 } (fun a' => wpListIn Fence.wide nF P l.toArray Q (l.drop n) a' { w with drawn := w.drawn + 1 }) (l.take n) a) : (Code.region id l.toArray true).wpIn Fence.wide nF P Q a w := by
  simp only [Region.lexTailB, Bool.and_eq_true, decide_eq_true_eq] at hB
  obtain ⟨⟨⟨⟨hsel, hn⟩, hs⟩, hc⟩, hlex⟩ := hB
  have hn' : n < l.length := by simpa using hn
  have htl : (l.take n).length = n := by simp; omega
  have hdl : (l.drop n).length = l.toArray.size - n := by simp
  refine wpIn_region_any hm ?_
  have inv : HeadInv .any l.toArray n (Array.replicate l.toArray.size false) := ⟨by simp, fun j oj _ hj => (by rw [getD_replicate_false] at hj; cases hj), fun t _ ht => getD_in (by simpa using ht) (getD_replicate_false _ _)⟩
  have h1 := wpAnyL_lex (md := .any) (g := l.toArray.size - n) hsel hs hc hn (l.take n) 0 _ a (fun j hj => by
    have hj' : j < n := by rw [htl] at hj; exact hj
    simp [hj']) (by simpa using htl) inv (by rw [htl]; exact hlex) h
  have h2 := anyIn_of_head (Q := Q) (n := nF) (g := l.toArray.size - n) (fun listed a' hL => by
    have h3 := anyIn_of_seq (md := .any) (Q := Q) (n := nF) (l.drop n) n listed a' { w with drawn := w.drawn + 1 } (fun j => by simp [List.getElem?_drop]) (by rw [hdl]; exact hL.1) hL.2
    rwa [hdl] at h3) _ _ _ h1
  rwa [htl, show n + (l.toArray.size - n) = l.toArray.size by omega] at h2
end Go.Proofs.YthckgmbadmilfaaGreat

namespace Go.Proofs
open Go.Shelf
def Tryz.lays122_ren : Go.Shelf.Ren := ⟨fun | 122 => 83 | 215 => 123 | n => n, fun | 3 => 3 | 4 => 4 | n => n, fun | n => n⟩
theorem Tryz.lays122 : Go.Proofs.Lays.n122 Tryz.prog Tryz.lays122_ren := {
  mixed := by kernel_rfl
  f122 := Tryz.func83.trans (congrArg some (by kernel_rfl))
  f215 := Tryz.func123.trans (congrArg some (by kernel_rfl))
  t3 := Tryz.underlying3
  a3 := Tryz.isAgg3
  z3 := Tryz.sizeOf3
  v3 := Tryz.zeroValue3
  t4 := Tryz.underlying4
  a4 := Tryz.isAgg4
  z4 := Tryz.sizeOf4
  v4 := Tryz.zeroValue4 }
open Go.RowKit in
/-- cmp.Compare at int: "Compare returns -1 if x is less than y, 0 if x equals y, +1 if x is greater than y.": IT RETURNS 'Lib.compareInt x y'; the world is as it was. (LAID: no walk: one application.) -/
theorem Tryz.cmp_Compare_int (x y : Int) (w : World) :
    Calls Tryz.prog 83 #[.int .i64 x, .int .i64 y] w fun e w' => e = .returned (.int .i64 (Lib.compareInt x y)) ∧ w' = w := Any.cmp_Compare_int Tryz.lays122 x y w
def Tryz.lays110_ren : Go.Shelf.Ren := ⟨fun | 110 => 148 | 109 => 162 | n => n, fun | 31 => 60 | 9 => 9 | 4 => 4 | 3 => 3 | 0 => 0 | n => n, fun | n => n⟩
theorem Tryz.lays110 : Go.Proofs.Lays.n110 Tryz.prog Tryz.lays110_ren := {
  mixed := by kernel_rfl
  f109 := Tryz.func162.trans (congrArg some (by kernel_rfl))
  f110 := Tryz.func148.trans (congrArg some (by kernel_rfl))
  t0 := Tryz.underlying0
  a0 := Tryz.isAgg0
  z0 := Tryz.sizeOf0
  v0 := Tryz.zeroValue0
  t3 := Tryz.underlying3
  a3 := Tryz.isAgg3
  z3 := Tryz.sizeOf3
  v3 := Tryz.zeroValue3
  t4 := Tryz.underlying4
  a4 := Tryz.isAgg4
  z4 := Tryz.sizeOf4
  v4 := Tryz.zeroValue4
  t9 := Tryz.underlying9
  a9 := Tryz.isAgg9
  z9 := Tryz.sizeOf9
  v9 := Tryz.zeroValue9
  t31 := Tryz.underlying60
  a31 := Tryz.isAgg60
  z31 := Tryz.sizeOf60
  v31 := Tryz.zeroValue60 }
open Go.Lib in
/-- slices.Contains at []string: "Contains reports whether v is present in s.": IT RETURNS 'Lib.containsS (the elements) v', which is true just where v is among them ('Lib.containsS_iff'); the world is as it was. ITS CALLEE slices.Index IS MET BY ITS OWN CONTRACT OFF THE SHELF (lay that first): no loop is walked here. (LAID: no walk: one application.) -/
theorem Tryz.slices_Contains_string (b off n c : Nat) (zs : List ByteArray) (x : ByteArray) (w : World) (hz : n ≤ zs.length) (hbig : n ≤ 9223372036854775807) (hc : ∀ j, j < zs.length → w.cell? ⟨b, off + j, none⟩ = some (.string (zs.getD j ByteArray.empty))) :
    Calls Tryz.prog 148 #[.slice (some ⟨b, off, none⟩) n c, .string x] w fun e w' => e = .returned (.bool (Lib.containsS (zs.take n) x)) ∧ w' = w := Any.slices_Contains_string Tryz.lays110 b off n c zs x w hz hbig hc
open Go.Lib in
/-- The same at a slice of length 0, a nil one too. (LAID: no walk: one application.) -/
theorem Tryz.slices_Contains_string_empty (a : Option Addr) (c : Nat) (x : ByteArray) (w : World) :
    Calls Tryz.prog 148 #[.slice a 0 c, .string x] w fun e w' => e = .returned (.bool false) ∧ w' = w := Any.slices_Contains_string_empty Tryz.lays110 a c x w
end Go.Proofs

namespace Go.Proofs.YthckgmbadmilfaaGreat
open Go.RowKit Go.Shelf
attribute [local go_sem] Oper.semAt_some

def mkEnc (ls : List Lab) (name : ByteArray) (k : Fin ls.length) : Array Value := #[.agg #[.string (ls[k]).name, .string (ls[k]).value], .bool (decide ((ls[k]).name = name))]
theorem finTake_succ7 {n k : Nat} (h : k < n) : (List.finRange n).take (k + 1) = (List.finRange n).take k ++ [⟨k, h⟩] := by
  rw [List.take_succ_eq_append_getElem (by simpa using h)]
  simp
theorem finTake_len7 {n k : Nat} (h : k ≤ n) : ((List.finRange n).take k).length = k := by simp; omega
theorem At.under {W W1 : World} {b n : Nat} {c : Array Value} {t : TypeId} (h : At W b c t) (hb : Below n W W1) (hlt : b < n) : At W1 b c t := ⟨by rw [hb.block b hlt]; exact h.out⟩
theorem contains_one (name x : ByteArray) : Lib.containsS ([name].take 1) x = decide (x = name) := by
  rw [Bool.eq_iff_iff, decide_eq_true_eq]
  rw [Lib.containsS_iff]
  simp
theorem contains_any (Bd : Nat) (name x : ByteArray) (w : World) (h : At w Bd #[.string name] 9) : Calls Tryz.prog 148 #[.slice (some ⟨Bd, 0, none⟩) 1 1, .string x] w fun e w' => e = .returned (.bool (decide (x = name))) ∧ w' = w := by
  rw [← contains_one]
  refine Tryz.slices_Contains_string Bd 0 1 1 [name] x w (Nat.le_refl _) (by decide) fun j hj => ?_
  have hj0 : j = 0 := by simp at hj; omega
  subst hj0
  exact h.cell 0

set_option maxRecDepth 100000 in
set_option maxHeartbeats 2000000 in
theorem marked_in (n : Nat) (hn : 1 ≤ n) (l Bl Bn Bd n₀ : Nat) (A : Option Addr) (c : Nat) (ls : List Lab) (name : ByteArray) (J Jx : List (Fin ls.length) → World → Prop) (W : World)
    (hJ : AbidesFrom W.heap.size J)
    (hY : ∀ pre x W1, J pre W1 → pre.length < ls.length → YieldAt Fence.wide (n - 1) Tryz.prog l (mkEnc ls name x) W1 fun e W' =>
      (e = .returned (.bool true) ∧ J (pre ++ [x]) W' ∧ Below n₀ W1 W') ∨ (e = .returned (.bool false) ∧ Jx (pre ++ [x]) W'))
    (h0 : J [] W) (hBl : At W Bl #[.slice A ls.length c] 31) (hBn : At W Bn #[.slice (some ⟨Bd, 0, none⟩) 1 1] 60) (hBd : At W Bd #[.string name] 9)
    (hn1 : Bn < n₀) (hn2 : Bd < n₀) (hnb : n₀ ≤ W.heap.size) (hls : LabsIn n₀ W A ls) (hl : ls.length ≤ 9223372036854775807) :
    CallsIn Fence.wide n Tryz.prog 147 #[.func (.yield l) #[] #[], .pointer (some ⟨Bl, 0, none⟩), .pointer (some ⟨Bn, 0, none⟩)] W fun e W' => (∃ v, e = .returned v) ∧
      ((∃ ys, ys = List.finRange ls.length ∧ J ys W') ∨ (∃ pre, (∃ k, k ≤ ls.length ∧ pre = (List.finRange ls.length).take k) ∧ Jx pre W')) := by
  have HBN := Lib.hid hBn
  have HBD := Lib.hid hBd
  have HLS := Lib.hid hls
  have HY := Lib.hid hY
  have HJ := Lib.hid hJ
  have HNB := Lib.hid hnb
  have c0 : W.cell? ⟨Bl, 0, none⟩ = some (.slice A ls.length c) := hBl.cell 0
  clear hBl hBn hBd hls hY hJ hnb
  refine callsIn_of_wp Tryz.func147 rfl trivial ?_ rfl
  simp only [Tryz.ntmps147, List.size_toArray, List.length_cons, List.length_nil, Nat.reduceAdd, Nat.reduceSub, Array.replicate_succ, Array.replicate_zero, List.push_toArray, List.append_toArray, List.nil_append, List.cons_append]
  gi_wp2
  gi_loopw [8] (fun i wr => ∃ k : Nat, k ≤ ls.length ∧ i = .int .i64 k ∧ J ((List.finRange ls.length).take k) wr ∧ Hid (Below n₀ W wr) ∧ Hid (W.heap.size ≤ wr.heap.size))
    (fun i _ => ls.length - (intOf i).toNat)
  case atStart => exact ⟨0, Nat.zero_le _, rfl, h0, Lib.hid (Below.refl _ _), Lib.hid (Nat.le_refl _)⟩
  case round =>
    obtain ⟨k, hk, rfl, hJs, HK, HS⟩ := hrel
    by_cases hlt : k < ls.length
    · obtain ⟨b, o, rfl, hb, d0, d1⟩ := (HLS.out.below HK.out).at_ k hlt
      have hYk := fun W1 h => HY.out ((List.finRange ls.length).take k) ⟨k, hlt⟩ W1 h (by rw [finTake_len7 hk]; exact hlt)
      have HYK := Lib.hid hYk
      clear hYk
      have hEnc : mkEnc ls name ⟨k, hlt⟩ = #[.agg #[.string (ls[k]).name, .string (ls[k]).value], .bool (decide ((ls[k]).name = name))] := rfl
      rw [hEnc] at HYK
      clear hEnc
      obtain ⟨x, hx⟩ : ∃ x, ls[k] = x := ⟨_, rfl⟩
      rw [hx] at HYK d0 d1
      clear hx
      gi_wp2
      have hbn := HBN.out.lt
      have hbd := HBD.out.lt
      have hs0 := HS.out
      have hnb0 := HNB.out
      have hg1 : wr.grownBy (wr.alloc (.cells #[.string x.name, .string x.value] 51)).drew none := ⟨rfl, rfl, rfl, by simp [World.drew], fun q hq _ => Below.heap_alloc wr _ q hq⟩
      have hJ1 : J ((List.finRange ls.length).take k) (wr.alloc (.cells #[.string x.name, .string x.value] 51)).drew := HJ.out _ wr _ none hJs hg1 (fun r e => by cases e)
      have hbw : Below wr.heap.size wr (wr.alloc (.cells #[.string x.name, .string x.value] 51)).drew := ⟨hg1.os, hg1.tape, hg1.output, hg1.size, fun q hq => hg1.block q hq (by simp)⟩
      have HXX : Hid (At (wr.alloc (.cells #[.string x.name, .string x.value] 51)).drew wr.heap.size #[.string x.name, .string x.value] 51) := Lib.hid (At.new _ _ _).drew
      have HBN1 : Hid (At (wr.alloc (.cells #[.string x.name, .string x.value] 51)).drew Bn #[.slice (some ⟨Bd, 0, none⟩) 1 1] 60) := Lib.hid ((HBN.out.under HK.out hn1).below hbw)
      have HBD1 : Hid (At (wr.alloc (.cells #[.string x.name, .string x.value] 51)).drew Bd #[.string name] 9) := Lib.hid ((HBD.out.under HK.out hn2).below hbw)
      have HBW := Lib.hid hbw
      obtain ⟨fn, tmps, assign, body, hy, hR⟩ := HYK.out _ hJ1
      have HR := Lib.hid hR
      clear HYK hJ1 hg1 hbw hR hJs
      refine region_wide_still_tail 6 (by kernel_rfl) (by kernel_rfl) ?_
      change wpStill _ _ (wr.alloc (.cells #[.string x.name, .string x.value] 51)).drew (fun a' => wpListIn _ _ _ _ _ _ a' (wr.alloc (.cells #[.string x.name, .string x.value] 51)).drew) _ _
      generalize (wr.alloc (.cells #[.string x.name, .string x.value] 51)).drew = w1 at *
      have q0 := HXX.out.cell 0
      have q1 := HXX.out.cell 1
      have qn := HBN1.out.cell 0
      simp only [List.take_succ_cons, List.take_zero, List.drop_succ_cons, List.drop_zero]
      still_step
      still_step
      still_step
      still_step
      still_step
      still_call (contains_any Bd name x.name w1 HBD1.out)
      refine wpStill_nil ?_
      clear q0 q1 qn
      gi_wp2
      refine HR.out.mono ?_
      rintro e W3 (⟨rfl, hJ3, hk3⟩ | ⟨rfl, hJx3⟩)
      · have HK3 := Lib.hid ((HK.out.trans (HBW.out.mono (by omega))).trans hk3)
        have HS3 : Hid (W.heap.size ≤ W3.heap.size) := Lib.hid (Nat.le_trans HS.out (Nat.le_trans HBW.out.size hk3.size))
        have HTK : Hid ((List.finRange ls.length).take k ++ [⟨k, hlt⟩] = (List.finRange ls.length).take (k + 1)) := Lib.hid (finTake_succ7 hlt).symm
        clear hy HR hk3
        gi_wp2
        go_roundw
        case rel => exact ⟨k + 1, hlt, by go_num, by rw [← HTK.out]; exact hJ3, HK3, HS3⟩
        case measure => simp [intOf]; omega
      · clear hy HR
        gi_wp2
        refine bodyPost_ret (results_none rfl _ _ _) rfl ?_
        exact ⟨⟨_, rfl⟩, .inr ⟨_, ⟨k + 1, by omega, (finTake_succ7 hlt).symm⟩, hJx3⟩⟩
    · have hke : k = ls.length := by omega
      subst hke
      gi_wp2
      go_end0
      refine ⟨⟨_, rfl⟩, .inl ⟨_, rfl, ?_⟩⟩
      rw [List.take_of_length_le (by simp)] at hJs
      exact hJs
end Go.Proofs.YthckgmbadmilfaaGreat
