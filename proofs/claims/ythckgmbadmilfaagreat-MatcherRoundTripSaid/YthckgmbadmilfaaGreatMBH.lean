/- Matchers in plain Lean: the laws of negation, of simplifying again, of the order, of implication, of lists without regular expressions. Walks: matcher.Implies. -/
import Derived.Test.YthckgmbadmilfaaGreatMAW
import Derived.Test.YthckgmbadmilfaaGreatMBG
namespace Go.Proofs.YthckgmbadmilfaaGreat

/-! ### Negation -/
theorem neg_of {m : Mt} (h : chkM m = 0) : negM m = { m with kind := negK m.kind } ∧ 1 ≤ m.kind ∧ m.kind ≤ 4 := by
  have hk : ¬ (m.kind < 1 ∨ 4 < m.kind) := by
    intro h2
    unfold chkM at h
    rw [if_pos h2] at h
    omega
  unfold negM
  rw [if_neg hk]
  exact ⟨rfl, by omega, by omega⟩
theorem negK_cases {k : Int} (h1 : 1 ≤ k) (h2 : k ≤ 4) : (k = 1 ∧ negK k = 2) ∨ (k = 2 ∧ negK k = 1) ∨ (k = 3 ∧ negK k = 4) ∨ (k = 4 ∧ negK k = 3) := by
  have : k = 1 ∨ k = 2 ∨ k = 3 ∨ k = 4 := by omega
  rcases this with rfl | rfl | rfl | rfl <;> simp [negK]
theorem neg_chk {m : Mt} (h : chkM m = 0) : chkM (negM m) = 0 := by
  obtain ⟨e, h1, h2⟩ := neg_of h
  rw [e]
  unfold chkM at h ⊢
  rw [if_neg (by omega)] at h
  show (if negK m.kind < 1 ∨ 4 < negK m.kind then (8 : Int) else if nameB m.name then (if 2 < negK m.kind then ((Rx.checkR (bs m.value) : Nat) : Int) else if 200 < m.value.size then 4 else 0) else 5) = 0
  rcases negK_cases h1 h2 with ⟨hk, hn⟩ | ⟨hk, hn⟩ | ⟨hk, hn⟩ | ⟨hk, hn⟩ <;> rw [hn] <;> rw [hk] at h <;> simpa using h
theorem neg_fit {m : Mt} (h : chkM m = 0) (v : ByteArray) : fitM (negM m) v = !fitM m v := by
  obtain ⟨e, h1, h2⟩ := neg_of h
  rw [e]
  rcases negK_cases h1 h2 with ⟨hk, hn⟩ | ⟨hk, hn⟩ | ⟨hk, hn⟩ | ⟨hk, hn⟩
  · rw [fit_two (by exact hn), fit_one hk]
  · rw [fit_one (by exact hn), fit_two hk, Bool.not_not]
  · rw [fit_four (by exact hn), fit_three hk]
  · rw [fit_three (by exact hn), fit_four hk, Bool.not_not]
theorem neg_neg {m : Mt} (h : chkM m = 0) : negM (negM m) = m := by
  obtain ⟨e, h1, h2⟩ := neg_of h
  obtain ⟨e2, _, _⟩ := neg_of (neg_chk h)
  rw [e2, e]
  refine Mt.ext' ?_ rfl rfl
  show negK (negK m.kind) = m.kind
  rcases negK_cases h1 h2 with ⟨hk, hn⟩ | ⟨hk, hn⟩ | ⟨hk, hn⟩ | ⟨hk, hn⟩ <;> rw [hn, hk] <;> simp [negK]

/-! ### Simplifying again -/
theorem sim_mem {l : List Mt} (h : chkMs l = 0) (hc : ¬ CP (l.map litM)) {x : Mt} (hx : x ∈ (simM l).1) : x ∈ l.map litM := ((sim_yes h hc).2.2 x).1 hx |>.1
theorem lit_map {l : List Mt} {x : Mt} (hx : x ∈ l.map litM) : litM x = x := by
  obtain ⟨y, _, rfl⟩ := List.mem_map.1 hx
  exact lit_lit y
theorem sim_len (l : List Mt) : (simM l).1.length ≤ l.length := by
  unfold simM
  split
  · split
    · simp
    · refine Nat.le_trans (set_len _) (Nat.le_trans (List.length_filter_le _ _) ?_)
      simp
  · simp
theorem cp_mono {P Q : List Mt} (h : ∀ x ∈ P, x ∈ Q) (hc : CP P) : CP Q := by
  obtain ⟨m, hm, h0 | ⟨q, hq, h1⟩ | ⟨h1, y, hy, h2⟩⟩ := hc
  · exact ⟨m, h m hm, .inl h0⟩
  · exact ⟨m, h m hm, .inr (.inl ⟨q, h q hq, h1⟩)⟩
  · exact ⟨m, h m hm, .inr (.inr ⟨h1, y, h y hy, h2⟩)⟩
theorem sim_chk {l : List Mt} (h : chkMs l = 0) : chkMs (simM l).1 = 0 := by
  by_cases hc : CP (l.map litM)
  · rw [sim_no h hc]; rfl
  · have hh := chkMs_iff.1 h
    rw [chkMs_iff]
    refine ⟨Nat.le_trans (sim_len l) hh.1, fun m hm => ?_⟩
    obtain ⟨y, hy, rfl⟩ := List.mem_map.1 (sim_mem h hc hm)
    exact chk_lit (hh.2 y hy)
theorem sim_again {l : List Mt} (h : chkMs l = 0) (h2 : (simM l).2 = true) : simM (simM l).1 = ((simM l).1, true) := by
  by_cases hc : CP (l.map litM)
  · rw [sim_no h hc] at h2; cases h2
  · obtain ⟨_, ho, hm⟩ := sim_yes h hc
    have h3 := sim_chk h
    have e : (simM l).1.map litM = (simM l).1 := by
      have := List.map_congr_left (l := (simM l).1) (f := litM) (g := id) fun x hx => lit_map (sim_mem h hc hx)
      rw [this, List.map_id]
    have hc2 : ¬ CP ((simM l).1.map litM) := by
      rw [e]
      exact fun h4 => hc (cp_mono (fun x hx => sim_mem h hc hx) h4)
    obtain ⟨h5, h6, h7⟩ := sim_yes h3 hc2
    rw [e] at h7
    refine Prod.ext (ord_uniq h6 ho fun x => ?_) h5
    rw [h7]
    constructor
    · exact fun h8 => h8.1
    · intro h8
      refine ⟨h8, ?_⟩
      obtain ⟨a, b⟩ := (hm x).1 h8
      by_cases hE : HasE (l.map litM) x.name
      · exact ⟨fun _ => b.1 hE, fun h9 => absurd ⟨x, h8, rfl, b.1 hE⟩ h9⟩
      · refine ⟨fun ⟨q, h9, h10⟩ => absurd ⟨q, sim_mem h hc h9, h10⟩ hE, fun _ => ⟨(b.2 hE).1, ?_⟩⟩
        rintro ⟨y, hy, h9⟩
        exact (b.2 hE).2 ⟨y, sim_mem h hc hy, h9⟩

/-! ### The order does not matter -/
theorem hasE_congr {P Q : List Mt} (h : ∀ x, x ∈ P ↔ x ∈ Q) (n : ByteArray) : HasE P n ↔ HasE Q n := by
  unfold HasE
  simp only [h]
theorem nq_congr {P Q : List Mt} (h : ∀ x, x ∈ P ↔ x ∈ Q) (m : Mt) : NQ P m ↔ NQ Q m := by
  unfold NQ
  rw [hasE_congr h]
  simp only [h]
theorem sim_congr {l r : List Mt} (h : ∀ x, x ∈ l ↔ x ∈ r) (hl : chkMs l = 0) (hr : chkMs r = 0) : simM l = simM r := by
  have hm : ∀ x, x ∈ l.map litM ↔ x ∈ r.map litM := fun x => by simp only [List.mem_map, h]
  by_cases hc : CP (l.map litM)
  · rw [sim_no hl hc, sim_no hr (cp_mono (fun x hx => (hm x).1 hx) hc)]
  · have hc2 : ¬ CP (r.map litM) := fun h2 => hc (cp_mono (fun x hx => (hm x).2 hx) h2)
    obtain ⟨a1, a2, a3⟩ := sim_yes hl hc
    obtain ⟨b1, b2, b3⟩ := sim_yes hr hc2
    refine Prod.ext (ord_uniq a2 b2 fun x => ?_) (a1.trans b1.symm)
    rw [a3, b3, hm, nq_congr hm]
theorem fits_congr {l r : List Mt} (h : ∀ x, x ∈ l ↔ x ∈ r) (ls : List Lab) : fitsM l ls = fitsM r ls := by
  rw [Bool.eq_iff_iff, fits_iff, fits_iff]
  simp only [h]

/-! ### Implication -/
/-- All matchers are satisfied by values of names. -/
def fitsF (f : ByteArray → ByteArray) (l : List Mt) : Prop := ∀ m ∈ l, fitM m (f m.name) = true
theorem fitsF_lit {f : ByteArray → ByteArray} {l : List Mt} : fitsF f (l.map litM) ↔ fitsF f l := by
  unfold fitsF
  simp only [List.mem_map, forall_exists_index, and_imp, forall_apply_eq_imp_iff₂, lit_name, fit_lit]
theorem sim_fitsF {l : List Mt} (h : chkMs l = 0) (f : ByteArray → ByteArray) (hf : fitsF f l) : (simM l).2 = true ∧ fitsF f (simM l).1 := by
  have h1 := fitsF_lit.2 hf
  have hc : ¬ CP (l.map litM) := fun hc => contra_fits hc f h1
  exact ⟨(sim_yes h hc).1, fun m hm => h1 m (sim_mem h hc hm)⟩
theorem fitsF_sim {l : List Mt} (h : chkMs l = 0) (f : ByteArray → ByteArray) (h2 : (simM l).2 = true) (hf : fitsF f (simM l).1) : fitsF f l := by
  by_cases hc : CP (l.map litM)
  · rw [sim_no h hc] at h2; cases h2
  · exact fitsF_lit.1 (need_fits hc f fun m hm hn => hf m (((sim_yes h hc).2.2 m).2 ⟨hm, hn⟩))
theorem excl_fit {y m : Mt} {v : ByteArray} (hk : y.kind = 3) (hx : exclM y m = true) (hf : fitM y v = true) : fitM m v = true := by
  rw [fit_three hk] at hf
  unfold exclM at hx
  split at hx
  · rename_i h1
    rw [fit_two h1]
    rcases hd : decide (v = m.value) with _ | _
    · rfl
    · rw [of_decide_eq_true hd] at hf
      rw [hf] at hx
      cases hx
  · split at hx
    · rename_i h1
      rw [fit_four h1]
      rcases hd : Rx.matchR (bs m.value) (bs v) with _ | _
      · rfl
      · exact (apart_no hx hf hd).elim
    · cases hx
theorem impl_fit {l : List Mt} {m : Mt} (h : implM l m = true) (f : ByteArray → ByteArray) (hf : fitsF f l) : fitM m (f m.name) = true := by
  unfold implM at h
  simp only [Bool.or_eq_true] at h
  rcases h with ((h | h) | h) | h
  · rw [List.any_eq_true] at h
    obtain ⟨x, hx, he⟩ := h
    rw [← of_decide_eq_true he]
    exact hf x hx
  · obtain ⟨y, hy, h1, h2, h3⟩ := excld_iff.1 h
    have := hf y hy
    rw [h1] at this
    exact excl_fit h2 h3 this
  · split at h
    · rename_i q he
      obtain ⟨h1, h2, h3⟩ := eql_some he
      have := hf q h1
      rw [fit_one h3, h2] at this
      rw [of_decide_eq_true this]
      exact h
    · cases h
  · simp only [Bool.and_eq_true, decide_eq_true_eq, List.any_eq_true] at h
    obtain ⟨hk, y, hy, ⟨h1, h2⟩, h3⟩ := h
    have := hf y hy
    rw [fit_four h2, h1] at this
    rw [fit_two hk]
    rcases hd : decide (f m.name = m.value) with _ | _
    · rfl
    · rw [of_decide_eq_true hd, h3] at this
      cases this
theorem imp_fitsF {a b : List Mt} (h : impM a b = true) (f : ByteArray → ByteArray) (hf : fitsF f a) : fitsF f b := by
  unfold impM at h
  simp only [Bool.and_eq_true, Bool.or_eq_true, Bool.not_eq_true', decide_eq_true_eq] at h
  obtain ⟨⟨ha, hb⟩, h⟩ := h
  obtain ⟨h1, h2⟩ := sim_fitsF ha f hf
  rcases h with h | ⟨h3, h4⟩
  · rw [h1] at h; cases h
  · rw [List.all_eq_true] at h4
    exact fitsF_sim hb f h3 fun m hm => impl_fit (h4 m hm) f h2
theorem imp_mat {a b : List Mt} (h : impM a b = true) (ls : List Lab) (ha : matM a ls = true) : matM b ls = true := by
  have h0 := h
  unfold impM at h0
  simp only [Bool.and_eq_true, decide_eq_true_eq] at h0
  unfold matM at ha ⊢
  rw [Bool.and_eq_true] at ha ⊢
  exact ⟨decide_eq_true h0.1.2, fits_iff.2 (imp_fitsF h (getL ls) (fits_iff.1 ha.2))⟩
theorem imp_self {a : List Mt} (h : chkMs a = 0) : impM a a = true := by
  unfold impM
  rw [decide_eq_true h]
  rcases h2 : (simM a).2 with _ | _
  · rfl
  · simp only [Bool.true_and, Bool.not_true, Bool.false_or, List.all_eq_true]
    intro m hm
    unfold implM
    have : (simM a).1.any (fun x => decide (x = m)) = true := by
      rw [List.any_eq_true]
      exact ⟨m, hm, by simp⟩
    rw [this]
    rfl

/-! ### Without regular expressions -/
theorem lit_plain {l : List Mt} (h : ∀ m ∈ l, m.kind = 1 ∨ m.kind = 2) : l.map litM = l := by
  have := List.map_congr_left (l := l) (f := litM) (g := id) fun m hm => by
    unfold litM
    rw [if_neg (by rcases h m hm with h1 | h1 <;> omega)]
    rfl
  rw [this, List.map_id]
/-- Labels that satisfy a list that is not contradictory. -/
theorem plain_fits {P : List Mt} (h : ∀ m ∈ P, m.kind = 1 ∨ m.kind = 2) (hc : ¬ CP P) (f : ByteArray → ByteArray)
    (h1 : ∀ n, HasE P n → ∃ q ∈ P, q.name = n ∧ q.kind = 1 ∧ f n = q.value) (h2 : ∀ m ∈ P, ¬ HasE P m.name → ∀ x ∈ P, x.name = m.name → x.value ≠ f m.name) : fitsF f P := by
  intro m hm
  by_cases hE : HasE P m.name
  · obtain ⟨q, hq, e1, e2, e3⟩ := h1 _ hE
    rw [e3]
    rcases hf : fitM m q.value with _ | _
    · exact absurd ⟨m, hm, .inr (.inl ⟨q, hq, e1, e2, hf⟩)⟩ hc
    · rfl
  · rcases h m hm with hk | hk
    · exact absurd ⟨m, hm, rfl, hk⟩ hE
    · rw [fit_two hk]
      have := h2 m hm hE m hm rfl
      rw [decide_eq_false fun e => this e.symm]
      rfl
theorem exists_fits {P : List Mt} (h : ∀ m ∈ P, m.kind = 1 ∨ m.kind = 2) (hc : ¬ CP P) : ∃ f, fitsF f P := by
  have hb : ∃ N, ∀ x ∈ P, x.value.size < N := by
    clear hc h
    induction P with
    | nil => exact ⟨0, fun x hx => by simp at hx⟩
    | cons y r ih =>
      obtain ⟨N, hN⟩ := ih
      refine ⟨max N (y.value.size + 1), fun x hx => ?_⟩
      rcases List.mem_cons.1 hx with rfl | hx
      · omega
      · have := hN x hx
        omega
  obtain ⟨N, hN⟩ := hb
  classical
  refine ⟨fun n => if hE : HasE P n then (Classical.choose hE).value else str (List.replicate N 120), plain_fits h hc _ (fun n hE => ?_) (fun m _ hE x hx _ e => ?_)⟩
  · have hs := Classical.choose_spec hE
    exact ⟨_, hs.1, hs.2.1, hs.2.2, by simp only [dif_pos hE]⟩
  · simp only [dif_neg hE] at e
    have := hN x hx
    rw [e, str_size, List.length_replicate] at this
    omega
theorem impl_of_cp {a : List Mt} {m : Mt} (ha : chkMs a = 0) (hk : ∀ x ∈ a, x.kind = 1 ∨ x.kind = 2) (hmk : m.kind = 1 ∨ m.kind = 2) (hm0 : chkM m = 0) (hc : ¬ CP a) (h : CP (a ++ [negM m])) : implM (simM a).1 m = true := by
  have e := lit_plain hk
  have hc' : ¬ CP (a.map litM) := by rw [e]; exact hc
  obtain ⟨_, _, hs⟩ := sim_yes ha hc'
  rw [e] at hs
  have hnk : (negM m).kind = 1 ∨ (negM m).kind = 2 := by
    rw [(neg_of hm0).1]
    show negK m.kind = 1 ∨ negK m.kind = 2
    rcases hmk with h1 | h1 <;> rw [h1] <;> simp [negK]
  have hnn : (negM m).name = m.name := by rw [(neg_of hm0).1]
  have hnv : (negM m).value = m.value := by rw [(neg_of hm0).1]
  -- an equal value of the name that satisfies m
  have third : ∀ q ∈ a, q.name = m.name → q.kind = 1 → fitM m q.value = true → implM (simM a).1 m = true := by
    intro q hq h1 h2 h3
    have hqs : q ∈ (simM a).1 := (hs q).2 ⟨hq, fun _ => h2, fun h4 => absurd ⟨q, hq, rfl, h2⟩ h4⟩
    unfold implM
    rcases he : eqlM (simM a).1 m.name with _ | q0
    · exact absurd h2 (eql_none he q hqs h1)
    · obtain ⟨g1, g2, g3⟩ := eql_some he
      have g4 := ((hs q0).1 g1).1
      have : q0.value = q.value := by
        rcases hf : fitM q0 q.value with _ | _
        · exact absurd ⟨q0, g4, .inr (.inl ⟨q, hq, h1.trans g2.symm, h2, hf⟩)⟩ hc
        · rw [fit_one g3] at hf
          exact (of_decide_eq_true hf).symm
      simp only [this, h3, Bool.or_true, Bool.true_or]
  have hall : ∀ x ∈ a ++ [negM m], x.kind = 1 ∨ x.kind = 2 := fun x hx => by
    rcases List.mem_append.1 hx with hx | hx
    · exact hk x hx
    · rw [List.mem_singleton.1 hx]; exact hnk
  obtain ⟨x, hx, h0 | ⟨q, hq, h1, h2, h3⟩ | ⟨h1, _⟩⟩ := h
  · rcases hall x hx with h5 | h5 <;> omega
  · rcases List.mem_append.1 hq with hq | hq
    · rcases List.mem_append.1 hx with hx1 | hx1
      · exact absurd ⟨x, hx1, .inr (.inl ⟨q, hq, h1, h2, h3⟩)⟩ hc
      · rw [List.mem_singleton.1 hx1] at h1 h3
        rw [neg_fit hm0] at h3
        exact third q hq (h1.trans hnn) h2 (by simpa using h3)
    · rw [List.mem_singleton.1 hq] at h1 h2 h3
      rw [hnv] at h3
      have hm2 : m.kind = 2 := by
        rcases hmk with h5 | h5
        · rw [(neg_of hm0).1] at h2
          have h2 : negK m.kind = 1 := h2
          rw [h5] at h2
          simp [negK] at h2
        · exact h5
      rcases List.mem_append.1 hx with hx1 | hx1
      · rcases hk x hx1 with h5 | h5
        · rw [fit_one h5] at h3
          refine third x hx1 (by rw [← h1, hnn]) h5 ?_
          rw [fit_two hm2]
          have := of_decide_eq_false h3
          rw [decide_eq_false fun e => this e.symm]
          rfl
        · rw [fit_two h5] at h3
          have h6 : m.value = x.value := by simpa using h3
          have h7 : x = m := Mt.ext' (h5.trans hm2.symm) (by rw [← h1, hnn]) h6.symm
          subst h7
          by_cases hE : HasE a x.name
          · obtain ⟨q', g1, g2, g3⟩ := hE
            refine third q' g1 g2 g3 ?_
            rcases hf : fitM x q'.value with _ | _
            · exact absurd ⟨x, hx1, .inr (.inl ⟨q', g1, g2, g3, hf⟩)⟩ hc
            · rfl
          · have hxs : x ∈ (simM a).1 := by
              refine (hs x).2 ⟨hx1, fun h8 => absurd h8 hE, fun _ => ⟨by omega, ?_⟩⟩
              rintro ⟨y, hy, _, g2, _⟩
              rcases hk y hy with g3 | g3 <;> omega
            unfold implM
            have : (simM a).1.any (fun z => decide (z = x)) = true := by
              rw [List.any_eq_true]
              exact ⟨x, hxs, by simp⟩
            rw [this]
            rfl
      · rw [List.mem_singleton.1 hx1, fit_one h2, hnv] at h3
        simp at h3
  · rcases hall x hx with h5 | h5 <;> omega
/-- a implies b just where a together with the negation of any matcher of b is contradictory. -/
theorem imp_decides {a b : List Mt} (ha : chkMs a = 0) (hb : chkMs b = 0) (hal : a.length < 16) (ka : ∀ x ∈ a, x.kind = 1 ∨ x.kind = 2) (kb : ∀ x ∈ b, x.kind = 1 ∨ x.kind = 2) :
    impM a b = b.all fun m => !(simM (a ++ [negM m])).2 := by
  have hb2 := chkMs_iff.1 hb
  have ha2 := chkMs_iff.1 ha
  have hneg : ∀ m ∈ b, chkMs (a ++ [negM m]) = 0 ∧ (∀ x ∈ a ++ [negM m], x.kind = 1 ∨ x.kind = 2) := by
    intro m hm
    refine ⟨chkMs_iff.2 ⟨by simp; omega, fun x hx => ?_⟩, fun x hx => ?_⟩
    · rcases List.mem_append.1 hx with hx | hx
      · exact ha2.2 x hx
      · rw [List.mem_singleton.1 hx]; exact neg_chk (hb2.2 m hm)
    · rcases List.mem_append.1 hx with hx | hx
      · exact ka x hx
      · rw [List.mem_singleton.1 hx, (neg_of (hb2.2 m hm)).1]
        show negK m.kind = 1 ∨ negK m.kind = 2
        rcases kb m hm with h1 | h1 <;> rw [h1] <;> simp [negK]
  have hcp : ∀ m ∈ b, ((simM (a ++ [negM m])).2 = false ↔ CP (a ++ [negM m])) := by
    intro m hm
    obtain ⟨h1, h2⟩ := hneg m hm
    have e := lit_plain h2
    by_cases hc : CP (a ++ [negM m])
    · rw [sim_no h1 (by rw [e]; exact hc)]
      simp [hc]
    · rw [(sim_yes h1 (by rw [e]; exact hc)).1]
      simp [hc]
  have eA := lit_plain ka
  have eB := lit_plain kb
  rw [Bool.eq_iff_iff, List.all_eq_true]
  have hR : (∀ m ∈ b, (!(simM (a ++ [negM m])).2) = true) ↔ ∀ m ∈ b, CP (a ++ [negM m]) :=
    ⟨fun h m hm => (hcp m hm).1 (by simpa using h m hm), fun h m hm => by rw [(hcp m hm).2 (h m hm)]; rfl⟩
  rw [hR]
  constructor
  · intro h m hm
    refine Classical.byContradiction fun hc => ?_
    obtain ⟨f, hf⟩ := exists_fits (hneg m hm).2 hc
    have h1 := imp_fitsF h f (fun x hx => hf x (by simp [hx])) m hm
    have h2 := hf (negM m) (by simp)
    have hnn : (negM m).name = m.name := by rw [(neg_of (hb2.2 m hm)).1]
    rw [neg_fit (hb2.2 m hm), hnn, h1] at h2
    cases h2
  · intro h
    unfold impM
    rw [decide_eq_true ha, decide_eq_true hb]
    by_cases hca : CP a
    · rw [sim_no ha (by rw [eA]; exact hca)]
      rfl
    · have hsa := (sim_yes ha (by rw [eA]; exact hca)).1
      by_cases hcb : CP b
      · obtain ⟨f, hf⟩ := exists_fits ka hca
        refine (contra_fits hcb f fun m hm => ?_).elim
        rcases hv : fitM m (f m.name) with _ | _
        · refine (contra_fits (h m hm) f fun x hx => ?_).elim
          rcases List.mem_append.1 hx with hx | hx
          · exact hf x hx
          · have hnn : (negM m).name = m.name := by rw [(neg_of (hb2.2 m hm)).1]
            rw [List.mem_singleton.1 hx, neg_fit (hb2.2 m hm), hnn, hv]
            rfl
        · rfl
      · have hcb' : ¬ CP (b.map litM) := by rw [eB]; exact hcb
        have hsb := (sim_yes hb hcb').1
        rw [hsa, hsb]
        simp only [Bool.true_and, Bool.not_true, Bool.false_or, List.all_eq_true]
        intro m hm
        have hmb : m ∈ b := by
          have := sim_mem hb hcb' hm
          rw [eB] at this
          exact this
        exact impl_of_cp ha ka (kb m hmb) (hb2.2 m hmb) hca (h m hmb)
end Go.Proofs.YthckgmbadmilfaaGreat

namespace Go.Proofs.YthckgmbadmilfaaGreat
open Go.RowKit

set_option maxRecDepth 100000 in
set_option maxHeartbeats 4000000 in
theorem impliesF_any (A1 A2 : Option Addr) (c1 c2 : Nat) (a b : List Mt) (w : World) (ha : MtsIn w.heap.size w A1 a) (hb : MtsIn w.heap.size w A2 b) :
    Calls Tryz.prog 30 #[.slice A1 a.length c1, .slice A2 b.length c2] w fun e w' => e = .returned (.bool (impM a b)) ∧ Below w.heap.size w w' := by
  have HA := Lib.hid ha
  have HB := Lib.hid hb
  have HCA := Lib.hid (mcheck_any A1 c1 a w ha)
  clear ha hb
  obtain ⟨r1, hr1⟩ : ∃ r, chkMs a = r := ⟨_, rfl⟩
  rw [hr1] at HCA
  by_cases h1 : r1 = 0
  · have hca : chkMs a = 0 := by rw [hr1, h1]
    subst h1
    have HKA := Lib.hid hca
    clear hca hr1
    go_enter Tryz.func30, Tryz.ntmps30
    go_wp2_with fail
    refine HCA.out.mono ?_
    rintro e w1 ⟨rfl, hb1⟩
    have HB1 := Lib.hid hb1
    have HCB := Lib.hid (mcheck_any A2 c2 b w1 ((HB.out.below hb1).mono hb1.size))
    clear hb1 HCA
    obtain ⟨r2, hr2⟩ : ∃ r, chkMs b = r := ⟨_, rfl⟩
    rw [hr2] at HCB
    by_cases h2 : r2 = 0
    · have hcb : chkMs b = 0 := by rw [hr2, h2]
      subst h2
      have HKB := Lib.hid hcb
      clear hcb hr2
      go_wp2_with fail
      refine HCB.out.mono ?_
      rintro e w2 ⟨rfl, hb2⟩
      have HB2 := Lib.hid (HB1.out.trans (hb2.mono HB1.out.size))
      clear hb2 HCB
      have HSA := Lib.hid (simplify_any A1 c1 a w2 ((HA.out.below HB2.out).mono HB2.out.size))
      go_wp2_with fail
      refine HSA.out.mono ?_
      rintro e w3 ⟨⟨A3, n3, c3, rfl, rfl, hm3⟩, hb3⟩
      have HB3 := Lib.hid (HB2.out.trans (hb3.mono HB2.out.size))
      have HM3 := Lib.hid hm3
      clear hb3 hm3 HSA
      have HIM : Hid (impM a b = (!(simM a).2 || (simM b).2 && (simM b).1.all (implM (simM a).1))) := Lib.hid (by unfold impM; rw [HKA.out, HKB.out]; simp)
      have HCS1 : Hid ((simM a).1.length ≤ 16 ∧ ∀ m ∈ (simM a).1, chkM m = 0) := Lib.hid (chkMs_iff.1 (sim_chk HKA.out))
      have HCS2 : Hid ((simM b).1.length ≤ 16 ∧ ∀ m ∈ (simM b).1, chkM m = 0) := Lib.hid (chkMs_iff.1 (sim_chk HKB.out))
      generalize (simM a).1 = l at *
      rcases hp : (simM a).2 with _ | _
      · have HIM2 : Hid (impM a b = true) := Lib.hid (by rw [HIM.out, hp]; rfl)
        go_wp2_with fail
        go_ret
        exact ⟨ret_bool HIM2.out.symm, HB3.out⟩
      · have HIM2 : Hid (impM a b = ((simM b).2 && (simM b).1.all (implM l))) := Lib.hid (by rw [HIM.out, hp]; rfl)
        clear hp HIM
        have HSB := Lib.hid (simplify_any A2 c2 b w3 ((HB.out.below HB3.out).mono HB3.out.size))
        go_wp2_with fail
        refine HSB.out.mono ?_
        rintro e w4 ⟨⟨A4, n4, c4, rfl, rfl, hm4⟩, hb4⟩
        have HB4 := Lib.hid (HB3.out.trans (hb4.mono HB3.out.size))
        have HM4 := Lib.hid hm4
        have HM34 := Lib.hid ((HM3.out.below hb4).mono hb4.size)
        clear hb4 hm4 HSB HM3
        generalize (simM b).1 = rr at *
        rcases hp : (simM b).2 with _ | _
        · have HIM3 : Hid (impM a b = false) := Lib.hid (by rw [HIM2.out, hp]; rfl)
          go_wp2_with fail
          go_ret
          exact ⟨ret_bool HIM3.out.symm, HB4.out⟩
        · have HIM3 : Hid (impM a b = rr.all (implM l)) := Lib.hid (by rw [HIM2.out, hp]; rfl)
          clear hp HIM2
          have HNS := Lib.hid (newSet_any A3 c3 l w4 HM34.out (by have := HCS1.out.1; omega) (fun x hx => (szM_of (HCS1.out.2 x hx)).1.name))
          go_wp2_with fail
          refine HNS.out.mono ?_
          rintro e w5 ⟨⟨bm, rfl, hset⟩, hb5⟩
          have HSET := Lib.hid hset
          have HB5 := Lib.hid (HB4.out.trans (hb5.mono HB4.out.size))
          have HM5 := Lib.hid (HM4.out.below hb5)
          have HSZ5 := Lib.hid hb5.size
          clear hset hb5 HNS
          have HX := Lib.hid (At.new w5 #[.map (some bm)] 65)
          have hal : Below w5.heap.size w5 (w5.alloc (.cells #[.map (some bm)] 65)) := (Below.refl _ _).alloc (Nat.le_refl _) _
          have HS6 := Lib.hid ((HSET.out.below hal).mono hal.size)
          have HM6 := Lib.hid ((HM5.out.mono HSZ5.out).below hal |>.mono hal.size)
          have HB6 := Lib.hid (HB5.out.trans (hal.mono HB5.out.size))
          have hlen : rr.length ≤ 16 := HCS2.out.1
          clear hal
          go_upto_region 10 with fail
          generalize w5.alloc (.cells #[.map (some bm)] 65) = w6 at *
          generalize w5.heap.size = Bs at *
          clear HM4 HM34 HM5 HSET HSZ5
          go_wp2_with fail
          go_loopw [37] (fun i wr => ∃ k : Nat, k ≤ rr.length ∧ i = .int .i64 k ∧ Hid ((rr.take k).all (implM l) = true) ∧ Hid (Below w6.heap.size w6 wr)) (fun i _ => rr.length - (intOf i).toNat)
          case atStart => exact ⟨0, Nat.zero_le _, rfl, Lib.hid (by simp), Lib.hid (Below.refl _ _)⟩
          case round =>
            obtain ⟨k, hk, rfl, HT, HW⟩ := hrel
            by_cases hlt : k < rr.length
            · obtain ⟨q, o, rfl, hg, c0, cc1, cc2⟩ := (HM6.out.below HW.out).at_ k hlt
              have hbw : Below wr.heap.size wr (wr.alloc (.cells #[.int .i64 (rr[k]).kind, .string (rr[k]).name, .string (rr[k]).value] 39)) := (Below.refl _ _).alloc (Nat.le_refl _) _
              have HXM := Lib.hid (At.new wr #[.int .i64 (rr[k]).kind, .string (rr[k]).name, .string (rr[k]).value] 39)
              have HTK : Hid (rr.take (k + 1) = rr.take k ++ [rr[k]]) := Lib.hid (List.take_succ_eq_append_getElem hlt)
              have HME : Hid (rr[k] ∈ rr) := Lib.hid (List.getElem_mem hlt)
              obtain ⟨x, hx⟩ : ∃ x, rr[k] = x := ⟨_, rfl⟩
              rw [hx] at c0 cc1 cc2 hbw HXM HTK HME
              clear hx
              have hW1 : Below w6.heap.size w6 (wr.alloc (.cells #[.int .i64 x.kind, .string x.name, .string x.value] 39)) := HW.out.trans (hbw.mono HW.out.size)
              have HW1 := Lib.hid hW1
              have HS7 := Lib.hid ((HS6.out.below hW1).mono hW1.size)
              have HX7 := Lib.hid (HX.out.below hW1)
              clear hbw hW1
              go_upto_region 13 with fail
              generalize wr.alloc (.cells #[.int .i64 x.kind, .string x.name, .string x.value] 39) = w7 at *
              generalize wr.heap.size = Bx at *
              have x0 := HX7.out.cell 0
              have q0 := HXM.out.cell 0
              have q1 := HXM.out.cell 1
              have q2 := HXM.out.cell 2
              have HIP := Lib.hid (implies_any bm l x w7 HS7.out (szM_of (HCS2.out.2 x HME.out)).1 (by have := HCS1.out.1; omega) (fun q hq => (szM_of (HCS1.out.2 q hq)).1.value))
              clear c0 cc1 cc2
              rcases hi : implM l x with _ | _
              · rw [hi] at HIP
                have HIM4 : Hid (impM a b = false) := Lib.hid (by
                  rw [HIM3.out]
                  refine Bool.eq_false_iff.2 fun h => ?_
                  rw [List.all_eq_true.1 h x HME.out] at hi
                  cases hi)
                clear hi
                go_wp2_with fail
                refine HIP.out.mono ?_
                rintro e w8 ⟨rfl, hb8⟩
                have HB8 := Lib.hid (HB6.out.trans ((HW1.out.trans (hb8.mono HW1.out.size)).mono HB6.out.size))
                clear hb8 HIP
                go_wp2_with fail
                go_ret
                exact ⟨ret_bool HIM4.out.symm, HB8.out⟩
              · rw [hi] at HIP
                have HT2 : Hid ((rr.take (k + 1)).all (implM l) = true) := Lib.hid (by rw [HTK.out, List.all_append, HT.out]; simp [hi])
                clear hi
                go_wp2_with fail
                refine HIP.out.mono ?_
                rintro e w8 ⟨rfl, hb8⟩
                have HW8 := Lib.hid (HW1.out.trans (hb8.mono HW1.out.size))
                clear hb8 HIP
                go_wp2_with fail
                go_roundw
                case rel => exact ⟨k + 1, by omega, by go_num, HT2, HW8⟩
                case measure => simp [intOf]; omega
            · have HIM4 : Hid (impM a b = true) := Lib.hid (by
                rw [HIM3.out]
                have := HT.out
                rwa [List.take_of_length_le (by omega)] at this)
              have HB8 := Lib.hid (HB6.out.trans (HW.out.mono HB6.out.size))
              go_wp2_with fail
              go_ret
              exact ⟨ret_bool HIM4.out.symm, HB8.out⟩
    · have HIM : Hid (impM a b = false) := Lib.hid (by unfold impM; rw [hr2, decide_eq_false h2]; simp)
      have h2b : (r2 != 0) = true := by simp [h2]
      clear hr2
      go_wp2_with fail
      refine HCB.out.mono ?_
      rintro e w2 ⟨rfl, hb2⟩
      have HB2 := Lib.hid (HB1.out.trans (hb2.mono HB1.out.size))
      clear hb2 HCB
      go_wp2_with fail
      go_ret
      exact ⟨ret_bool HIM.out.symm, HB2.out⟩
  · have HIM : Hid (impM a b = false) := Lib.hid (by unfold impM; rw [hr1, decide_eq_false h1]; simp)
    have h1b : (r1 != 0) = true := by simp [h1]
    clear hr1
    go_enter Tryz.func30, Tryz.ntmps30
    go_wp2_with fail
    refine HCA.out.mono ?_
    rintro e w1 ⟨rfl, hb1⟩
    have HB1 := Lib.hid hb1
    clear hb1 HCA
    go_wp2_with fail
    go_ret
    exact ⟨ret_bool HIM.out.symm, HB1.out⟩
end Go.Proofs.YthckgmbadmilfaaGreat
