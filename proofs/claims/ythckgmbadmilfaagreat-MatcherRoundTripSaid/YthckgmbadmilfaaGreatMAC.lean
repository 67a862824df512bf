/- The search tells the leftmost longest match: plain Lean. -/
import Derived.Test.YthckgmbadmilfaaGreatMAB
namespace Go.Proofs.YthckgmbadmilfaaGreat
namespace Rx
theorem free_le' (k : Nat) (mk : List Nat) : free k mk ≤ mk.length := List.countP_le_length
/-- From i to j without reading. -/
inductive Eps (M : List St) : Nat → Nat → Prop
  | refl (i : Nat) : Eps M i i
  | step {i p j : Nat} {qs : List Nat} : M[i]? = some (.ep qs) → i ≠ 0 → p ∈ qs → Eps M p j → Eps M i j
theorem Eps.trans {M : List St} {i j k : Nat} (h : Eps M i j) (h2 : Eps M j k) : Eps M i k := by
  induction h with
  | refl => exact h2
  | step a b c _ ih => exact .step a b c (ih h2)
def Stop (M : List St) (q : Nat) : Prop := q = 0 ∨ ∃ f p, M[q]? = some (.rd f p)
/-- A state is dealt with. -/
structure Done (M : List St) (k : Nat) (ts : List Th) (mk : List Nat) (x : Nat) : Prop where
  stop : Stop M x → ∃ f, (x, f) ∈ ts
  ep : ∀ qs, M[x]? = some (.ep qs) → x ≠ 0 → ∀ p ∈ qs, mk[p]? = some k
theorem Done.mono {M : List St} {k : Nat} {ts ts' : List Th} {mk mk' : List Nat} {x : Nat} (h : Done M k ts mk x) (h1 : ∀ t ∈ ts, t ∈ ts') (h2 : ∀ (y : Nat), mk[y]? = some k → mk'[y]? = some k) : Done M k ts' mk' x :=
  ⟨fun hs => by obtain ⟨f, hf⟩ := h.stop hs; exact ⟨f, h1 _ hf⟩, fun qs a b p hp => h2 _ (h.ep qs a b p hp)⟩
/-- What a spreading does. -/
structure Sp (M : List St) (k f : Nat) (S : List Nat) (r0 r : List Th × List Nat) : Prop where
  mono : ∀ (x : Nat), r0.2[x]? = some k → r.2[x]? = some k
  src : ∀ q ∈ S, r.2[q]? = some k
  app : ∃ l, r.1 = r0.1 ++ l ∧ ∀ t ∈ l, t.2 = f ∧ Stop M t.1 ∧ ∃ q ∈ S, Eps M q t.1
  done : ∀ (x : Nat), r.2[x]? = some k → r0.2[x]? = some k ∨ Done M k r.1 r.2 x
  val : ∀ (x v : Nat), r.2[x]? = some v → v = k ∨ r0.2[x]? = some v
theorem Sp.sub {M : List St} {k f : Nat} {src : List Nat} {r0 r : List Th × List Nat} (h : Sp M k f src r0 r) : ∀ t ∈ r0.1, t ∈ r.1 := fun t ht => by
  obtain ⟨l, hl, _⟩ := h.app
  rw [hl]; exact List.mem_append_left _ ht
theorem Sp.trans {M : List St} {k f : Nat} {a b : List Nat} {r0 r1 r2 : List Th × List Nat} (h : Sp M k f a r0 r1) (h2 : Sp M k f b r1 r2) : Sp M k f (a ++ b) r0 r2 := by
  refine ⟨fun x hx => h2.mono x (h.mono x hx), ?_, ?_, ?_, ?_⟩
  · intro q hq
    rcases List.mem_append.1 hq with hq | hq
    · exact h2.mono q (h.src q hq)
    · exact h2.src q hq
  · obtain ⟨l1, e1, h3⟩ := h.app
    obtain ⟨l2, e2, h4⟩ := h2.app
    refine ⟨l1 ++ l2, by rw [e2, e1, List.append_assoc], fun t ht => ?_⟩
    rcases List.mem_append.1 ht with ht | ht
    · obtain ⟨x, y, q, hq, z⟩ := h3 t ht
      exact ⟨x, y, q, List.mem_append_left _ hq, z⟩
    · obtain ⟨x, y, q, hq, z⟩ := h4 t ht
      exact ⟨x, y, q, List.mem_append_right _ hq, z⟩
  · intro x hx
    rcases h2.done x hx with h3 | h3
    · rcases h.done x h3 with h4 | h4
      · exact .inl h4
      · exact .inr (h4.mono h2.sub h2.mono)
    · exact .inr h3
  · intro x v hx
    rcases h2.val x v hx with h3 | h3
    · exact .inl h3
    · exact h.val x v h3
theorem get_set_of {mk : List Nat} {q k x v : Nat} (h : (mk.set q k)[x]? = some v) : (x = q ∧ v = k) ∨ (x ≠ q ∧ mk[x]? = some v) := by
  by_cases e : q = x
  · subst e
    have hl := (List.getElem?_eq_some_iff.1 h).1
    rw [List.length_set] at hl
    rw [List.getElem?_set_self hl] at h
    injection h with h
    exact .inl ⟨rfl, h.symm⟩
  · rw [List.getElem?_set_ne e] at h
    exact .inr ⟨fun h2 => e h2.symm, h⟩
theorem set_mono {mk : List Nat} {q k x : Nat} (hq : q < mk.length) (h : mk[x]? = some k) : (mk.set q k)[x]? = some k := by
  by_cases e : q = x
  · subst e; rw [List.getElem?_set_self hq]
  · rw [List.getElem?_set_ne e]; exact h
theorem spread_sp (M : List St) (hOk : Ok M) (k f : Nat) : ∀ (n : Nat) (ts : List Th) (mk : List Nat) (q : Nat), free k mk < n → mk.length = M.length → q < M.length → Sp M k f [q] (ts, mk) (spreadF M n ts mk q f k) := by
  intro n
  induction n with
  | zero => intro ts mk q h; omega
  | succ n ih =>
    intro ts mk q hfr hm hq
    have hqm : q < mk.length := by omega
    simp only [spreadF]
    by_cases h : mk[q]? = some k
    · rw [if_pos h]
      exact ⟨fun x hx => hx, fun x hx => by rw [List.mem_singleton] at hx; subst hx; exact h, ⟨[], by simp, fun t ht => by simp at ht⟩, fun x hx => .inl hx, fun x v hx => .inr hx⟩
    · rw [if_neg h]
      have hstop : Stop M q → (∀ qs, M[q]? = some (.ep qs) → q = 0) → Sp M k f [q] (ts, mk) (ts ++ [(q, f)], mk.set q k) := by
        intro hs he
        refine ⟨fun x hx => set_mono hqm hx, fun x hx => ?_, ⟨[(q, f)], rfl, fun t ht => ?_⟩, fun x hx => ?_, fun x v hx => ?_⟩
        · rw [List.mem_singleton] at hx
          subst hx
          exact List.getElem?_set_self hqm
        · rw [List.mem_singleton] at ht
          subst ht
          exact ⟨rfl, hs, q, by simp, .refl _⟩
        · rcases get_set_of hx with ⟨rfl, _⟩ | ⟨_, hx⟩
          · exact .inr ⟨fun _ => ⟨f, by simp⟩, fun qs h1 h2 => absurd (he qs h1) h2⟩
          · exact .inl hx
        · rcases get_set_of hx with ⟨rfl, hv⟩ | ⟨_, hx⟩
          · exact .inl hv
          · exact .inr hx
      obtain ⟨s, hs⟩ : ∃ s, M[q]? = some s := ⟨_, List.getElem?_eq_getElem hq⟩
      rcases s with ⟨g, p⟩ | qs
      · rw [hs]
        exact hstop (.inr ⟨g, p, hs⟩) (fun qs h => by rw [hs] at h; cases h)
      · rw [hs]
        simp only
        by_cases h0 : q = 0
        · rw [if_pos h0]
          exact hstop (.inl h0) (fun _ _ => h0)
        · rw [if_neg h0]
          have hfs := free_set (k := k) (mk := mk) (q := q) hqm h
          have fold : ∀ (l : List Nat) (r : List Th × List Nat), (∀ p ∈ l, p < M.length) → free k r.2 < n → r.2.length = M.length → Sp M k f l r (l.foldl (fun r p => spreadF M n r.1 r.2 p f k) r) := by
            intro l
            induction l with
            | nil => intro r _ _ _; exact ⟨fun x hx => hx, fun x hx => by simp at hx, ⟨[], by simp, fun t ht => by simp at ht⟩, fun x hx => .inl hx, fun x v hx => .inr hx⟩
            | cons p l ihl =>
              intro r hl hfr2 hr
              rw [List.foldl_cons]
              have h1 := ih r.1 r.2 p hfr2 hr (hl p (by simp))
              have h2 := spread_facts M hOk k f n r.1 r.2 p hr (hl p (by simp))
              exact Sp.trans (a := [p]) h1 (ihl _ (fun x hx => hl x (by simp [hx])) (Nat.lt_of_le_of_lt h2.2.1 hfr2) (h2.1.trans hr))
          have hf := fold qs (ts, mk.set q k) (hOk q _ hs) (by simp only; omega) (by simp [hm])
          generalize qs.foldl (fun r p => spreadF M n r.1 r.2 p f k) (ts, mk.set q k) = r at hf
          refine ⟨fun x hx => hf.mono x (set_mono hqm hx), fun x hx => ?_, ?_, fun x hx => ?_, fun x v hx => ?_⟩
          · rw [List.mem_singleton] at hx
            subst hx
            exact hf.mono _ (List.getElem?_set_self hqm)
          · obtain ⟨l, e, h2⟩ := hf.app
            refine ⟨l, e, fun t ht => ?_⟩
            obtain ⟨h3, h4, p, hp, h5⟩ := h2 t ht
            exact ⟨h3, h4, q, by simp, .step hs h0 hp h5⟩
          · rcases hf.done x hx with h1 | h1
            · rcases get_set_of h1 with ⟨rfl, _⟩ | ⟨_, h1⟩
              · refine .inr ⟨fun h2 => ?_, fun qs' h2 _ p hp => ?_⟩
                · rcases h2 with h2 | ⟨_, _, h2⟩
                  · exact absurd h2 h0
                  · rw [hs] at h2; cases h2
                · rw [hs] at h2
                  injection h2 with h2
                  injection h2 with h2
                  subst h2
                  exact hf.src p hp
              · exact .inl h1
            · exact .inr h1
          · rcases hf.val x v hx with h1 | h1
            · exact .inl h1
            · rcases get_set_of h1 with ⟨_, h1⟩ | ⟨_, h1⟩
              · exact .inl h1
              · exact .inr h1
/-- A set of threads that is closed, in order, and none of which begins behind b. -/
structure G (M : List St) (k : Nat) (r : List Th × List Nat) (b : Nat) : Prop where
  closed : ∀ (x : Nat), r.2[x]? = some k → Done M k r.1 r.2 x
  le : ∀ t ∈ r.1, t.2 ≤ b
  sorted : r.1.Pairwise (fun s t => s.2 ≤ t.2)
  len : r.2.length = M.length
theorem G.mono {M : List St} {k : Nat} {r : List Th × List Nat} {b b' : Nat} (h : G M k r b) (hb : b ≤ b') : G M k r b' := ⟨h.closed, fun t ht => Nat.le_trans (h.le t ht) hb, h.sorted, h.len⟩
theorem G.eps {M : List St} {k : Nat} {r : List Th × List Nat} {b : Nat} (h : G M k r b) {i j : Nat} (he : Eps M i j) : r.2[i]? = some k → r.2[j]? = some k := by
  induction he with
  | refl => exact id
  | step a b c _ ih => exact fun hk => ih ((h.closed _ hk).ep _ a b _ c)
structure Grow (M : List St) (k f q : Nat) (r r' : List Th × List Nat) : Prop where
  g : G M k r' f
  keep : ∀ t ∈ r.1, t ∈ r'.1
  comp : ∀ x, Stop M x → Eps M q x → ∃ f', f' ≤ f ∧ (x, f') ∈ r'.1
  sound : ∀ t ∈ r'.1, t ∈ r.1 ∨ (t.2 = f ∧ Stop M t.1 ∧ Eps M q t.1)
  val : ∀ (x v : Nat), r'.2[x]? = some v → v = k ∨ r.2[x]? = some v
theorem G.spread {M : List St} (hOk : Ok M) {k : Nat} {r : List Th × List Nat} {b : Nat} (h : G M k r b) {q f : Nat} (hb : b ≤ f) (hq : q < M.length) : Grow M k f q r (spreadF M (M.length + 1) r.1 r.2 q f k) := by
  have h1 := spread_sp M hOk k f (M.length + 1) r.1 r.2 q (by have := free_le' k r.2; have := h.len; omega) h.len hq
  have h2 := spread_facts M hOk k f (M.length + 1) r.1 r.2 q h.len hq
  generalize spreadF M (M.length + 1) r.1 r.2 q f k = r' at *
  obtain ⟨l, e, hl⟩ := h1.app
  have hg : G M k r' f := by
    refine ⟨fun x hx => ?_, fun t ht => ?_, ?_, h2.1.trans h.len⟩
    · rcases h1.done x hx with h3 | h3
      · exact (h.closed x h3).mono h1.sub h1.mono
      · exact h3
    · rw [e] at ht
      rcases List.mem_append.1 ht with ht | ht
      · exact Nat.le_trans (h.le t ht) hb
      · rw [(hl t ht).1]; exact Nat.le_refl _
    · rw [e, List.pairwise_append]
      refine ⟨h.sorted, ?_, fun s hs t ht => ?_⟩
      · rw [List.pairwise_iff_forall_sublist]
        intro s t hst
        rw [(hl s (hst.subset (by simp))).1, (hl t (hst.subset (by simp))).1]
        exact Nat.le_refl _
      · rw [(hl t ht).1]
        exact Nat.le_trans (h.le s hs) hb
  refine ⟨hg, h1.sub, fun x hx he => ?_, fun t ht => ?_, h1.val⟩
  · obtain ⟨f', hf'⟩ := (hg.closed x (hg.eps he (h1.src q (by simp)))).stop hx
    exact ⟨f', hg.le _ hf', hf'⟩
  · rw [e] at ht
    rcases List.mem_append.1 ht with ht | ht
    · exact .inl ht
    · obtain ⟨h3, h4, p, hp, h5⟩ := hl t ht
      rw [List.mem_singleton] at hp
      subst hp
      exact .inr ⟨h3, h4, h5⟩
/-- What the threads are behind a byte. -/
structure Stp (M : List St) (k : Nat) (bd : Option (Nat × Nat)) (c : UInt8) (l : List Th) (B : Nat) (r r' : List Th × List Nat) : Prop where
  g : G M k r' B
  keep : ∀ t ∈ r.1, t ∈ r'.1
  comp : ∀ u ∈ l, (∀ y, bd = some y → u.2 ≤ y.1) → ∀ g p, M[u.1]? = some (.rd g p) → g c = true → ∀ x, Stop M x → Eps M p x → ∃ f', f' ≤ u.2 ∧ (x, f') ∈ r'.1
  sound : ∀ t ∈ r'.1, t ∈ r.1 ∨ (Stop M t.1 ∧ ∃ u ∈ l, u.2 = t.2 ∧ ∃ g p, M[u.1]? = some (.rd g p) ∧ g c = true ∧ Eps M p t.1)
  val : ∀ (x v : Nat), r'.2[x]? = some v → v = k ∨ r.2[x]? = some v
theorem step_stp {M : List St} (hOk : Ok M) {k : Nat} {bd : Option (Nat × Nat)} {c : UInt8} : ∀ (l : List Th) (r : List Th × List Nat) (b B : Nat), G M k r b → b ≤ B → (∀ t ∈ l, b ≤ t.2 ∧ t.2 ≤ B) → l.Pairwise (fun s t => s.2 ≤ t.2) → Stp M k bd c l B r (step M (M.length + 1) bd c k l r)
  | [], r, b, B, h, hB, _, _ => ⟨h.mono hB, fun t ht => ht, fun u hu => by simp at hu, fun t ht => .inl ht, fun x v hv => .inr hv⟩
  | t :: l, r, b, B, h, hB, hl, hs => by
    simp only [step]
    rw [List.pairwise_cons] at hs
    by_cases hb : ∃ x, bd = some x ∧ x.1 < t.2
    · rw [if_pos hb]
      obtain ⟨x, hx, hlt⟩ := hb
      refine ⟨h.mono hB, fun t ht => ht, fun u hu hy => ?_, fun t ht => .inl ht, fun x v hv => .inr hv⟩
      have h1 := hy x hx
      have h2 : t.2 ≤ u.2 := by
        rcases List.mem_cons.1 hu with rfl | hu
        · exact Nat.le_refl _
        · exact hs.1 u hu
      omega
    · rw [if_neg hb]
      have hno : (∀ g p, M[t.1]? = some (.rd g p) → g c = false) → Stp M k bd c (t :: l) B r (step M (M.length + 1) bd c k l r) := fun hn => by
        have ih := step_stp hOk (bd := bd) (c := c) l r b B h hB (fun u hu => hl u (by simp [hu])) hs.2
        refine ⟨ih.g, ih.keep, fun u hu hy g p hg hc => ?_, fun u hu => ?_, ih.val⟩
        · rcases List.mem_cons.1 hu with rfl | hu
          · rw [hn g p hg] at hc; cases hc
          · exact ih.comp u hu hy g p hg hc
        · rcases ih.sound u hu with h1 | ⟨h1, v, hv, h2⟩
          · exact .inl h1
          · exact .inr ⟨h1, v, by simp [hv], h2⟩
      split
      · rename_i f q he
        split
        · rename_i hf
          have ht := hl t (by simp)
          have h1 := h.spread hOk (q := q) (f := t.2) ht.1 (hOk _ _ he q (by simp [Nx]))
          have ih := step_stp hOk (bd := bd) (c := c) l _ t.2 B h1.g ht.2 (fun u hu => ⟨hs.1 u hu, (hl u (by simp [hu])).2⟩) hs.2
          refine ⟨ih.g, fun u hu => ih.keep u (h1.keep u hu), fun u hu hy g p hg hc x hx hex => ?_, fun u hu => ?_, fun x v hv => ?_⟩
          · rcases List.mem_cons.1 hu with rfl | hu
            · rw [he] at hg
              injection hg with hg
              injection hg with e1 e2
              subst e1 e2
              obtain ⟨f', h2, h3⟩ := h1.comp x hx hex
              exact ⟨f', h2, ih.keep _ h3⟩
            · exact ih.comp u hu hy g p hg hc x hx hex
          · rcases ih.sound u hu with h2 | ⟨h2, v, hv, h3⟩
            · rcases h1.sound u h2 with h3 | ⟨h3, h4, h5⟩
              · exact .inl h3
              · exact .inr ⟨h4, t, by simp, h3.symm, f, q, he, hf, h5⟩
            · exact .inr ⟨h2, v, by simp [hv], h3⟩
          · rcases ih.val x v hv with h2 | h2
            · exact .inl h2
            · exact h1.val x v h2
        · rename_i hf
          exact hno fun g p hg => by
            rw [he] at hg
            injection hg with hg
            injection hg with e1 e2
            subst e1
            simpa using hf
      · rename_i hne
        exact hno fun g p hg => absurd hg (hne g p)
end Rx
end Go.Proofs.YthckgmbadmilfaaGreat
