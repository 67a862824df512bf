/- Walks: newSet (the program's). -/
import Derived.Test.YthckgmbadmilfaaGreatMAI
import Derived.Test.YthckgmbadmilfaaGreatMBE
import Derived.Maps.AppendAt
namespace Go.Proofs.YthckgmbadmilfaaGreat
open Go.RowKit

theorem SR.app {W w0 : World} {A : Option Addr} {n c : Nat} {xs : List (Array Value)} (h : SR W 39 3 A n c xs w0) (v : Array Value) (hv : v.size = 3) (hv1 : v.all (·.oneCell') = true) (hl : n + 1 ≤ 1000000) :
    ∃ A' c' w', (Builtin.append_ #[22, 22] 22 #[.slice A n c, .slice (some ⟨w0.heap.size, 0, none⟩) 1 1]).run Tryz.prog (w0.alloc (.cells v 39)) = .ok (.slice A' (n + 1) c') w' ∧ SR W 39 3 A' (n + 1) c' (xs ++ [v]) w' ∧ Gro w0 w' A A' := by
  obtain ⟨i0, hi, hz0, hz1, hz2⟩ := info_parts info_mt
  have hB : W.heap.size ≤ (w0.alloc (.cells v 39)).heap.size := by have := h.below.size; simp; omega
  obtain ⟨v', w', hrun, hr, hg, _, hw⟩ := run_append_own_at (P := Tryz.prog) (w0.alloc (.cells v 39)) W.heap.size 22 22 39 i0 _ 3 40 Tryz.underlying22 hi hz0 hz1 hz2 rfl (by decide) (.slice A n c) n (flatS xs) (h.row.alloc _) ⟨w0.heap.size, 0, none⟩ 1 1 v.toList (by rw [Array.length_toList, hv])
      (World.news_of_block (cs := v) (t := 39) (fr := (0, 0)) (heap_alloc_new _ _)) (fun u hu => (Array.all_eq_true_iff_forall_mem.1 hv1) u (by simpa using hu)) (by unfold maxLen; omega) (by omega) hB
  rw [← flatS_snoc] at hr
  have hr0 := hr
  have hbl : Below W.heap.size W w' := (h.below.alloc h.below.size _).grown hg hB (fun k hk => h.le k (by rw [own_slice] at hk; exact hk))
  rcases hr.2 with ⟨_, h0⟩ | ⟨g, cap, cur, rfl, _⟩
  · omega
  · refine ⟨some ⟨g, 0, none⟩, cap, w', hrun, ⟨by rw [List.length_append, h.len]; rfl, fun q hq => ?_, hr0, hbl⟩, Gro.ofAlloc ⟨by rw [own_slice] at hg; exact hg, ?_⟩⟩
    · rcases List.mem_append.1 hq with hq | hq
      · exact h.size q hq
      · rw [List.mem_singleton] at hq; rw [hq]; exact hv
    · rw [own_slice, own_slice] at hw
      rcases hw with hw | hw
      · exact .inl hw
      · exact .inr ⟨_, hw, Nat.le_refl _⟩
theorem SR.ne_type {W w : World} {E s : Nat} {A : Option Addr} {n c g : Nat} {xs : List (Array Value)} {cs : Array Value} {t : TypeId} (h : SR W E s A n c xs w) (hat : At w g cs t) (hne : t ≠ E) : A.map (·.block) ≠ some g := by
  rcases h.row.2 with ⟨e, _⟩ | ⟨q, cap, cur, e, _, hb, _⟩
  · injection e with e
    subst e
    intro h2
    cases h2
  · injection e with e
    subst e
    intro h2
    injection h2 with h2
    have h3 : q = g := h2
    subst h3
    rw [hat.out] at hb
    injection hb with hb
    injection hb with _ hb _
    exact hne hb
theorem GR.ne_map {W w : World} {b g : Nat} {ms : List Mt} {cs : Array Value} {t : TypeId} (h : GR W b ms w) (hat : At w g cs t) : g ≠ b := by
  obtain ⟨f, ⟨D, ⟨es, clock, h1, _⟩, _⟩, _⟩ := h.out
  intro e
  subst e
  rw [hat.out] at h1
  cases h1
theorem GR.setCell {W w : World} {b g : Nat} {ms : List Mt} {cs : Array Value} {t : TypeId} (h : GR W b ms w) (hat : At w g cs t) (ht : t ≠ 39) (hW : W.heap.size ≤ g) (hB : Below W.heap.size W w) (v : Value) : GR W b ms (w.setCell ⟨g, 0, none⟩ v) := by
  have hgb := h.ne_map hat
  obtain ⟨f, h1, h2, h3, h4⟩ := h.out
  have hg : w.grownBy (w.setCell ⟨g, 0, none⟩ v) (some g) := ⟨rfl, rfl, rfl, by simp, fun k _ hk => heap_setCell_other w ⟨g, 0, none⟩ k v (fun e => hk (by rw [e]))⟩
  exact ⟨⟨f, h1.kept hg (fun e => hgb (by injection e with e; exact e.symm)), fun n => (h2 n).by_ hg (.inr ((h2 n).ne_type hat ht)) (hB.setCell (p := ⟨g, 0, none⟩) hW v), h3, h4⟩⟩
theorem size_set_ : (Tryz.prog.info? 65).map (·.size) = some 1 := by kernel_rfl
set_option maxRecDepth 100000 in
set_option maxHeartbeats 2000000 in
theorem newSet_any (A : Option Addr) (c : Nat) (ms : List Mt) (w : World) (hr : MtsIn w.heap.size w A ms) (hl : ms.length ≤ 1000) (hn : ∀ x ∈ ms, x.name.size ≤ 100000) :
    Calls Tryz.prog 43 #[.slice A ms.length c] w fun e w' => (∃ b, e = .returned (.agg #[.map (some b)]) ∧ SetIn w'.heap.size w' b ms) ∧ Below w.heap.size w w' := by
  obtain ⟨i0, hi, hz0, hz1, hz2⟩ := info_parts info_mt
  have hmm := @run_makeMap Tryz.prog
  have HI := Lib.hid hi
  have HZ0 := Lib.hid hz0
  have HZ1 := Lib.hid hz1
  have HZ2 := Lib.hid hz2
  have HRD := Lib.hid hr
  have HN := Lib.hid hn
  clear hr hn hi hz0 hz1 hz2
  have hb1 : Below w.heap.size w (w.alloc (.cells #[.map none] 65)) := (Below.refl _ _).alloc (Nat.le_refl _) _
  have g0 := GR.start w (w.alloc (.cells #[.map none] 65)) hb1
  have z1 : (w.alloc (.cells #[.map none] 65)).heap.size = w.heap.size + 1 := by simp
  have z2 : ((w.alloc (.cells #[.map none] 65)).alloc (.map #[] 0)).heap.size = w.heap.size + 2 := by simp
  have a2 := At.new ((w.alloc (.cells #[.map none] 65)).alloc (.map #[] 0)) #[.map (some (w.heap.size + 1))] 65
  rw [z1] at g0
  rw [z2] at a2
  have HG0 : Hid (GR w (w.heap.size + 1) [] (((w.alloc (.cells #[.map none] 65)).alloc (.map #[] 0)).alloc (.cells #[.map (some (w.heap.size + 1))] 65))) := Lib.hid (g0.later ((Below.refl _ _).alloc (Nat.le_refl _) _))
  have HS0 : Hid (At (((w.alloc (.cells #[.map none] 65)).alloc (.map #[] 0)).alloc (.cells #[.map (some (w.heap.size + 1))] 65)) w.heap.size #[.map none] 65) := Lib.hid (((At.new _ _ _).alloc _).alloc _)
  have HS2 : Hid (At (((w.alloc (.cells #[.map none] 65)).alloc (.map #[] 0)).alloc (.cells #[.map (some (w.heap.size + 1))] 65)) (w.heap.size + 1 + 1) #[.map (some (w.heap.size + 1))] 65) := Lib.hid a2
  have HB0 : Hid (Below w.heap.size w (((w.alloc (.cells #[.map none] 65)).alloc (.map #[] 0)).alloc (.cells #[.map (some (w.heap.size + 1))] 65))) := Lib.hid (((hb1.alloc hb1.size _)).alloc (by simp; omega) _)
  clear g0 a2 z1 z2 hb1
  go_enter Tryz.func43, Tryz.ntmps43
  go_upto_region 2 with fail
  generalize ((w.alloc (.cells #[.map none] 65)).alloc (.map #[] 0)).alloc (.cells #[.map (some (w.heap.size + 1))] 65) = w0 at *
  obtain ⟨b, hbe⟩ : ∃ b, w.heap.size + 1 = b := ⟨_, rfl⟩
  rw [hbe] at HG0 HS2
  rw [hbe]
  have hwb : w.heap.size < b := by omega
  have HBE := Lib.hid hbe
  clear hbe
  go_wp2_with fail
  go_loopw [10] (fun i wr => ∃ k : Nat, k ≤ ms.length ∧ i = .int .i64 k ∧ Hid (GR w b (ms.take k) wr) ∧ Hid (At wr w.heap.size #[.map none] 65) ∧ Hid (At wr (b + 1) #[.map (some b)] 65) ∧ Hid (Below w.heap.size w wr)) (fun i _ => ms.length - (intOf i).toNat)
  case atStart => exact ⟨0, Nat.zero_le _, rfl, HG0, HS0, HS2, HB0⟩
  case round =>
    obtain ⟨k, hk, rfl, HG, HS, HT, HB⟩ := hrel
    clear HG0 HS0 HS2 HB0
    by_cases hlt : k < ms.length
    · obtain ⟨g, o, rfl, hg, c0, c1, c2⟩ := (HRD.out.below HB.out).at_ k hlt
      have hg : g < wr.heap.size := Nat.lt_of_lt_of_le hg HB.out.size
      have HTK : Hid (ms.take k ++ [ms[k]] = ms.take (k + 1)) := Lib.hid (List.take_succ_eq_append_getElem hlt).symm
      have HNK := Lib.hid (HN.out _ (List.getElem_mem hlt))
      have HLK : Hid ((ms.take k).length = k) := Lib.hid (by simp; omega)
      obtain ⟨x, hx⟩ : ∃ x, ms[k] = x := ⟨_, rfl⟩
      rw [hx] at HTK HNK c0 c1 c2
      clear hx
      go_upto_region 5 with fail
      have HB2 : Hid (Below wr.heap.size wr (wr.alloc (.cells #[.int .i64 x.kind, .string x.name, .string x.value] 39))) := Lib.hid ((Below.refl _ _).alloc (Nat.le_refl _) _)
      have HX2 := Lib.hid (At.new wr #[.int .i64 x.kind, .string x.name, .string x.value] 39)
      obtain ⟨f, hm', hs', hdj, hbn⟩ := HG.out.out
      have HLT := Lib.hid (fun n k (h : (f n).1.map (·.block) = some k) => ((hs' n).lt k h).2)
      have HM2 := Lib.hid (hm'.below HB2.out hm'.lt)
      have HSS := Lib.hid (fun n => (hs' n).later HB2.out)
      clear hm' hs'
      have HT2 := Lib.hid (HT.out.below HB2.out)
      have HS2 := Lib.hid (HS.out.below HB2.out)
      have HBB := Lib.hid (HB.out.trans (HB2.out.mono HB.out.size))
      have hbB : Hid (b + 1 < wr.heap.size) := Lib.hid HT.out.lt
      clear HG HT HS
      generalize wr.alloc (.cells #[.int .i64 x.kind, .string x.name, .string x.value] 39) = w2 at *
      generalize wr.heap.size = Bx at *
      have hm := HM2.out
      have hs := HSS.out
      have hm0 : MapFn w2.drew b (ms.take k).length (fun n => .slice (f n).1 (grp (ms.take k) n).length (f n).2) := hm.drew
      have hs0 : ∀ n, SR w 39 3 (f n).1 (grp (ms.take k) n).length (f n).2 ((grp (ms.take k) n).map Mt.cells) w2.drew := fun n => (hs n).drewN 1
      have hgl := grp_le (ms.take k) x.name
      rw [HLK.out] at hgl
      have hnk : x.name.size ≤ maxLen := by have := HNK.out; unfold maxLen; omega
      obtain ⟨A', c', W2, happ, hsr, hgro⟩ := (hs0 x.name).app x.cells rfl (by simp [Mt.cells, Value.oneCell']) (by omega)
      have hm1 := hm0.alloc (.cells x.cells 39)
      have hm2 : MapFn W2 b (ms.take k).length (fun n => .slice (f n).1 (grp (ms.take k) n).length (f n).2) := hm0.kept hgro.grow (fun e => hbn x.name e.symm)
      obtain ⟨W3, hupd, hm3, hg3⟩ := hm2.update (by rw [HLK.out]; unfold maxLen; omega) x.name hnk (.slice A' ((grp (ms.take k) x.name).length + 1) c')
      have HGN := Lib.hid (GR.store hm0 hs0 hdj hbn (by omega) hsr hgro hm3 hg3)
      have HLK0 := Lib.hid (hm0.lookup x.name hnk)
      have HLK1 := Lib.hid (hm1.lookup x.name hnk)
      have HAPP := Lib.hid happ
      have HUPD := Lib.hid hupd
      have hne1 : (f x.name).1.map (·.block) ≠ some (b + 1) := (hs0 x.name).ne_type HT2.out.drew (by decide)
      have HT0 : Hid (At w2.drew (b + 1) #[.map (some b)] 65) := Lib.hid HT2.out.drew
      have HTA : Hid (At W2 (b + 1) #[.map (some b)] 65) := Lib.hid (hgro.at_ HT2.out.drew hne1)
      have HTB : Hid (At W3 (b + 1) #[.map (some b)] 65) := Lib.hid (HTA.out.grown hg3 (by intro e; injection e with e; omega))
      have hne2 : (f x.name).1.map (·.block) ≠ some Bx := fun e => Nat.lt_irrefl _ (HLT.out _ _ e)
      have HX0 : Hid (At w2.drew Bx #[.int .i64 x.kind, .string x.name, .string x.value] 39) := Lib.hid HX2.out.drew
      have HXA : Hid (At W2 Bx #[.int .i64 x.kind, .string x.name, .string x.value] 39) := Lib.hid (hgro.at_ HX2.out.drew hne2)
      have HS3 : Hid (At W3 w.heap.size #[.map none] 65) := Lib.hid ((hgro.at_ HS2.out.drew ((hs0 x.name).ne_type HS2.out.drew (by decide))).grown hg3 (by intro e; injection e with e; omega))
      have HB3 : Hid (Below w.heap.size w W3) := Lib.hid (hsr.below.grown hg3 hsr.below.size (fun k e => by cases e; omega))
      clear HLT HM2 HSS
      clear hm hs hm0 hs0 hdj hbn hm1 hm2 hm3 hg3 hgro hsr happ hupd hnk hgl
      generalize (f x.name).1 = A0 at *
      generalize (f x.name).2 = k0 at *
      generalize (grp (ms.take k) x.name).length = n0 at *
      have HT1 : Hid (At (w2.drew.alloc (.cells x.cells 39)) (b + 1) #[.map (some b)] 65) := Lib.hid (HT2.out.drew.alloc _)
      have HX1 : Hid (At (w2.drew.alloc (.cells x.cells 39)) Bx #[.int .i64 x.kind, .string x.name, .string x.value] 39) := Lib.hid (HX2.out.drew.alloc _)
      obtain ⟨W0, hW0⟩ : ∃ W0, w2.drew = W0 := ⟨_, rfl⟩
      rw [hW0] at HT0 HX0 HT1 HX1 HLK0 HLK1 HAPP
      obtain ⟨W1, hW1⟩ : ∃ W1, W0.alloc (.cells x.cells 39) = W1 := ⟨_, rfl⟩
      rw [hW1] at HT1 HX1 HLK1 HAPP
      have HW0 := Lib.hid hW0
      have HW1 := Lib.hid hW1
      clear hW0 hW1
      refine region_fixed (by kernel_rfl) (by kernel_rfl) (fun i => (#[.pointer (some ⟨b + 1, 0, none⟩), .map (some b), .pointer (some ⟨Bx, 1, none⟩), .string x.name, .pointer (some ⟨b + 1, 0, none⟩), .map (some b), .pointer (some ⟨Bx, 1, none⟩), .string x.name, .slice A0 n0 k0, .agg #[.int .i64 x.kind, .string x.name, .string x.value], .slice (some ⟨W0.heap.size, 0, none⟩) 1 1, .slice A' (n0 + 1) c', undef] : Array Value).getD i undef)
        (wof3 10 11 12 W0 W1 W2 W3) (by rw [HW0.out]; simp [wof3]) ?step ?fin
      case step =>
        intro listed act i o hfx hl ho hd K hK
        have hi : i < 13 := (Array.getElem?_eq_some_iff.1 ho).1
        have h12 : i < 12 → listed[12]? ≠ some true := fun hlt12 h => by
          have : listed[i]? = some true := by
            have hcs : i = 0 ∨ i = 1 ∨ i = 2 ∨ i = 3 ∨ i = 4 ∨ i = 5 ∨ i = 6 ∨ i = 7 ∨ i = 8 ∨ i = 9 ∨ i = 10 ∨ i = 11 := by omega
            rcases hcs with rfl | rfl | rfl | rfl | rfl | rfl | rfl | rfl | rfl | rfl | rfl | rfl
            all_goals exact hfx.down 12 _ ⟨_, .phase⟩ rfl h (by simp) rfl
          rw [this] at hl
          cases hl
        have hcs : i = 0 ∨ i = 1 ∨ i = 2 ∨ i = 3 ∨ i = 4 ∨ i = 5 ∨ i = 6 ∨ i = 7 ∨ i = 8 ∨ i = 9 ∨ i = 10 ∨ i = 11 ∨ i = 12 := by omega
        rcases hcs with rfl | rfl | rfl | rfl | rfl | rfl | rfl | rfl | rfl | rfl | rfl | rfl | rfl
        all_goals
          simp only [List.getElem?_toArray, List.getElem?_cons_succ, List.getElem?_cons_zero, Option.some.injEq] at ho
          subst ho
        · have h12' := h12 (by decide)
          have e3 := hfx.base 3 (by kernel_rfl) (v := Value.pointer (some ⟨b + 1, 0, none⟩)) rfl
          rw [wof3_keep (by decide) (by decide) (by decide)] at hK
          rcases wof3_cases (p := 10) (q := 11) (r := 12) h12' with hw | hw | hw
          all_goals
            rw [hw] at hK ⊢
            refine wp_yield (v := Value.pointer (some ⟨b + 1, 0, none⟩)) ?_ hK
            go_simp
        · have h12' := h12 (by decide)
          have d0 : listed[0]? = some true := hd ⟨0, .data⟩ (by simp) rfl
          have e14 := hfx.ev (j := 0) (d := 14) rfl rfl d0 (v := Value.pointer (some ⟨b + 1, 0, none⟩)) rfl
          rw [wof3_keep (by decide) (by decide) (by decide)] at hK
          rcases wof3_cases (p := 10) (q := 11) (r := 12) h12' with hw | hw | hw
          all_goals
            rw [hw] at hK ⊢
            refine wp_yield (v := Value.map (some b)) ?_ hK
            have q0 := HT0.out.cell 0
            have s0 := HT1.out.cell 0
            have r0 := HTA.out.cell 0
            go_simp
        · have h12' := h12 (by decide)
          have e5 := hfx.base 5 (by kernel_rfl) (v := Value.pointer (some ⟨Bx, 0, none⟩)) rfl
          rw [wof3_keep (by decide) (by decide) (by decide)] at hK
          rcases wof3_cases (p := 10) (q := 11) (r := 12) h12' with hw | hw | hw
          all_goals
            rw [hw] at hK ⊢
            refine wp_yield (v := Value.pointer (some ⟨Bx, 1, none⟩)) ?_ hK
            go_simp
        · have h12' := h12 (by decide)
          have d2 : listed[2]? = some true := hd ⟨2, .data⟩ (by simp) rfl
          have e16 := hfx.ev (j := 2) (d := 16) rfl rfl d2 (v := Value.pointer (some ⟨Bx, 1, none⟩)) rfl
          rw [wof3_keep (by decide) (by decide) (by decide)] at hK
          rcases wof3_cases (p := 10) (q := 11) (r := 12) h12' with hw | hw | hw
          all_goals
            rw [hw] at hK ⊢
            refine wp_yield (v := Value.string x.name) ?_ hK
            have q0 := HX0.out.cell 0
            have q1 := HX0.out.cell 1
            have q2 := HX0.out.cell 2
            have r0 := HXA.out.cell 0
            have r1 := HXA.out.cell 1
            have r2 := HXA.out.cell 2
            have s0 := HX1.out.cell 0
            have s1 := HX1.out.cell 1
            have s2 := HX1.out.cell 2
            go_simp
        · have h12' := h12 (by decide)
          have e3 := hfx.base 3 (by kernel_rfl) (v := Value.pointer (some ⟨b + 1, 0, none⟩)) rfl
          rw [wof3_keep (by decide) (by decide) (by decide)] at hK
          rcases wof3_cases (p := 10) (q := 11) (r := 12) h12' with hw | hw | hw
          all_goals
            rw [hw] at hK ⊢
            refine wp_yield (v := Value.pointer (some ⟨b + 1, 0, none⟩)) ?_ hK
            go_simp
        · have h12' := h12 (by decide)
          have d4 : listed[4]? = some true := hd ⟨4, .data⟩ (by simp) rfl
          have e18 := hfx.ev (j := 4) (d := 18) rfl rfl d4 (v := Value.pointer (some ⟨b + 1, 0, none⟩)) rfl
          rw [wof3_keep (by decide) (by decide) (by decide)] at hK
          rcases wof3_cases (p := 10) (q := 11) (r := 12) h12' with hw | hw | hw
          all_goals
            rw [hw] at hK ⊢
            refine wp_yield (v := Value.map (some b)) ?_ hK
            have q0 := HT0.out.cell 0
            have s0 := HT1.out.cell 0
            have r0 := HTA.out.cell 0
            go_simp
        · have h12' := h12 (by decide)
          have e5 := hfx.base 5 (by kernel_rfl) (v := Value.pointer (some ⟨Bx, 0, none⟩)) rfl
          rw [wof3_keep (by decide) (by decide) (by decide)] at hK
          rcases wof3_cases (p := 10) (q := 11) (r := 12) h12' with hw | hw | hw
          all_goals
            rw [hw] at hK ⊢
            refine wp_yield (v := Value.pointer (some ⟨Bx, 1, none⟩)) ?_ hK
            go_simp
        · have h12' := h12 (by decide)
          have d6 : listed[6]? = some true := hd ⟨6, .data⟩ (by simp) rfl
          have e20 := hfx.ev (j := 6) (d := 20) rfl rfl d6 (v := Value.pointer (some ⟨Bx, 1, none⟩)) rfl
          rw [wof3_keep (by decide) (by decide) (by decide)] at hK
          rcases wof3_cases (p := 10) (q := 11) (r := 12) h12' with hw | hw | hw
          all_goals
            rw [hw] at hK ⊢
            refine wp_yield (v := Value.string x.name) ?_ hK
            have q0 := HX0.out.cell 0
            have q1 := HX0.out.cell 1
            have q2 := HX0.out.cell 2
            have r0 := HXA.out.cell 0
            have r1 := HXA.out.cell 1
            have r2 := HXA.out.cell 2
            have s0 := HX1.out.cell 0
            have s1 := HX1.out.cell 1
            have s2 := HX1.out.cell 2
            go_simp
        · have h12' := h12 (by decide)
          have d5 : listed[5]? = some true := hd ⟨5, .data⟩ (by simp) rfl
          have e19 := hfx.ev (j := 5) (d := 19) rfl rfl d5 (v := Value.map (some b)) rfl
          have d7 : listed[7]? = some true := hd ⟨7, .data⟩ (by simp) rfl
          have e21 := hfx.ev (j := 7) (d := 21) rfl rfl d7 (v := Value.string x.name) rfl
          rw [wof3_keep (by decide) (by decide) (by decide)] at hK
          have h11 : listed[11]? ≠ some true := fun h => by
            have := hfx.down 11 _ ⟨8, .data⟩ rfl h (by simp) rfl
            rw [this] at hl
            cases hl
          by_cases h10 : listed[10]? = some true
          · rw [wof3_1 h12' h11 h10] at hK ⊢
            have hrun := HLK1.out
            refine wp_yield (v := Value.slice A0 n0 k0) ?_ hK
            go_simp
          · rw [wof3_0 h12' h11 h10] at hK ⊢
            have hrun := HLK0.out
            refine wp_yield (v := Value.slice A0 n0 k0) ?_ hK
            go_simp
        · have h12' := h12 (by decide)
          have e5 := hfx.base 5 (by kernel_rfl) (v := Value.pointer (some ⟨Bx, 0, none⟩)) rfl
          rw [wof3_keep (by decide) (by decide) (by decide)] at hK
          rcases wof3_cases (p := 10) (q := 11) (r := 12) h12' with hw | hw | hw
          all_goals
            rw [hw] at hK ⊢
            refine wp_yield (v := Value.agg #[.int .i64 x.kind, .string x.name, .string x.value]) ?_ hK
            have q0 := HX0.out.cell 0
            have q1 := HX0.out.cell 1
            have q2 := HX0.out.cell 2
            have r0 := HXA.out.cell 0
            have r1 := HXA.out.cell 1
            have r2 := HXA.out.cell 2
            have s0 := HX1.out.cell 0
            have s1 := HX1.out.cell 1
            have s2 := HX1.out.cell 2
            go_simp
        · have h12' := h12 (by decide)
          have d9 : listed[9]? = some true := hd ⟨9, .data⟩ (by simp) rfl
          have e23 := hfx.ev (j := 9) (d := 23) rfl rfl d9 (v := Value.agg #[.int .i64 x.kind, .string x.name, .string x.value]) rfl
          have h11 : listed[11]? ≠ some true := fun h => by
            have := hfx.down 11 _ ⟨10, .data⟩ rfl h (by simp) rfl
            rw [this] at hl
            cases hl
          have hsz : 10 < listed.size := (Array.getElem?_eq_some_iff.1 hl).1
          rw [wof3_1 (by rw [Array.getElem?_setIfInBounds_ne (by decide)]; exact h12') (by rw [Array.getElem?_setIfInBounds_ne (by decide)]; exact h11) (Array.getElem?_setIfInBounds_self_of_lt hsz)] at hK
          rw [wof3_0 h12' h11 (by rw [hl]; simp)]
          refine wp_yield (v := .slice (some ⟨W0.heap.size, 0, none⟩) 1 1) ?_ hK
          rw [← HW1.out]
          go_simp
          rfl
        · have h12' := h12 (by decide)
          have d8 : listed[8]? = some true := hd ⟨8, .data⟩ (by simp) rfl
          have d10 : listed[10]? = some true := hd ⟨10, .data⟩ (by simp) rfl
          have e22 := hfx.ev (j := 8) (d := 22) rfl rfl d8 (v := Value.slice A0 n0 k0) rfl
          have e24 := hfx.ev (j := 10) (d := 24) rfl rfl d10 (v := Value.slice (some ⟨W0.heap.size, 0, none⟩) 1 1) rfl
          have hsz : 11 < listed.size := (Array.getElem?_eq_some_iff.1 hl).1
          rw [wof3_2 (by rw [Array.getElem?_setIfInBounds_ne (by decide)]; exact h12') (Array.getElem?_setIfInBounds_self_of_lt hsz)] at hK
          rw [wof3_1 h12' (by rw [hl]; simp) d10]
          have hrun := HAPP.out
          refine wp_yield (v := .slice A' (n0 + 1) c') ?_ hK
          unfold execOp
          simp only [resolve, invoke, builtin, Sem.run_bind, Sem.run_pure, Result.andThen_ok, List.map_toArray, List.map_cons, List.map_nil, ev_of e22, ev_of e24, hrun]
        · have d1 : listed[1]? = some true := hd ⟨1, .data⟩ (by simp) rfl
          have d3 : listed[3]? = some true := hd ⟨3, .data⟩ (by simp) rfl
          have d11 : listed[11]? = some true := hd ⟨11, .data⟩ (by simp) rfl
          have e15 := hfx.ev (j := 1) (d := 15) rfl rfl d1 (v := Value.map (some b)) rfl
          have e17 := hfx.ev (j := 3) (d := 17) rfl rfl d3 (v := Value.string x.name) rfl
          have e25 := hfx.ev (j := 11) (d := 25) rfl rfl d11 (v := Value.slice A' (n0 + 1) c') rfl
          have hsz : 12 < listed.size := (Array.getElem?_eq_some_iff.1 hl).1
          rw [wof3_3 (Array.getElem?_setIfInBounds_self_of_lt hsz)] at hK
          rw [wof3_2 (by rw [hl]; simp) d11]
          have hrun := HUPD.out
          refine wp_skip (v := undef) rfl ?_ hK
          go_simp
      case fin =>
        rw [wof3_3 (by simp)]
        simp [fxFin, List.range_succ, Act.put]
        have HR : Hid (GR w b (ms.take (k + 1)) W3) := Lib.hid (by rw [← HTK.out]; exact HGN.out)
        clear HLK0 HLK1 HAPP HUPD HT0 HT1 HTA HX0 HX1 HXA HW0 HW1 HGN HX2 HT2 HS2
        go_wp2_with fail
        go_roundw
        case rel => exact ⟨k + 1, by omega, by go_num, HR, HS3, HTB, HB3⟩
        case measure => simp [intOf]; omega
    · have hke : k = ms.length := by omega
      subst hke
      have hg : GR w b ms wr := by
        have := HG.out
        rw [List.take_of_length_le (Nat.le_refl _)] at this
        exact this
      have c0 := HS.out.cell 0
      have f0 := HS.out.free 0
      have d0 := HT.out.cell 0
      have HE := Lib.hid (hg.setCell HS.out (by decide) (Nat.le_refl _) HB.out (.map (some b))).set
      have HB4 : Hid (Below w.heap.size w (wr.setCell ⟨w.heap.size, 0, none⟩ (.map (some b)))) := Lib.hid (HB.out.setCell (p := ⟨w.heap.size, 0, none⟩) (Nat.le_refl _) _)
      have HS4 := Lib.hid (HS.out.set 0 (.map (some b)))
      clear hg HG
      go_wp2_with fail
      refine bodyPost_ret (results_rowM rfl _ _ w.heap.size 65 _ _ rfl HS4.out Tryz.underlying65 rfl size_set_) rfl ⟨⟨b, rfl, HE.out⟩, HB4.out⟩
end Go.Proofs.YthckgmbadmilfaaGreat
