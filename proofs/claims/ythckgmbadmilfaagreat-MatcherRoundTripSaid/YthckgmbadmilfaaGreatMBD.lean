/- Walks: slices.Compact over matchers that a call has laid. -/
import Derived.Test.YthckgmbadmilfaaGreatMBC
import Derived.StillTactics
namespace Go.Proofs.YthckgmbadmilfaaGreat
open Go.RowKit

theorem dd_id {L : List Mt} (h : ∀ j, 0 < j → j < L.length → L[j]? ≠ L[j - 1]?) : ddM L = L := by
  unfold ddM
  rw [ddN_take _ (Nat.le_refl _) h, List.take_length]
theorem getD_some {L : List Mt} {i : Nat} (h : i < L.length) : L.getD i Mt.zero = L[i] := by rw [List.getD_eq_getElem?_getD, List.getElem?_eq_getElem h]; rfl
theorem zero_mt (w : World) : (zeroValue 39).run Tryz.prog w = .ok (.agg #[.int .i64 0, .string ⟨#[]⟩, .string ⟨#[]⟩]) w := by kernel_rfl
theorem zeroCells_one (n : Nat) : ∀ v ∈ (Builtin.zeroCells #[.int .i64 0, .string ⟨#[]⟩, .string ⟨#[]⟩] n).toList, v.oneCell' = true := by
  intro v hv
  unfold Builtin.zeroCells at hv
  simp at hv
  obtain ⟨i, _, rfl⟩ := hv
  have : i % 3 = 0 ∨ i % 3 = 1 ∨ i % 3 = 2 := by omega
  rcases this with h | h | h <;> rw [h] <;> rfl
theorem run_clearM {w : World} {g n k c : Nat} {R : Nat → Mt} (h : RowF w g n R) (hk : k < n) (ty : TypeId) : ∃ w', (Builtin.clear_ #[22] ty #[.slice (some ⟨g, k * 3, none⟩) (n - k) c]).run Tryz.prog w = .ok (.tuple #[]) w' ∧ Keep g w w' ∧ RowF w' g k R := by
  obtain ⟨zs, hzs⟩ : ∃ zs, (Builtin.zeroCells #[.int .i64 0, .string ⟨#[]⟩, .string ⟨#[]⟩] (n - k)).toList = zs := ⟨_, rfl⟩
  have hl : zs.length = (n - k) * 3 := by rw [← hzs]; simp [Builtin.zeroCells]
  have h1 : ∀ v ∈ zs, v.oneCell' = true := by rw [← hzs]; exact zeroCells_one _
  have hs : ∀ j, j < zs.length → (w.cell? ⟨g, k * 3 + 0 + j, none⟩).isSome = true := fun j hj => by
    rw [hl] at hj
    have e : k * 3 + 0 + j = (k + j / 3) * 3 + j % 3 := by omega
    have hi : k + j / 3 < n := by omega
    rw [e]
    have : j % 3 = 0 ∨ j % 3 = 1 ∨ j % 3 = 2 := by omega
    rcases this with hj3 | hj3 | hj3 <;> rw [hj3]
    · rw [Nat.add_zero, h.c0 _ hi]; rfl
    · rw [h.c1 _ hi]; rfl
    · rw [h.c2 _ hi]; rfl
  have hrun := run_storeCells_cells (P := Tryz.prog) g (k * 3) zs 0 w hs (fun j _ => h.free _) h1
  have hout : ∀ i j, j < 3 → i < k → (w.setCells g (k * 3 + 0) zs).cell? ⟨g, i * 3 + j, none⟩ = w.cell? ⟨g, i * 3 + j, none⟩ := fun i j hj hi => by
    refine World.cell?_setCells_out g _ _ _ _ fun _ _ => ?_
    show i * 3 + j < k * 3 + 0 ∨ _
    omega
  refine ⟨w.setCells g (k * 3 + 0) zs, ?_, keep_setCells _ _ _, fun i hi => ?_, fun i hi => ?_, fun i hi => ?_, fun j => by rw [frozen_setCells]; exact h.free j⟩
  · obtain ⟨q, hq⟩ : ∃ q, n - k = q + 1 := ⟨n - k - 1, by omega⟩
    rw [hq] at hzs ⊢
    unfold Builtin.clear_
    simp only [List.getElem?_toArray, List.getElem?_cons_zero, Sem.run_bind, Sem.run_pure, Result.andThen_ok, run_underlying Tryz.underlying22, zero_mt]
    rw [show (Value.agg #[.int .i64 0, .string ⟨#[]⟩, .string ⟨#[]⟩]).cells = #[.int .i64 0, .string ⟨#[]⟩, .string ⟨#[]⟩] from rfl, hzs, hrun]
    rfl
  · rw [← h.c0 i (by omega)]; exact hout i 0 (by omega) hi
  · rw [← h.c1 i (by omega)]; exact hout i 1 (by omega) hi
  · rw [← h.c2 i (by omega)]; exact hout i 2 (by omega) hi
theorem wpList_clearM {ops : Array Oper} {rest : List Oper} {o : Oper} {a : Act} {w : World} {Q : Exit → Act → World → Prop} {g n k c : Nat} {R : Nat → Mt} (hgd : o.guard = none) (x : Operand) (ho : o.op = .call { callee := .builtin .clear, args := #[x], argTypes := #[22] })
    (h : RowF w g n R) (hk : k < n) (hx : a.eval x = .slice (some ⟨g, k * 3, none⟩) (n - k) c) (K : ∀ w', Keep g w w' → RowF w' g k R → wpList Tryz.prog ops Q rest (a.put o.dst (.tuple #[])) w') : wpList Tryz.prog ops Q (o :: rest) a w := by
  refine wpList_plain hgd fun K' hK => ?_
  obtain ⟨w', hr, h1, h2⟩ := run_clearM (c := c) h hk o.type
  unfold Oper.wp execOp
  simp only [ho, resolve, invoke, builtin, Sem.run_bind, Sem.run_pure, Result.andThen_ok, List.map_toArray, List.map_cons, List.map_nil, hx, hr]
  exact hK _ _ (K w' h1 h2)
theorem RowF.mts {w : World} {g k : Nat} {R : Nat → Mt} {L : List Mt} (h : RowF w g k R) (hg : g < w.heap.size) (hl : L.length = k) (hR : ∀ t (ht : t < L.length), R t = L[t]) : MtsIn w.heap.size w (some ⟨g, 0, none⟩) L := fun t ht => by
  rw [List.length_map] at ht
  refine ⟨g, 0, rfl, hg, fun j hj => ?_⟩
  rw [Nat.zero_add, List.getElem_map]
  have hx := hR t ht
  have : j = 0 ∨ j = 1 ∨ j = 2 := by omega
  rcases this with rfl | rfl | rfl
  · rw [Nat.add_zero, h.c0 t (by omega), hx]; rfl
  · rw [h.c1 t (by omega), hx]; rfl
  · rw [h.c2 t (by omega), hx]; rfl
set_option maxRecDepth 100000 in
set_option maxHeartbeats 2000000 in
theorem compact_any {W w : World} {A : Option Addr} {n c : Nat} {ms : List Mt} (h : SR W 39 3 A n c (ms.map Mt.cells) w) (hl : n ≤ 100000) :
    Calls Tryz.prog 50 #[.slice A n c] w fun e w' => (∃ A' n' c', e = .returned (.slice A' n' c') ∧ n' = (ddM ms).length ∧ MtsIn w'.heap.size w' A' (ddM ms)) ∧ Below W.heap.size W w' := by
  have hn : ms.length = n := by have := h.len; rwa [List.length_map] at this
  by_cases h2 : n < 2
  · have e : ddM ms = ms := dd_id fun j h3 h4 => by omega
    have HM := Lib.hid (show MtsIn w.heap.size w A ms from h.rd)
    have HB := Lib.hid h.below
    have HN := Lib.hid hn
    clear h hn
    go_enter Tryz.func50, Tryz.ntmps50
    go_wp2_with fail
    go_ret
    refine ⟨⟨A, n, c, rfl, by rw [e, HN.out], ?_⟩, HB.out⟩
    rw [e]
    exact HM.out
  · rcases h.row.2 with ⟨_, h0⟩ | ⟨g, cap, cur, e, hg, hb, hrest⟩
    · omega
    injection e with e1 _ e3
    subst e1 e3
    have HRF := Lib.hid h.rowF
    have HB := Lib.hid h.below
    have HM := Lib.hid (show MtsIn w.heap.size w (some ⟨g, 0, none⟩) ms from h.rd)
    have HG := Lib.hid hg
    have HN := Lib.hid hn
    have hnc : n ≤ c := hrest.1
    clear h hb hrest hg
    clear cur
    go_enter Tryz.func50, Tryz.ntmps50
    go_wp2_with fail
    go_loopw [3] (fun i wr => ∃ k : Nat, 1 ≤ k ∧ k ≤ n ∧ i = .int .i64 k ∧ Hid (∀ j, 0 < j → j < k → ms[j]? ≠ ms[j - 1]?) ∧ Hid (∃ q, wr = w.drewN q)) (fun i _ => n - (intOf i).toNat)
    case atStart => exact ⟨1, by omega, by omega, rfl, Lib.hid (fun j h3 h4 => by omega), Lib.hid ⟨0, rfl⟩⟩
    case round =>
      obtain ⟨k, h1k, hk, rfl, HD, HW⟩ := hrel
      by_cases hlt : k < n
      · obtain ⟨i, rfl⟩ : ∃ i, k = i + 1 := ⟨k - 1, by omega⟩
        obtain ⟨q, hq⟩ := HW.out
        have HRW : Hid (RowF wr g n fun i => ms.getD i Mt.zero) := Lib.hid (by rw [hq]; exact HRF.out.drewN q)
        have HWD : Hid (wr.drew = w.drewN (q + 1)) := Lib.hid (by rw [hq]; exact World.drewN_drewN _ _ _)
        have a0 := HRW.out.c0 (i + 1) hlt
        have a1 := HRW.out.c1 (i + 1) hlt
        have a2 := HRW.out.c2 (i + 1) hlt
        have b0 := HRW.out.c0 i (by omega)
        have b1 := HRW.out.c1 i (by omega)
        have b2 := HRW.out.c2 i (by omega)
        have HX : Hid (ms[i + 1]? = some (ms.getD (i + 1) Mt.zero)) := Lib.hid (by rw [getD_some (by omega), List.getElem?_eq_getElem])
        have HY : Hid (ms[i]? = some (ms.getD i Mt.zero)) := Lib.hid (by rw [getD_some (by omega), List.getElem?_eq_getElem])
        have hci : ¬ c = i + 1 := by omega
        have g1 : (0 : Int) ≤ ((i + 1 : Nat) : Int) - 1 := by omega
        have g2 : ((i + 1 : Nat) : Int) - 1 = (i : Int) := by omega
        generalize ms.getD (i + 1) Mt.zero = x at *
        generalize ms.getD i Mt.zero = y at *
        have HKW : Hid (Keep g w wr) := Lib.hid (by rw [hq]; exact (Keep.refl g w).drewN q)
        clear hq
        have HEQ := Lib.hid (eqM x y)
        by_cases hxy : x = y
        · subst hxy
          go_wp2_with fail
          have HDD : Hid (ddN ms (i + 1) = ms.take (i + 1)) := Lib.hid (ddN_take _ (by omega) HD.out)
          have HD2 : Hid (ddN ms (i + 1 + 1) = ms.take (i + 1)) := Lib.hid (by rw [ddN_eq (by omega) (by rw [HX.out]; exact HY.out.symm), HDD.out])
          go_quiet (fail)
          clear a0 a1 a2 b0 b1 b2 HX HY HEQ
          clear HD
          go_wp2_with fail
          go_loopw [3, 5] (fun i2 i3 wr2 => ∃ (kk j : Nat), 1 ≤ j ∧ j ≤ n - (i + 1) ∧ kk ≤ i + j ∧ i + 1 ≤ kk ∧ i2 = .int .i64 kk ∧ i3 = .int .i64 j ∧ Hid ((ddN ms (i + 1 + j)).length = kk) ∧ Hid (Keep g w wr2) ∧ Hid (∃ R, RowF wr2 g n R ∧ (∀ t (ht : t < (ddN ms (i + 1 + j)).length), R t = (ddN ms (i + 1 + j))[t]) ∧ ∀ t, kk ≤ t → t < n → R t = ms.getD t Mt.zero)) (fun _ i3 _ => n - (intOf i3).toNat)
          case atStart =>
            refine ⟨i + 1, 1, by omega, by omega, by omega, by omega, rfl, rfl, Lib.hid ?_, Lib.hid (HKW.out.drewN _), Lib.hid ⟨_, HRW.out.drewN _, fun t ht => ?_, fun t _ _ => rfl⟩⟩
            · rw [HD2.out, List.length_take]
              have := HN.out; omega
            · have hn := HN.out
              have e : t < ms.length := by rw [HD2.out, List.length_take] at ht; omega
              simp only [HD2.out, List.getElem_take]
              exact getD_some e
          case round =>
            obtain ⟨kk, j, h1j, hj, hkk, hkk2, rfl, rfl, HLEN, HK2, HR2⟩ := hrel
            by_cases hlt2 : j < n - (i + 1)
            · obtain ⟨R, hrf, hR1, hR2⟩ := HR2.out
              have HRF2 := Lib.hid hrf
              have HR1 := Lib.hid hR1
              have HR3 := Lib.hid hR2
              have hX : R (i + 1 + j) = ms.getD (i + 1 + j) Mt.zero := hR2 _ (by omega) (by omega)
              have hY : R (i + j) = ms.getD (i + j) Mt.zero := hR2 _ (by omega) (by omega)
              obtain ⟨v, hv⟩ : ∃ v, R (i + 1 + j) = v := ⟨_, rfl⟩
              obtain ⟨z, hz⟩ : ∃ z, R (i + j) = z := ⟨_, rfl⟩
              have e1 : (i + 1 + j) * 3 = (i + 1) * 3 + j * 3 := by omega
              have e2 : (i + j) * 3 = (i + 1) * 3 + (j - 1) * 3 := by omega
              have a0 := hrf.c0 (i + 1 + j) (by omega)
              have a1 := hrf.c1 (i + 1 + j) (by omega)
              have a2 := hrf.c2 (i + 1 + j) (by omega)
              have b0 := hrf.c0 (i + j) (by omega)
              have b1 := hrf.c1 (i + j) (by omega)
              have b2 := hrf.c2 (i + j) (by omega)
              rw [hv, e1] at a0 a1 a2
              rw [hz, e2] at b0 b1 b2
              have HXv : Hid (ms[i + 1 + j]? = some v) := Lib.hid (by rw [← hv, hX, getD_some (by omega), List.getElem?_eq_getElem])
              have HYz : Hid (ms[i + j]? = some z) := Lib.hid (by rw [← hz, hY, getD_some (by omega), List.getElem?_eq_getElem])
              have HRF2 := Lib.hid hrf
              have HR1 := Lib.hid hR1
              have HR3 := Lib.hid hR2
              clear hrf hR1 hR2 HR2 e1 e2 hX hY hv hz
              have g3 : (0 : Int) ≤ (j : Int) - 1 := by omega
              have g4 : ((j : Nat) : Int) - 1 = ((j - 1 : Nat) : Int) := by omega
              generalize hj1 : j - 1 = j1 at *
              have hj3 : j = j1 + 1 := by omega
              clear hj1 g3 g4
              subst hj3
              have HEQ := Lib.hid (eqM v z)
              by_cases hvz : v = z
              · subst hvz
                have HDD : Hid (ddN ms (i + 1 + (j1 + 1) + 1) = ddN ms (i + 1 + (j1 + 1))) := Lib.hid (ddN_eq (by omega) (by rw [HXv.out, show i + 1 + (j1 + 1) - 1 = i + (j1 + 1) from by omega]; exact HYz.out.symm))
                go_wp2_with fail
                go_quiet (fail)
                clear a0 a1 a2 b0 b1 b2 HXv HYz HEQ
                go_wp2_with fail
                refine ⟨⟨kk, j1 + 1 + 1, by omega, by omega, by omega, hkk2, rfl, rfl, Lib.hid ?_, Lib.hid (HK2.out.drewN _), Lib.hid ⟨R, HRF2.out.drewN _, fun t ht => ?_, HR3.out⟩⟩, by simp only [intOf]; omega⟩
                · exact (congrArg List.length HDD.out).trans HLEN.out
                · have e : ddN ms (i + 1 + (j1 + 1 + 1)) = ddN ms (i + 1 + (j1 + 1)) := HDD.out
                  simp only [e]
                  exact HR1.out t (by rw [← e]; exact ht)
              · have HDD : Hid (ddN ms (i + 1 + (j1 + 1) + 1) = ddN ms (i + 1 + (j1 + 1)) ++ [v]) := Lib.hid (by
                  rw [ddN_ne (by omega) (by rw [HXv.out, show i + 1 + (j1 + 1) - 1 = i + (j1 + 1) from by omega, HYz.out]; exact fun h => hvz (Option.some.inj h.2))]
                  have h5 := HXv.out
                  rw [List.getElem?_eq_getElem (by omega)] at h5
                  rw [Option.some.inj h5])
                have HE2 := HEQ.out
                rw [decide_eq_false hvz] at HE2
                obtain ⟨q1, hq1⟩ : ∃ b, (v.kind == z.kind) = b := ⟨_, rfl⟩
                obtain ⟨q2, hq2⟩ : ∃ b, (v.name.toList == z.name.toList) = b := ⟨_, rfl⟩
                obtain ⟨q3, hq3⟩ : ∃ b, (v.value.toList == z.value.toList) = b := ⟨_, rfl⟩
                rw [hq1, hq2, hq3] at HE2
                clear HEQ
                have HE3 := Lib.hid HE2
                clear HE2
                cases q1 <;> cases q2 <;> cases q3
                case true.true.true => exact absurd HE3.out (by decide)
                all_goals
                  clear HE3
                  go_wp2_with fail
                  go_quiet (fail)
                  clear b0 b1 b2 HXv HYz hq1 hq2 hq3
                  have k0 := HRF2.out.c0 kk (by omega)
                  have k1 := HRF2.out.c1 kk (by omega)
                  have k2 := HRF2.out.c2 kk (by omega)
                  have fr := HRF2.out.free
                  go_wp2_with fail
                  have hkl : kk = (ddN ms (i + 1 + (j1 + 1))).length := HLEN.out.symm
                  have hd2 : ddN ms (i + 1 + (j1 + 1 + 1)) = ddN ms (i + 1 + (j1 + 1)) ++ [v] := HDD.out
                  refine ⟨⟨kk + 1, j1 + 1 + 1, by omega, by omega, by omega, by omega, rfl, rfl, Lib.hid ?_, Lib.hid ((HK2.out.drewN nq).trans (keep_setCells [.int .i64 v.kind, .string v.name, .string v.value] (kk * 3) _)), Lib.hid ⟨fun t => if t = kk then v else R t, (HRF2.out.drewN nq).set (by omega) v, fun t ht => ?_, fun t ht1 ht2 => ?_⟩⟩, by simp only [intOf]; omega⟩
                  · rw [hd2, List.length_append, ← hkl]; rfl
                  · simp only [hd2] at ht ⊢
                    rw [List.length_append, ← hkl] at ht
                    by_cases e : t = kk
                    · subst e
                      rw [if_pos rfl]
                      simp [← hkl]
                    · have : t < (ddN ms (i + 1 + (j1 + 1))).length := by simp at ht; omega
                      rw [if_neg e, List.getElem_append_left this]
                      exact HR1.out t this
                  · show (if t = kk then v else R t) = _
                    rw [if_neg (by omega)]
                    exact HR3.out t (by omega) ht2
            · have hj2 : i + 1 + j = n := by omega
              have hkn : kk < n := by omega
              obtain ⟨R, hrf, hR1, hR2⟩ := HR2.out
              have HRF2 := Lib.hid hrf
              have HR1 : Hid (∀ t (ht : t < (ddM ms).length), R t = (ddM ms)[t]) := Lib.hid (by
                have e : ddM ms = ddN ms (i + 1 + j) := by unfold ddM; rw [hn, hj2]
                simp only [e]
                exact hR1)
              have HL2 : Hid (kk = (ddM ms).length) := Lib.hid (by unfold ddM; rw [hn, ← hj2]; exact HLEN.out.symm)
              clear hrf hR1 hR2 HR2 HLEN
              go_wp2_with (refine wpList_clearM rfl (.tmp 56) rfl HRF2.out hkn rfl fun w5 HK5 HRF5 => ?_)
              go_ret
              have hk5 : Keep g w w5 := HK2.out.trans HK5
              have hgw : g < w.heap.size := by
                obtain ⟨b, o, e, hb, _⟩ := HM.out.at_ 0 (by have := HN.out; omega)
                injection e with e
                injection e with e1
                omega
              refine ⟨⟨some ⟨g, 0, none⟩, kk, c, rfl, HL2.out, HRF5.mts (Nat.lt_of_lt_of_le hgw hk5.size) HL2.out.symm fun t ht => HR1.out t ht⟩, HB.out.trans (hk5.toBelow HG.out HB.out.size)⟩
        · have HE2 := HEQ.out
          rw [decide_eq_false hxy] at HE2
          obtain ⟨q1, hq1⟩ : ∃ b, (x.kind == y.kind) = b := ⟨_, rfl⟩
          obtain ⟨q2, hq2⟩ : ∃ b, (x.name.toList == y.name.toList) = b := ⟨_, rfl⟩
          obtain ⟨q3, hq3⟩ : ∃ b, (x.value.toList == y.value.toList) = b := ⟨_, rfl⟩
          rw [hq1, hq2, hq3] at HE2
          have HE3 := Lib.hid HE2
          clear HE2 HEQ
          have HNE : Hid (ms[i + 1]? ≠ ms[i]?) := Lib.hid (by rw [HX.out, HY.out]; exact fun h => hxy (Option.some.inj h))
          cases q1 <;> cases q2 <;> cases q3
          case true.true.true => exact absurd HE3.out (by decide)
          all_goals
            clear HE3
            go_wp2_with fail
            go_quiet (fail)
            clear a0 a1 a2 b0 b1 b2 HX HY hq1 hq2 hq3
            go_wp2_with fail
            refine ⟨⟨i + 1 + 1, by omega, by omega, rfl, Lib.hid fun t h3 h4 => ?_, Lib.hid ?_⟩, by simp only [intOf]; omega⟩
            · by_cases e : t = i + 1
              · subst e; exact HNE.out
              · exact HD.out t h3 (by omega)
            · obtain ⟨q', e⟩ := HW.out
              exact ⟨_, by rw [e, World.drewN_drewN]⟩
      · have hk2 : k = n := by omega
        subst hk2
        have e : ddM ms = ms := dd_id fun j h3 h4 => HD.out j h3 (by have := HN.out; omega)
        obtain ⟨q, rfl⟩ := HW.out
        go_wp2_with fail
        go_ret
        refine ⟨⟨some ⟨g, 0, none⟩, k, c, rfl, by rw [e, HN.out], ?_⟩, bN HB.out q⟩
        rw [e]
        exact HM.out.drewN q
end Go.Proofs.YthckgmbadmilfaaGreat
