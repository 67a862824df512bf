/- The reference's walks: expression. -/
import Derived.Test.YthckgmbadmilfaaGreatMBN
import Derived.Test.YthckgmbadmilfaaGreatMAF
import Derived.Test.YthckgmbadmilfaaGreatMAN
namespace Go.Proofs.YthckgmbadmilfaaGreat
open Go.RowKit Rx
/-- A factor with a byte behind it. -/
def qU (c : UInt8) (u : U) : U := if c = 42 then .star u else if c = 43 then .plus u else .opt u
def isQ (c : UInt8) : Prop := c = 42 ∨ c = 43 ∨ c = 63
theorem quant_yes {c : UInt8} (h : isQ c) (u : U) (r : List UInt8) : quant u (c :: r) = (qU c u, r) := by rcases h with rfl | rfl | rfl <;> rfl
theorem quant_no {u : U} {l : List UInt8} (h : ∀ c r, l = c :: r → ¬ isQ c) : quant u l = (u, l) := quant_other fun c r e => by
  have := h c r e
  exact ⟨fun e => this (.inl e), fun e => this (.inr (.inl e)), fun e => this (.inr (.inr e))⟩
theorem rrep_any (c : UInt8) (hc : isQ c) (u : U) (x : Array Value) (S : Nat → Prop) (w : World) (hx : RnU S w u x) (hS : ∀ k, S k → k < w.heap.size) :
    Calls Tryz.prog 154 #[.agg x, .int .u8 c.toNat] w fun e w' => Below w.heap.size w w' ∧ ∃ q, e = .returned (.agg q) ∧ NV q ∧ RnU (fun k => S k ∨ Fresh w w' k) w' (qU c u) q := by
  have hmove : ∀ w', Below w.heap.size w w' → RnU (fun k => S k ∨ Fresh w w' k) w' u x := fun w' hb => RnU.same (fun k hk => hb.block k (hS k hk)) (fun k hk => .inl hk) u x hx
  rcases hc with rfl | rfl | rfl
  · refine (rrep_star w x hx.nv).mono ?_
    rintro e w' ⟨hb, sv, rfl, hr⟩
    exact ⟨hb, _, rfl, NV.node _ _ _ _ hr.one, by unfold qU; rw [if_pos rfl]; unfold RnU; exact ⟨sv, x, rfl, hr.same (fun _ _ => rfl) (fun k hk => .inr hk), hmove w' hb⟩⟩
  · refine (rrep_plus w x hx.nv).mono ?_
    rintro e w' ⟨hb, sv, rfl, hr⟩
    exact ⟨hb, _, rfl, NV.node _ _ _ _ hr.one, by unfold qU; rw [if_neg (by decide), if_pos rfl]; unfold RnU; exact ⟨sv, x, rfl, hr.same (fun _ _ => rfl) (fun k hk => .inr hk), hmove w' hb⟩⟩
  · refine (rrep_opt w x hx.nv).mono ?_
    rintro e w' ⟨hb, sv, rfl, hr⟩
    exact ⟨hb, _, rfl, NV.node _ _ _ _ hr.one, by unfold qU; rw [if_neg (by decide), if_neg (by decide)]; unfold RnU; exact ⟨sv, x, rfl, hr.same (fun _ _ => rfl) (fun k hk => .inr hk), hmove w' hb⟩⟩
theorem built5 (k : Int) : Tryz.zeroCells112.setIfInBounds 0 (.int .i64 k) = nodeC k noF false nilS := by rw [zero_node, nodeC_setKind]
theorem info_node3 : (Tryz.prog.info? 112).map (fun i => (i.zero, i.size, i.bytes)) = some (some (.agg Tryz.zeroCells112), 259, 296) := by kernel_rfl
theorem node_zs : (Value.agg Tryz.zeroCells112).cells.size = 259 := by show Tryz.zeroCells112.size = 259; rw [zero_node, nodeC_size]
theorem nv_news {x : Array Value} (h : NV x) : x.toList.length = 1 * 259 ∧ ∀ u ∈ x.toList, u.oneCell' = true := by
  refine ⟨by rw [Array.length_toList, h.size], fun u hu => ?_⟩
  exact (Array.all_eq_true_iff_forall_mem.1 h.one) u (by simpa using hu)
theorem news_one {wm w0 : World} {x : Array Value} (h : wm = w0.alloc (.cells (flat [x]).toArray 112)) : ∀ j u, x.toList[j]? = some u → wm.cell? ((⟨w0.heap.size, 0, none⟩ : Addr).add j) = some u := fun j u hj => by
  have e : (⟨w0.heap.size, 0, none⟩ : Addr).add j = ⟨w0.heap.size, j, none⟩ := by unfold Addr.add; split <;> simp_all
  rw [e, h, (At.new w0 _ _).cell]
  simpa [flat] using hj
theorem len_nodes {n : Nat} (h : n ≤ 1001) : n + 1 ≤ maxLen ∧ (n + 1) * 296 ≤ 140737488355328 := by unfold maxLen; omega
section
variable {W : World} {A : Nat} {ss : List Ss} {d : Ss} {wr w2 : World} {p q : Value} {xs ys : List (Array Value)}
theorem EIn.nest (h : EIn W A ss d wr p q xs ys) {k : Nat} (h1 : wr.heap.size ≤ k) (h2 : k < w2.heap.size) : Nest A w2 p q k :=
  ⟨Nat.le_trans h.size h1, h2, fun e => by have := (h.o1 k e).2; omega, fun e => by have := (h.o2 k e).2; omega⟩
/-- All is read: the node that is handed back. -/
theorem EIn.done {wm w3 w4 : World} {p' : Value} (h : EIn W A ss d wr p q xs ys) (hA : A = W.heap.size) (hb : Below wr.heap.size wr wm)
    (hown : w3.ownsRow 0 112 259 p' (xs.length + 1) (flat xs ++ (nodeC 2 noF false q).toList)) (hgrow : wm.grownBy w3 p.ownBlock) (hwh : p'.ownBlock = p.ownBlock ∨ ∃ g, p'.ownBlock = some g ∧ wm.heap.size ≤ g ∧ g < w3.heap.size)
    (hw4 : w4 = w3.setCell ⟨A + 1, 258, none⟩ p') : At w4 (A + 1) (nodeC 3 noF false p') 112 ∧ At w4 A (nodeC 0 noF false nilS) 112 ∧ Below W.heap.size W w4 ∧ p'.oneCell' = true ∧
      ∀ y, RnU (Fresh W (w4.setRow A y)) (w4.setRow A y) (.grp (ahd ss (.one d))) (nodeC 3 noF false p') := by
  have hp := h.push hb hown hgrow hwh hw4
  have e1 : ∀ k, k ≠ A + 2 → (w4.setRow (A + 2) (nodeC 2 noF false nilS)).heap[k]? = w4.heap[k]? := fun k hk => setRow_other w4 _ _ _ hk
  have hs4 : (w4.setRow (A + 2) (nodeC 2 noF false nilS)).heap.size = w4.heap.size := size_setRow _ _ _
  refine ⟨⟨by rw [← e1 (A + 1) (by omega)]; exact hp.b.out⟩, ⟨by rw [← e1 A (by omega)]; exact hp.a.out⟩, ?_, one_row hown, fun y => ?_⟩
  · have hb4 := hp.below
    subst hA
    exact ⟨hb4.os, hb4.tape, hb4.output, by rw [← hs4]; exact hb4.size, fun k hk => by rw [← e1 k (by omega)]; exact hb4.block k hk⟩
  · have hsz := hp.size
    have hblk : ∀ k, A + 3 ≤ k → (w4.setRow A y).heap[k]? = (w4.setRow (A + 2) (nodeC 2 noF false nilS)).heap[k]? := fun k hk => by
      rw [setRow_other w4 _ _ _ (by omega), e1 k (by omega)]
    have hys : (w4.setRow A y).heap.size = w4.heap.size := size_setRow _ _ _
    have hfr : ∀ k, A + 3 ≤ k → k < (w4.setRow (A + 2) (nodeC 2 noF false nilS)).heap.size → Fresh W (w4.setRow A y) k := fun k h1 h2 => ⟨by omega, by rw [hys, ← hs4]; exact h2⟩
    unfold RnU
    refine ⟨p', xs ++ [nodeC 2 noF false q], rfl, ⟨?_, RnL.nv _ _ hp.n1, fun g hg => hfr g (hp.o1 g hg).1 (hp.o1 g hg).2⟩, RnL.toA ss _ ?_⟩
    · exact owns_same hp.r1 (S := fun k => p'.ownBlock = some k) (fun g hg => hg) (fun k hk => hblk k (hp.o1 k hk).1)
    · exact RnL.same (fun k hk => hblk k hk.1) (fun k hk => hfr k hk.1 hk.2.1) _ _ hp.n1
end
theorem where_g {w3 wm : World} {v v' : Value} {n : Nat} {xs : List Value} (hown : w3.ownsRow 0 112 259 v' n xs) (h : v'.ownBlock = v.ownBlock ∨ v'.ownBlock = some wm.heap.size) : v'.ownBlock = v.ownBlock ∨ ∃ g, v'.ownBlock = some g ∧ wm.heap.size ≤ g ∧ g < w3.heap.size := by
  rcases h with h | h
  · exact .inl h
  · exact .inr ⟨_, h, Nat.le_refl _, (hown.lt _ h).2⟩

set_option maxRecDepth 100000 in
set_option maxHeartbeats 16000000 in
theorem rexp_ok (n : Nat) (hA : ∀ m, m < n → RAtomOK m) : RExpOK n := by
  intro W s i l hs hrp hfu
  obtain ⟨n, rfl⟩ : ∃ k, n = k + 1 := ⟨n - 1, by omega⟩
  obtain ⟨i0, hi, hz0, hz1, hz2⟩ := info_parts info_node3
  have HI := Lib.hid hi
  have HZ0 := Lib.hid hz0
  have HZ1 := Lib.hid hz1
  have HZ2 := Lib.hid hz2
  have HZS := Lib.hid node_zs
  have HZ := Lib.hid zero_node
  obtain ⟨R, hR⟩ : ∃ R, grpRes (alts (n + 1) l) = R := ⟨_, rfl⟩
  rw [hR]
  have HRS : Hid (R = grpRes (expRest n n [] .nil l)) := Lib.hid (by rw [← hR, alts_rest])
  have HAT := Lib.hid hA
  have HS := Lib.hid hs
  have HL := Lib.hid hrp
  have HFU : Hid (4 * l.length + 2 ≤ n) := Lib.hid (by omega)
  have hsl : (s.size : Int) ≤ 1000 := by omega
  have HB3 := Lib.hid (built5 3)
  have HB2 := Lib.hid (built5 2)
  clear hi hz0 hz1 hz2 hR hA hs hrp hfu
  go_enter Tryz.func135, Tryz.ntmps135
  go_wp2_with (refine wpList_store_at6 rfl 112 (.tmp 7) (.tmp 12) rfl (W.heap.size + 1) _ rfl rfl 112 _ (at_two W _ _ _ _) (by rw [HB3.out]; exact size_nodeC _ _ _ _) (by rw [HB3.out, HZ.out, nodeC_size, nodeC_size]) (by rw [HB3.out]; exact nodeC_one _ _ _ _ rfl) ?_)
  intro w1 hw1
  have h1 : At w1 (W.heap.size + 1) (nodeC 3 noF false nilS) 112 := by rw [hw1.out, HB3.out]; exact (at_two W _ _ _ _).row
  have h2 : At w1 W.heap.size (nodeC 0 noF false nilS) 112 := by
    rw [hw1.out, ← zero_node]
    exact ((At.new W _ _).alloc _).rowOther (by omega)
  have h3 : Below W.heap.size W w1 := by
    rw [hw1.out]
    exact below_row6 (((Below.refl _ _).alloc (Nat.le_refl _) _).alloc (by show W.heap.size ≤ (W.heap.push _).size; simp) _) _ _ (by omega)
  have hs1 : w1.heap.size = W.heap.size + 2 := by rw [hw1.out, size_setRow]; exact two_lt W _ _
  have H1 := Lib.hid h1
  have H2 := Lib.hid h2
  have H3 := Lib.hid h3
  have HS1 := Lib.hid hs1
  have HW1 : Hid (At (w1.alloc (.cells Tryz.zeroCells112 112)) w1.heap.size (nodeC 0 noF false nilS) 112) := Lib.hid (by rw [zero_node]; exact At.new w1 _ _)
  clear hw1 h1 h2 h3 hs1
  go_wp2_with (refine wpList_store_at6 rfl 112 (.tmp 8) (.tmp 13) rfl w1.heap.size _ rfl rfl 112 _ HW1.out (by rw [HB2.out]; exact size_nodeC _ _ _ _) (by rw [HB2.out, nodeC_size, nodeC_size]) (by rw [HB2.out]; exact nodeC_one _ _ _ _ rfl) ?_)
  intro w2 hw2
  have hin : EIn W W.heap.size [] .nil w2 nilS nilS [] [] := by
    have hsz : w2.heap.size = W.heap.size + 3 := by rw [hw2.out, size_setRow]; show (w1.heap.push _).size = _; rw [Array.size_push, HS1.out]
    refine ⟨?_, ?_, ?_, ?_, by omega, World.ownsRow_nil _ _ _ _, World.ownsRow_nil _ _ _ _, fun g hg => (by cases hg), fun g hg => (by cases hg), fun g hg => (by cases hg), rfl, by unfold RnS; rfl⟩
    · rw [hw2.out]; exact (H2.out.alloc _).rowOther (by rw [HS1.out]; omega)
    · rw [hw2.out]; exact (H1.out.alloc _).rowOther (by rw [HS1.out]; omega)
    · rw [← HS1.out, hw2.out, HB2.out]; exact HW1.out.row
    · rw [hw2.out]; exact below_row6 (H3.out.alloc H3.out.size _) _ _ (by rw [HS1.out]; omega)
  have HIN := Lib.hid hin
  clear hw2 hin H1 H2 H3 HW1
  rw [HS1.out]
  clear HS1
  obtain ⟨A, hA⟩ : ∃ A, W.heap.size = A := ⟨_, rfl⟩
  have HA := Lib.hid hA
  rw [hA] at HIN ⊢
  clear hA
  go_wp2_with fail
  go_loopg [1] (s.size + 1 - i) (fun k iv wr => ∃ (j m1 m2 : Nat) (ss : List Ss) (d : Ss) (l : List UInt8) (p q : Value) (xs ys : List (Array Value)), k = s.size + 1 - j ∧ iv = .int .i64 j ∧ RP s j l ∧ (4 * l.length + 2 ≤ m1 ∧ 4 * l.length + 2 ≤ m2 ∧ m1 < n + 1 ∧ m2 < n + 1) ∧ R = grpRes (expRest m1 m2 ss d l) ∧ EIn W A ss d wr p q xs ys ∧ xs.length ≤ j ∧ ys.length ≤ j)
  case atStart => exact ⟨i, n, n, [], .nil, l, nilS, nilS, [], [], rfl, rfl, HL.out, ⟨HFU.out, HFU.out, by omega, by omega⟩, HRS.out, HIN.out, Nat.zero_le _, Nat.zero_le _⟩
  case round =>
    obtain ⟨j, m1, m2, ss, d, l', p, q, xs, ys, hk, rfl, hrp, hfu, hres, hin, hxl, hyl⟩ := hrel
    clear HIN HRS HL HFU
    have HIN := Lib.hid hin
    have HRES := Lib.hid hres
    have HFU := Lib.hid hfu
    have HK := Lib.hid hk
    have hjs := hrp.le
    have hjl : (j : Int) ≤ 1000 := by omega
    have HJS := Lib.hid hjs
    have HXL : Hid (xs.length ≤ 1000) := Lib.hid (by omega)
    have HYL : Hid (ys.length ≤ 1000) := Lib.hid (by omega)
    have HXJ := Lib.hid hxl
    have HYJ := Lib.hid hyl
    obtain ⟨pa, pn, pc, rfl⟩ := owns_slice hin.r1
    obtain ⟨qa, qn, qc, rfl⟩ := owns_slice hin.r2
    have cp : wr.cell? ⟨A + 1, 258, none⟩ = some (.slice pa pn pc) := by rw [hin.b.cell, nodeC_args]
    have cq : wr.cell? ⟨A + 2, 258, none⟩ = some (.slice qa qn qc) := by rw [hin.c.cell, nodeC_args]
    have HRP := Lib.hid hrp
    clear hin hres hfu hk hjs hxl hyl
    rcases l' with _ | ⟨c, r⟩
    · have hje : j = s.size := hrp.nil
      have HYES : Hid (R = some (U.grp (ahd ss (.one d)), [])) := Lib.hid (by
        obtain ⟨k, hk⟩ : ∃ k, m1 = k + 1 := ⟨m1 - 1, by have := HFU.out; omega⟩
        rw [HRES.out, hk, exp_end k m2 ss d [] (.inl rfl)]; rfl)
      have t1 : ¬ (j : Int) < (s.size : Int) := by omega
      have t1n : ¬ j < s.size := by omega
      have HPJ : Hid (j + ([] : List UInt8).length = s.size ∧ (bs s).drop j = []) := Lib.hid ⟨hrp.len, hrp.rest⟩
      clear hrp hje
      go_wp2_with (first | (refine wpList_load_at rfl 112 (.tmp 8) rfl (A + 2) rfl 112 _ _ HIN.out.c Tryz.underlying112 rfl (size_nodeC _ _ _ _) ?_) | (refine wpList_nodes rfl _ _ rfl [(nodeC 2 noF false (.slice qa qn qc))] (fun y hy => by rw [List.mem_singleton] at hy; subst hy; exact NV.node _ _ _ _ rfl) rfl (by decide) (by decide) ?_ ?_))
      intro wm HWM
      have hbm : Below wr.heap.size wr wm := by rw [HWM.out]; exact (Below.refl _ _).alloc (Nat.le_refl _) _
      have HINm := Lib.hid (HIN.out.keep hbm)
      have HBM := Lib.hid hbm
      clear hbm
      go_wp2_with (at_builtin; (refine wpList_append_where _ rfl (.tmp 109) (.tmp 111) 110 rfl 112 i0 _ 259 296 Tryz.underlying110 HI.out HZ0.out HZ1.out HZ2.out HZS.out (by decide) (.slice pa pn pc) xs.length (flat xs) rfl HINm.out.r1 ⟨wr.heap.size, 0, none⟩ 1 1 (nodeC 2 noF false (.slice qa qn qc)).toList rfl (by decide) (nv_news (NV.node _ _ _ _ rfl)).1 (news_one HWM.out) (nv_news (NV.node _ _ _ _ rfl)).2 (len_nodes (Nat.le_trans HXL.out (by decide))).1 (len_nodes (Nat.le_trans HXL.out (by decide))).2 ?_))
      intro p' w3 hown hgrow hwh
      have hwg := where_g hown hwh
      have hb3 : At w3 (A + 1) (nodeC 3 noF false (.slice pa pn pc)) 112 := HINm.out.b.grown hgrow (fun e => by have := (HINm.out.o1 _ e).1; omega)
      have hc3 : At w3 (A + 2) (nodeC 2 noF false (.slice qa qn qc)) 112 := HINm.out.c.grown hgrow (fun e => by have := (HINm.out.o1 _ e).1; omega)
      obtain ⟨xa, xn, xc, rfl⟩ := owns_slice hown
      have d0 : w3.cell? ⟨A + 1, 258, none⟩ = some (.slice pa pn pc) := by rw [hb3.cell, nodeC_args]
      have d1 : w3.frozen? ⟨A + 1, 258, none⟩ = false := hb3.free _
      have HD := Lib.hid (HIN.out.done HA.out.symm HBM.out hown hgrow hwg rfl)
      clear hown hgrow hwh hwg hb3 hc3 cp cq
      go_wp2_with (first | (refine wpList_load_at rfl 112 (.tmp 7) rfl (A + 1) rfl 112 _ _ HD.out.1 Tryz.underlying112 rfl (size_nodeC _ _ _ _) ?_) | (refine wpList_store_at6 rfl 112 (.tmp 4) (.tmp 114) rfl A _ rfl rfl 112 _ HD.out.2.1 (size_nodeC _ _ _ _) (by rw [nodeC_size, nodeC_size]) (nodeC_one _ _ _ _ HD.out.2.2.2.1) ?_))
      intro w5 hw5
      have H7 : Hid (At w5 A (nodeC 3 noF false (.slice xa xn xc)) 112) := Lib.hid (by rw [hw5.out]; exact HD.out.2.1.row)
      go_wp2_with fail
      refine bodyPost_ret (results_node3 rfl _ _ A 112 _ _ rfl H7.out Tryz.underlying112 rfl (size_nodeC _ _ _ _)) rfl ?_
      refine RUPost.yes _ j HYES.out ?_ ?_ HPJ.out
      · rw [hw5.out]; exact below_row6 HD.out.2.2.1 _ _ (by rw [HA.out]; exact Nat.le_refl _)
      · rw [hw5.out]; exact HD.out.2.2.2.2 _
    · have hjlt := hrp.lt
      have hget : s[j]'hjlt = c := hrp.get
      have t1 : (j : Int) < (s.size : Int) := by omega
      have HN := Lib.hid hrp.next
      by_cases e41 : c = 41
      · subst e41
        have HYES : Hid (R = some (U.grp (ahd ss (.one d)), 41 :: r)) := Lib.hid (by
          obtain ⟨k, hk⟩ : ∃ k, m1 = k + 1 := ⟨m1 - 1, by have := HFU.out; omega⟩
          rw [HRES.out, hk, exp_end k m2 ss d (41 :: r) (.inr ⟨r, rfl⟩)]; rfl)
        have HPJ : Hid (j + (41 :: r).length = s.size ∧ (bs s).drop j = 41 :: r) := Lib.hid ⟨hrp.len, hrp.rest⟩
        clear hrp
        go_wp2_with (first | (refine wpList_load_at rfl 112 (.tmp 8) rfl (A + 2) rfl 112 _ _ HIN.out.c Tryz.underlying112 rfl (size_nodeC _ _ _ _) ?_) | (refine wpList_nodes rfl _ _ rfl [(nodeC 2 noF false (.slice qa qn qc))] (fun y hy => by rw [List.mem_singleton] at hy; subst hy; exact NV.node _ _ _ _ rfl) rfl (by decide) (by decide) ?_ ?_))
        intro wm HWM
        have hbm : Below wr.heap.size wr wm := by rw [HWM.out]; exact (Below.refl _ _).alloc (Nat.le_refl _) _
        have HINm := Lib.hid (HIN.out.keep hbm)
        have HBM := Lib.hid hbm
        clear hbm
        go_wp2_with (at_builtin; (refine wpList_append_where _ rfl (.tmp 109) (.tmp 111) 110 rfl 112 i0 _ 259 296 Tryz.underlying110 HI.out HZ0.out HZ1.out HZ2.out HZS.out (by decide) (.slice pa pn pc) xs.length (flat xs) rfl HINm.out.r1 ⟨wr.heap.size, 0, none⟩ 1 1 (nodeC 2 noF false (.slice qa qn qc)).toList rfl (by decide) (nv_news (NV.node _ _ _ _ rfl)).1 (news_one HWM.out) (nv_news (NV.node _ _ _ _ rfl)).2 (len_nodes (Nat.le_trans HXL.out (by decide))).1 (len_nodes (Nat.le_trans HXL.out (by decide))).2 ?_))
        intro p' w3 hown hgrow hwh
        have hwg := where_g hown hwh
        have hb3 : At w3 (A + 1) (nodeC 3 noF false (.slice pa pn pc)) 112 := HINm.out.b.grown hgrow (fun e => by have := (HINm.out.o1 _ e).1; omega)
        have hc3 : At w3 (A + 2) (nodeC 2 noF false (.slice qa qn qc)) 112 := HINm.out.c.grown hgrow (fun e => by have := (HINm.out.o1 _ e).1; omega)
        obtain ⟨xa, xn, xc, rfl⟩ := owns_slice hown
        have d0 : w3.cell? ⟨A + 1, 258, none⟩ = some (.slice pa pn pc) := by rw [hb3.cell, nodeC_args]
        have d1 : w3.frozen? ⟨A + 1, 258, none⟩ = false := hb3.free _
        have HD := Lib.hid (HIN.out.done HA.out.symm HBM.out hown hgrow hwg rfl)
        clear hown hgrow hwh hwg hb3 hc3 cp cq
        go_wp2_with (first | (refine wpList_load_at rfl 112 (.tmp 7) rfl (A + 1) rfl 112 _ _ HD.out.1 Tryz.underlying112 rfl (size_nodeC _ _ _ _) ?_) | (refine wpList_store_at6 rfl 112 (.tmp 4) (.tmp 114) rfl A _ rfl rfl 112 _ HD.out.2.1 (size_nodeC _ _ _ _) (by rw [nodeC_size, nodeC_size]) (nodeC_one _ _ _ _ HD.out.2.2.2.1) ?_))
        intro w5 hw5
        have H7 : Hid (At w5 A (nodeC 3 noF false (.slice xa xn xc)) 112) := Lib.hid (by rw [hw5.out]; exact HD.out.2.1.row)
        go_wp2_with fail
        refine bodyPost_ret (results_node3 rfl _ _ A 112 _ _ rfl H7.out Tryz.underlying112 rfl (size_nodeC _ _ _ _)) rfl ?_
        refine RUPost.yes _ j HYES.out ?_ ?_ HPJ.out
        · rw [hw5.out]; exact below_row6 HD.out.2.2.1 _ _ (by rw [HA.out]; exact Nat.le_refl _)
        · rw [hw5.out]; exact HD.out.2.2.2.2 _
      have d41 : ((c.toNat : Int) != 41) = true := by rw [bne_iff_ne]; exact beq_eq_false_iff_ne.1 (u8_ne e41)
      by_cases e124 : c = 124
      · subst e124
        have HRE2 : Hid (∃ k, 4 * r.length + 2 ≤ k ∧ k < n + 1 ∧ R = grpRes (expRest k k (ss ++ [d]) .nil r)) := Lib.hid (by
          have hf := HFU.out
          simp only [List.length_cons] at hf
          obtain ⟨k, hk⟩ : ∃ k, m1 = k + 1 := ⟨m1 - 1, by omega⟩
          obtain ⟨k2, hk2⟩ : ∃ k2, m2 = k2 + 1 := ⟨m2 - 1, by omega⟩
          exact ⟨k2, by omega, by omega, by rw [HRES.out, hk, hk2, exp_bar]⟩)
        clear hrp e41
        go_wp2_with (first | (refine wpList_load_at rfl 112 (.tmp 8) rfl (A + 2) rfl 112 _ _ HIN.out.c Tryz.underlying112 rfl (size_nodeC _ _ _ _) ?_) | (refine wpList_nodes rfl _ _ rfl [(nodeC 2 noF false (.slice qa qn qc))] (fun y hy => by rw [List.mem_singleton] at hy; subst hy; exact NV.node _ _ _ _ rfl) rfl (by decide) (by decide) ?_ ?_))
        intro wm HWM
        have hbm : Below wr.heap.size wr wm := by rw [HWM.out]; exact (Below.refl _ _).alloc (Nat.le_refl _) _
        have HINm := Lib.hid (HIN.out.keep hbm)
        have HBM := Lib.hid hbm
        clear hbm
        go_wp2_with (at_builtin; (refine wpList_append_where _ rfl (.tmp 29) (.tmp 31) 110 rfl 112 i0 _ 259 296 Tryz.underlying110 HI.out HZ0.out HZ1.out HZ2.out HZS.out (by decide) (.slice pa pn pc) xs.length (flat xs) rfl HINm.out.r1 ⟨wr.heap.size, 0, none⟩ 1 1 (nodeC 2 noF false (.slice qa qn qc)).toList rfl (by decide) (nv_news (NV.node _ _ _ _ rfl)).1 (news_one HWM.out) (nv_news (NV.node _ _ _ _ rfl)).2 (len_nodes (Nat.le_trans HXL.out (by decide))).1 (len_nodes (Nat.le_trans HXL.out (by decide))).2 ?_))
        intro p' w3 hown hgrow hwh
        have hwg := where_g hown hwh
        have hb3 : At w3 (A + 1) (nodeC 3 noF false (.slice pa pn pc)) 112 := HINm.out.b.grown hgrow (fun e => by have := (HINm.out.o1 _ e).1; omega)
        have hc3 : At w3 (A + 2) (nodeC 2 noF false (.slice qa qn qc)) 112 := HINm.out.c.grown hgrow (fun e => by have := (HINm.out.o1 _ e).1; omega)
        obtain ⟨xa, xn, xc, rfl⟩ := owns_slice hown
        have d0 : w3.cell? ⟨A + 1, 258, none⟩ = some (.slice pa pn pc) := by rw [hb3.cell, nodeC_args]
        have d1 : w3.frozen? ⟨A + 1, 258, none⟩ = false := hb3.free _
        have HPU := Lib.hid (HIN.out.push HBM.out hown hgrow hwg rfl)
        have HC4 : Hid (At (w3.setCell ⟨A + 1, 258, none⟩ (.slice xa xn xc)) (A + 2) (nodeC 2 noF false (.slice qa qn qc)) 112) := Lib.hid (hc3.other _ (by show A + 2 ≠ A + 1; omega))
        clear hown hgrow hwh hwg hb3 hc3 cp cq
        go_wp2_with (refine wpList_store_at6 rfl 112 (.tmp 8) (.tmp 34) rfl (A + 2) _ rfl rfl 112 _ HC4.out (by rw [HB2.out]; exact size_nodeC _ _ _ _) (by rw [HB2.out, nodeC_size, nodeC_size]) (by rw [HB2.out]; exact nodeC_one _ _ _ _ rfl) ?_)
        intro w5 hw5
        have HE5 : Hid (EIn W A (ss ++ [d]) .nil w5 (.slice xa xn xc) nilS (xs ++ [(nodeC 2 noF false (.slice qa qn qc))]) []) := Lib.hid (by rw [hw5.out, HB2.out]; exact HPU.out)
        clear hw5 HPU HC4 d0 d1
        go_wp2_with fail
        go_roundg (s.size + 1 - (j + 1))
        case measure => have := HK.out; omega
        case rel =>
          obtain ⟨k, hk1, hk2, hk3⟩ := HRE2.out
          exact ⟨j + 1, k, k, ss ++ [d], .nil, r, .slice xa xn xc, nilS, _, [], rfl, rfl, HN.out, ⟨hk1, hk1, hk2, hk2⟩, hk3, HE5.out, by have := HXJ.out; simp; omega, Nat.zero_le _⟩
      · have d124 : ((c.toNat : Int) == 124) = false := u8_ne e124
        obtain ⟨m1, rfl⟩ : ∃ k, m1 = k + 1 := ⟨m1 - 1, by have := HFU.out; omega⟩
        have hat := HAT.out m1 (by have := HFU.out; omega) wr s j c r HS.out hrp (by have := HFU.out; omega)
        clear hrp
        rcases ha : atom m1 (c :: r) with _ | ⟨u, r1⟩
        · have HNO : Hid (R = none) := Lib.hid (by rw [HRES.out, exp_none m1 m2 ss d c r e124 e41 ha]; rfl)
          have HAC : Hid (Calls Tryz.prog 153 #[.string s, .int .i64 j] wr fun e w' => Below wr.heap.size wr w' ∧ ∃ x j, NV x ∧ e = .returned (.tuple #[.agg x, .int .i64 j, .bool false])) := Lib.hid (hat.mono fun e w' h => by unfold RUPost at h; rw [ha] at h; exact h)
          clear ha hat HRES e41 e124
          go_wp2_with fail
          refine (HAC.out).mono ?_
          rintro e w1 ⟨hb, x, jx, hnv, rfl⟩
          have HNV := Lib.hid hnv
          have HIN1 := Lib.hid (HIN.out.keep hb)
          have HSZ : Hid (A + 3 ≤ w1.heap.size) := Lib.hid HIN1.out.size
          have HW1 : Hid (At (w1.alloc (.cells Tryz.zeroCells112 112)) w1.heap.size (nodeC 0 noF false nilS) 112) := Lib.hid (by rw [zero_node]; exact At.new w1 _ _)
          clear hb hnv cp cq
          go_wp2_with (refine wpList_store_at6 rfl 112 (.tmp 9) (.tmp 41) rfl w1.heap.size x rfl rfl 112 _ HW1.out HNV.out.info (by rw [nodeC_size, HNV.out.size]) HNV.out.one ?_)
          intro w2 hw2
          have HIN2 : Hid (EIn W A ss d w2 (.slice pa pn pc) (.slice qa qn qc) xs ys) := Lib.hid (by
            rw [hw2.out]
            exact HIN1.out.keep (below_row6 ((Below.refl _ _).alloc (Nat.le_refl _) _) _ _ (Nat.le_refl _)))
          clear hw2 HW1 HIN1
          go_wp2_with (first | (refine wpList_load_at rfl 112 (.tmp 7) rfl (A + 1) rfl 112 _ _ HIN2.out.b Tryz.underlying112 rfl (size_nodeC _ _ _ _) ?_) | (refine wpList_store_at6 rfl 112 (.tmp 4) (.tmp 46) rfl A _ rfl rfl 112 _ HIN2.out.a (size_nodeC _ _ _ _) (by rw [nodeC_size, nodeC_size]) (nodeC_one _ _ _ _ rfl) ?_))
          intro w8 hw8
          have H7 : Hid (At w8 A (nodeC 3 noF false (.slice pa pn pc)) 112) := Lib.hid (by rw [hw8.out]; exact HIN2.out.a.row)
          have H8 : Hid (Below W.heap.size W w8) := Lib.hid (by rw [hw8.out]; have hb := HIN2.out.below; rw [← HA.out] at hb; exact below_row6 hb _ _ (by rw [HA.out]; exact Nat.le_refl _))
          clear hw8
          go_wp2_with fail
          refine bodyPost_ret (results_node3 rfl _ _ A 112 _ _ rfl H7.out Tryz.underlying112 rfl (size_nodeC _ _ _ _)) rfl ?_
          exact RUPost.no _ _ HNO.out H8.out (NV.node _ _ _ _ rfl)
        · have HRE2 : Hid (R = grpRes (expRest m1 m2 ss (cat d (.cons (quant u r1).1 .nil)) (quant u r1).2)) := Lib.hid (by rw [HRES.out, exp_some m1 m2 ss d c r r1 u e124 e41 ha])
          have HAC : Hid (Calls Tryz.prog 153 #[.string s, .int .i64 j] wr fun e w' => Below wr.heap.size wr w' ∧ ∃ (x : Array Value) (k : Nat), RnU (Fresh wr w') w' u x ∧ (k + r1.length = s.size ∧ (bs s).drop k = r1) ∧ e = .returned (.tuple #[.agg x, .int .i64 k, .bool true])) := Lib.hid (hat.mono fun e w' h => by unfold RUPost at h; rw [ha] at h; exact h)
          have HSH : Hid (r1.length < (c :: r).length) := Lib.hid ((short m1).2.2 _ _ _ ha)
          clear ha hat HRES e41 e124
          go_wp2_with fail
          refine (HAC.out).mono ?_
          rintro e w1 ⟨hb, x, k, hx, ⟨hk1, hk2⟩, rfl⟩
          have hnv := hx.nv
          have HNV := Lib.hid hnv
          have HPK : Hid (RP s k r1) := Lib.hid ⟨by omega, hk2⟩
          have hkl : (k : Int) ≤ 1000 := by omega
          have HIN1 := Lib.hid (HIN.out.keep hb)
          have HBW := Lib.hid hb
          have HX1 := Lib.hid hx
          have HW1 : Hid (At (w1.alloc (.cells Tryz.zeroCells112 112)) w1.heap.size (nodeC 0 noF false nilS) 112) := Lib.hid (by rw [zero_node]; exact At.new w1 _ _)
          clear hb hnv hx hk1 hk2 cp cq
          go_wp2_with (refine wpList_store_at6 rfl 112 (.tmp 9) (.tmp 41) rfl w1.heap.size x rfl rfl 112 _ HW1.out HNV.out.info (by rw [nodeC_size, HNV.out.size]) HNV.out.one ?_)
          intro w2 hw2
          have hb2 : Below w1.heap.size w1 w2 := by rw [hw2.out]; exact below_row6 ((Below.refl _ _).alloc (Nat.le_refl _) _) _ _ (Nat.le_refl _)
          have hs2 : w2.heap.size = w1.heap.size + 1 := by rw [hw2.out, size_setRow]; show (w1.heap.push _).size = _; simp
          have HIN2 : Hid (EIn W A ss d w2 (.slice pa pn pc) (.slice qa qn qc) xs ys) := Lib.hid (HIN1.out.keep hb2)
          have H9 : Hid (At w2 w1.heap.size x 112) := Lib.hid (by rw [hw2.out]; exact HW1.out.row)
          have HX2 : Hid (RnU (Fresh wr w1) w2 u x) := Lib.hid (RnU.same (fun k hk => hb2.block k hk.2) (fun k hk => hk) u x HX1.out)
          have HSB : Hid (wr.heap.size ≤ w1.heap.size ∧ w1.heap.size < w2.heap.size) := Lib.hid ⟨HBW.out.size, by omega⟩
          have HBW2 : Hid (Below wr.heap.size wr w2) := Lib.hid (HBW.out.trans (hb2.mono HBW.out.size))
          have HFR : Hid (∀ k, Fresh wr w1 k → wr.heap.size ≤ k ∧ k < w1.heap.size) := Lib.hid (fun k hk => hk)
          generalize hS0 : Fresh wr w1 = S0 at *
          clear hw2 HW1 HIN1 HX1 HBW hb2 hs2 hS0
          generalize w1.heap.size = B at *
          rcases r1 with _ | ⟨c2, r2⟩
          · have u1 : ¬ (k : Int) < (s.size : Int) := by have := HPK.out.nil; omega
            have u1n : ¬ k < s.size := by have := HPK.out.nil; omega
            have HRR : Hid (R = grpRes (expRest m1 m2 ss (cat d (.cons u .nil)) [])) := Lib.hid HRE2.out
            clear HRE2
            have HXU : Hid (∃ S, RnU S w2 u x ∧ ∀ k, S k → Nest A w2 (.slice pa pn pc) (.slice qa qn qc) k) := Lib.hid ⟨S0, HX2.out, fun k hk => HIN.out.nest (HFR.out k hk).1 (by have := (HFR.out k hk).2; have := HSB.out; omega)⟩
            have cq : w2.cell? ⟨A + 2, 258, none⟩ = some (.slice qa qn qc) := by rw [HIN2.out.c.cell, nodeC_args]
            have HJJ : Hid (j < k ∧ k ≤ s.size) := Lib.hid (by
              have e1 := HRP.out.len
              have e2 := HPK.out.len
              have e3 := HSH.out
              have e0 : ([] : List UInt8).length = 0 := rfl
              simp only [List.length_cons] at e1 e2 e3
              omega)
            go_wp2_with (first | (refine wpList_load_at rfl 112 (.tmp 9) rfl B rfl 112 _ _ H9.out Tryz.underlying112 rfl HNV.out.info ?_) | (refine wpList_nodes rfl _ _ rfl [x] (fun y hy => by rw [List.mem_singleton] at hy; subst hy; exact HNV.out) rfl (by decide) (by decide) ?_ ?_))
            intro wm HWM
            have hbm : Below w2.heap.size w2 wm := by rw [HWM.out]; exact (Below.refl _ _).alloc (Nat.le_refl _) _
            have HINm := Lib.hid (HIN2.out.keep hbm)
            have HBM := Lib.hid hbm
            clear hbm
            go_wp2_with (at_builtin; (refine wpList_append_where _ rfl (.tmp 103) (.tmp 105) 110 rfl 112 i0 _ 259 296 Tryz.underlying110 HI.out HZ0.out HZ1.out HZ2.out HZS.out (by decide) (.slice qa qn qc) ys.length (flat ys) rfl HINm.out.r2 ⟨w2.heap.size, 0, none⟩ 1 1 x.toList rfl (by decide) (nv_news HNV.out).1 (news_one HWM.out) (nv_news HNV.out).2 (len_nodes (Nat.le_trans HYL.out (by decide))).1 (len_nodes (Nat.le_trans HYL.out (by decide))).2 ?_))
            intro q' w3 hown hgrow hwh
            have hwg := where_g hown hwh
            have hc3 : At w3 (A + 2) (nodeC 2 noF false (.slice qa qn qc)) 112 := HINm.out.c.grown hgrow (fun e => by have := (HINm.out.o2 _ e).1; omega)
            obtain ⟨xa, xn, xc, rfl⟩ := owns_slice hown
            have d0 : w3.cell? ⟨A + 2, 258, none⟩ = some (.slice qa qn qc) := by rw [hc3.cell, nodeC_args]
            have d1 : w3.frozen? ⟨A + 2, 258, none⟩ = false := hc3.free _
            have HPU : Hid (EIn W A ss (cat d (.cons u .nil)) (w3.setCell ⟨A + 2, 258, none⟩ (.slice xa xn xc)) (.slice pa pn pc) (.slice xa xn xc) xs (ys ++ [x])) := Lib.hid (by
              obtain ⟨S, hx1, hx2⟩ := HXU.out
              exact HIN2.out.put hx1 hx2 HBM.out hown hgrow hwg rfl)
            clear hown hgrow hwh hwg hc3 cq
            go_wp2_with fail
            go_roundg (s.size + 1 - k)
            case measure => have e1 := HK.out; have e2 := HJJ.out; omega
            case rel =>
              have e1 := HJJ.out
              have e2 := HXJ.out
              have e3 := HYJ.out
              have e4 := HFU.out
              have e5 := HSH.out
              have e0 : ([] : List UInt8).length = 0 := rfl
              simp only [List.length_cons] at e4 e5
              exact ⟨k, m1, m2, ss, _, [], .slice pa pn pc, .slice xa xn xc, xs, _, rfl, rfl, HPK.out, ⟨by simp only [List.length_cons, e0] at *; omega, by simp only [List.length_cons, e0] at *; omega, by omega, by omega⟩, HRR.out, HPU.out, by omega, by rw [List.length_append, List.length_singleton]; omega⟩
          · have hklt := HPK.out.lt
            have hkget : s[k]'hklt = c2 := HPK.out.get
            have u1 : (k : Int) < (s.size : Int) := by omega
            by_cases hq : isQ c2
            · have HRR0 : Hid (R = grpRes (expRest m1 m2 ss (cat d (.cons (qU c2 u) .nil)) r2)) := Lib.hid (by rw [HRE2.out, quant_yes hq])
              have HPK2 := Lib.hid HPK.out.next
              have HQ := Lib.hid hq
              have HSP : Hid (Calls Tryz.prog 154 #[.agg x, .int .u8 c2.toNat] w2.drew fun e w' => Below w2.drew.heap.size w2.drew w' ∧ ∃ q, e = .returned (.agg q) ∧ NV q ∧ RnU (fun k => S0 k ∨ Fresh w2.drew w' k) w' (qU c2 u) q) := Lib.hid (rrep_any c2 hq u x S0 w2.drew (RnU.same (W := w2) (W' := w2.drew) (fun _ _ => rfl) (fun _ h => h) u x HX2.out) (fun k hk => by have := (HFR.out k hk).2; have := HSB.out; show k < w2.heap.size; omega))
              have hq3 : (((c2.toNat : Int) == 42) = true) ∨ (((c2.toNat : Int) == 42) = false ∧ ((c2.toNat : Int) == 43) = true) ∨ (((c2.toNat : Int) == 42) = false ∧ ((c2.toNat : Int) == 43) = false ∧ ((c2.toNat : Int) == 63) = true) := by
                rcases hq with rfl | rfl | rfl
                · exact .inl rfl
                · exact .inr (.inl ⟨rfl, rfl⟩)
                · exact .inr (.inr ⟨rfl, rfl, rfl⟩)
              clear HRE2 hq
              go_upto_region 12 with fail
              go_cut [70] (fun v wx => v = .bool true ∧ w2 = wx)
              case first =>
                rcases hq3 with g1 | ⟨g1, g2⟩ | ⟨g1, g2, g3⟩
                all_goals
                  go_wp2_with fail
                  go_meet
                  exact ⟨rfl, rfl⟩
              case rest =>
              obtain ⟨rfl, rfl⟩ := hcut
              clear hq3
              go_upto_region 13 with fail
              have HIN5 := Lib.hid HIN2.out.drew
              have H95 : Hid (At w2.drew B x 112) := Lib.hid H9.out.drew
              have HB5 : Hid (Below wr.heap.size wr w2.drew) := Lib.hid ⟨HBW2.out.os, HBW2.out.tape, HBW2.out.output, HBW2.out.size, HBW2.out.block⟩
              have HSB5 : Hid (wr.heap.size ≤ B ∧ B < w2.drew.heap.size) := Lib.hid HSB.out
              refine wp_region_still_tail 4 (by kernel_rfl) (by kernel_rfl) ?_
              simp only [List.take_succ_cons, List.take_zero, List.drop_succ_cons, List.drop_zero]
              refine wpStill_load_at rfl 112 (.tmp 9) rfl B rfl 112 x _ H95.out Tryz.underlying112 rfl HNV.out.info ?_
              repeat still_step
              try refine wpStill_nil ?_
              change wpList _ _ _ _ _ w2.drew
              clear HIN2 H9 HBW2 HSB HX2
              generalize w2.drew = w5 at *
              go_wp2_with fail
              refine (HSP.out).mono ?_
              rintro e w6 ⟨hb6, qn6, rfl, hnq, hxq⟩
              have HNVQ := Lib.hid hnq
              have H96 : Hid (At w6 B x 112) := Lib.hid (H95.out.below hb6)
              have HB6 : Hid (Below wr.heap.size wr w6) := Lib.hid (HB5.out.trans (hb6.mono HB5.out.size))
              have HSB6 : Hid (wr.heap.size ≤ B ∧ B < w5.heap.size ∧ w5.heap.size ≤ w6.heap.size) := Lib.hid ⟨HSB5.out.1, HSB5.out.2, hb6.size⟩
              have HXQ := Lib.hid hxq
              clear hb6 hnq hxq HSP
              go_wp2_with (refine wpList_store_at6 rfl 112 (.tmp 9) (.tmp 75) rfl B qn6 rfl rfl 112 _ H96.out HNVQ.out.info (by rw [HNV.out.size, HNVQ.out.size]) HNVQ.out.one ?_)
              intro w7 hw7
              have HE7 : Hid (EIn W A ss d w7 (.slice pa pn pc) (.slice qa qn qc) xs ys) := Lib.hid (by rw [hw7.out]; exact HIN.out.keep (below_row6 HB6.out _ _ HSB6.out.1))
              have H97 : Hid (At w7 B qn6 112) := Lib.hid (by rw [hw7.out]; exact H96.out.row)
              have HXU : Hid (∃ S, RnU S w7 (qU c2 u) qn6 ∧ ∀ k, S k → Nest A w7 (.slice pa pn pc) (.slice qa qn qc) k) := Lib.hid (by
                have hs7 : w7.heap.size = w6.heap.size := by rw [hw7.out]; exact size_setRow _ _ _
                have hbd := HSB6.out
                refine ⟨fun k => S0 k ∨ Fresh w5 w6 k, RnU.same (fun k hk => ?_) (fun k hk => hk) _ _ HXQ.out, fun k hk => ?_⟩
                · rw [hw7.out, setRow_other w6 _ _ _ (by
                    rcases hk with hk | hk
                    · have := (HFR.out k hk).2; omega
                    · have := hk.1; omega)]
                · refine HIN.out.nest ?_ ?_
                  · rcases hk with hk | hk
                    · exact (HFR.out k hk).1
                    · have := hk.1; omega
                  · rcases hk with hk | hk
                    · have := (HFR.out k hk).2; omega
                    · have := hk.2; omega)
              clear hw7 H96 HB6 HXQ H95 HB5 HIN5
              rcases r2 with _ | ⟨c3, r3⟩
              · have v1 : ¬ (k : Int) + 1 < (s.size : Int) := by have := HPK2.out.nil; omega
                have v1n : ¬ k + 1 < s.size := by have := HPK2.out.nil; omega
                have HRR : Hid (R = grpRes (expRest m1 m2 ss (cat d (.cons (qU c2 u) .nil)) [])) := Lib.hid HRR0.out
                clear HRR0
                have cq : w7.cell? ⟨A + 2, 258, none⟩ = some (.slice qa qn qc) := by rw [HE7.out.c.cell, nodeC_args]
                have HJJ : Hid (j < (k + 1) ∧ (k + 1) ≤ s.size) := Lib.hid (by
                  have e1 := HRP.out.len
                  have e2 := HPK2.out.len
                  have e3 := HSH.out
                  have e0 : ([] : List UInt8).length = 0 := rfl
                  simp only [List.length_cons] at e1 e2 e3
                  omega)
                go_wp2_with (first | (refine wpList_load_at rfl 112 (.tmp 9) rfl B rfl 112 _ _ H97.out Tryz.underlying112 rfl HNVQ.out.info ?_) | (refine wpList_nodes rfl _ _ rfl [qn6] (fun y hy => by rw [List.mem_singleton] at hy; subst hy; exact HNVQ.out) rfl (by decide) (by decide) ?_ ?_))
                intro wm HWM
                have hbm : Below w7.heap.size w7 wm := by rw [HWM.out]; exact (Below.refl _ _).alloc (Nat.le_refl _) _
                have HINm := Lib.hid (HE7.out.keep hbm)
                have HBM := Lib.hid hbm
                clear hbm
                go_wp2_with (at_builtin; (refine wpList_append_where _ rfl (.tmp 103) (.tmp 105) 110 rfl 112 i0 _ 259 296 Tryz.underlying110 HI.out HZ0.out HZ1.out HZ2.out HZS.out (by decide) (.slice qa qn qc) ys.length (flat ys) rfl HINm.out.r2 ⟨w7.heap.size, 0, none⟩ 1 1 qn6.toList rfl (by decide) (nv_news HNVQ.out).1 (news_one HWM.out) (nv_news HNVQ.out).2 (len_nodes (Nat.le_trans HYL.out (by decide))).1 (len_nodes (Nat.le_trans HYL.out (by decide))).2 ?_))
                intro q' w3 hown hgrow hwh
                have hwg := where_g hown hwh
                have hc3 : At w3 (A + 2) (nodeC 2 noF false (.slice qa qn qc)) 112 := HINm.out.c.grown hgrow (fun e => by have := (HINm.out.o2 _ e).1; omega)
                obtain ⟨xa, xn, xc, rfl⟩ := owns_slice hown
                have d0 : w3.cell? ⟨A + 2, 258, none⟩ = some (.slice qa qn qc) := by rw [hc3.cell, nodeC_args]
                have d1 : w3.frozen? ⟨A + 2, 258, none⟩ = false := hc3.free _
                have HPU : Hid (EIn W A ss (cat d (.cons (qU c2 u) .nil)) (w3.setCell ⟨A + 2, 258, none⟩ (.slice xa xn xc)) (.slice pa pn pc) (.slice xa xn xc) xs (ys ++ [qn6])) := Lib.hid (by
                  obtain ⟨S, hx1, hx2⟩ := HXU.out
                  exact HE7.out.put hx1 hx2 HBM.out hown hgrow hwg rfl)
                clear hown hgrow hwh hwg hc3 cq
                go_wp2_with fail
                go_roundg (s.size + 1 - (k + 1))
                case measure => have e1 := HK.out; have e2 := HJJ.out; omega
                case rel =>
                  have e1 := HJJ.out
                  have e2 := HXJ.out
                  have e3 := HYJ.out
                  have e4 := HFU.out
                  have e5 := HSH.out
                  have e0 : ([] : List UInt8).length = 0 := rfl
                  simp only [List.length_cons] at e4 e5
                  exact ⟨(k + 1), m1, m2, ss, _, [], .slice pa pn pc, .slice xa xn xc, xs, _, rfl, rfl, HPK2.out, ⟨by simp only [List.length_cons, e0] at *; omega, by simp only [List.length_cons, e0] at *; omega, by omega, by omega⟩, HRR.out, HPU.out, by omega, by rw [List.length_append, List.length_singleton]; omega⟩
              · have hk2lt := HPK2.out.lt
                have hk2get : s[k + 1]'hk2lt = c3 := HPK2.out.get
                have v1 : (k : Int) + 1 < (s.size : Int) := by omega
                by_cases hq3 : isQ c3
                · have HNO : Hid (R = none) := Lib.hid (by
                    have e4 := HFU.out
                    have e5 := HSH.out
                    simp only [List.length_cons] at e4 e5
                    obtain ⟨k, hk⟩ : ∃ k, m1 = k + 2 := ⟨m1 - 2, by omega⟩
                    rw [HRR0.out, hk, exp_quant k m2 ss _ c3 r3 hq3]; rfl)
                  have hq4 : (((c3.toNat : Int) == 42) = true) ∨ (((c3.toNat : Int) == 42) = false ∧ ((c3.toNat : Int) == 43) = true) ∨ (((c3.toNat : Int) == 42) = false ∧ ((c3.toNat : Int) == 43) = false ∧ ((c3.toNat : Int) == 63) = true) := by
                    rcases hq3 with rfl | rfl | rfl
                    · exact .inl rfl
                    · exact .inr (.inl ⟨rfl, rfl⟩)
                    · exact .inr (.inr ⟨rfl, rfl, rfl⟩)
                  clear HRR0 hq3 HXU H97
                  rcases hq4 with g1 | ⟨g1, g2⟩ | ⟨g1, g2, g3⟩
                  all_goals
                    go_wp2_with (first | (refine wpList_load_at rfl 112 (.tmp 7) rfl (A + 1) rfl 112 _ _ HE7.out.b Tryz.underlying112 rfl (size_nodeC _ _ _ _) ?_) | (refine wpList_store_at6 rfl 112 (.tmp 4) (.tmp 100) rfl A _ rfl rfl 112 _ HE7.out.a (size_nodeC _ _ _ _) (by rw [nodeC_size, nodeC_size]) (nodeC_one _ _ _ _ rfl) ?_))
                    intro w8 hw8
                    have H7 : Hid (At w8 A (nodeC 3 noF false (.slice pa pn pc)) 112) := Lib.hid (by rw [hw8.out]; exact HE7.out.a.row)
                    have H8 : Hid (Below W.heap.size W w8) := Lib.hid (by rw [hw8.out]; have hb := HE7.out.below; rw [← HA.out] at hb; exact below_row6 hb _ _ (by rw [HA.out]; exact Nat.le_refl _))
                    clear hw8
                    go_wp2_with fail
                    refine bodyPost_ret (results_node3 rfl _ _ A 112 _ _ rfl H7.out Tryz.underlying112 rfl (size_nodeC _ _ _ _)) rfl ?_
                    exact RUPost.no _ _ HNO.out H8.out (NV.node _ _ _ _ rfl)
                · have HRR : Hid (R = grpRes (expRest m1 m2 ss (cat d (.cons (qU c2 u) .nil)) (c3 :: r3))) := Lib.hid HRR0.out
                  have g1 : ((c3.toNat : Int) == 42) = false := u8_ne (fun e => hq3 (.inl e))
                  have g2 : ((c3.toNat : Int) == 43) = false := u8_ne (fun e => hq3 (.inr (.inl e)))
                  have g3 : ((c3.toNat : Int) == 63) = false := u8_ne (fun e => hq3 (.inr (.inr e)))
                  clear HRR0 hq3
                  have cq : w7.cell? ⟨A + 2, 258, none⟩ = some (.slice qa qn qc) := by rw [HE7.out.c.cell, nodeC_args]
                  have HJJ : Hid (j < (k + 1) ∧ (k + 1) ≤ s.size) := Lib.hid (by
                    have e1 := HRP.out.len
                    have e2 := HPK2.out.len
                    have e3 := HSH.out
                    have e0 : ([] : List UInt8).length = 0 := rfl
                    simp only [List.length_cons] at e1 e2 e3
                    omega)
                  go_wp2_with (first | (refine wpList_load_at rfl 112 (.tmp 9) rfl B rfl 112 _ _ H97.out Tryz.underlying112 rfl HNVQ.out.info ?_) | (refine wpList_nodes rfl _ _ rfl [qn6] (fun y hy => by rw [List.mem_singleton] at hy; subst hy; exact HNVQ.out) rfl (by decide) (by decide) ?_ ?_))
                  intro wm HWM
                  have hbm : Below w7.heap.size w7 wm := by rw [HWM.out]; exact (Below.refl _ _).alloc (Nat.le_refl _) _
                  have HINm := Lib.hid (HE7.out.keep hbm)
                  have HBM := Lib.hid hbm
                  clear hbm
                  go_wp2_with (at_builtin; (refine wpList_append_where _ rfl (.tmp 103) (.tmp 105) 110 rfl 112 i0 _ 259 296 Tryz.underlying110 HI.out HZ0.out HZ1.out HZ2.out HZS.out (by decide) (.slice qa qn qc) ys.length (flat ys) rfl HINm.out.r2 ⟨w7.heap.size, 0, none⟩ 1 1 qn6.toList rfl (by decide) (nv_news HNVQ.out).1 (news_one HWM.out) (nv_news HNVQ.out).2 (len_nodes (Nat.le_trans HYL.out (by decide))).1 (len_nodes (Nat.le_trans HYL.out (by decide))).2 ?_))
                  intro q' w3 hown hgrow hwh
                  have hwg := where_g hown hwh
                  have hc3 : At w3 (A + 2) (nodeC 2 noF false (.slice qa qn qc)) 112 := HINm.out.c.grown hgrow (fun e => by have := (HINm.out.o2 _ e).1; omega)
                  obtain ⟨xa, xn, xc, rfl⟩ := owns_slice hown
                  have d0 : w3.cell? ⟨A + 2, 258, none⟩ = some (.slice qa qn qc) := by rw [hc3.cell, nodeC_args]
                  have d1 : w3.frozen? ⟨A + 2, 258, none⟩ = false := hc3.free _
                  have HPU : Hid (EIn W A ss (cat d (.cons (qU c2 u) .nil)) (w3.setCell ⟨A + 2, 258, none⟩ (.slice xa xn xc)) (.slice pa pn pc) (.slice xa xn xc) xs (ys ++ [qn6])) := Lib.hid (by
                    obtain ⟨S, hx1, hx2⟩ := HXU.out
                    exact HE7.out.put hx1 hx2 HBM.out hown hgrow hwg rfl)
                  clear hown hgrow hwh hwg hc3 cq
                  go_wp2_with fail
                  go_roundg (s.size + 1 - (k + 1))
                  case measure => have e1 := HK.out; have e2 := HJJ.out; omega
                  case rel =>
                    have e1 := HJJ.out
                    have e2 := HXJ.out
                    have e3 := HYJ.out
                    have e4 := HFU.out
                    have e5 := HSH.out
                    have e0 : ([] : List UInt8).length = 0 := rfl
                    simp only [List.length_cons] at e4 e5
                    exact ⟨(k + 1), m1, m2, ss, _, (c3 :: r3), .slice pa pn pc, .slice xa xn xc, xs, _, rfl, rfl, HPK2.out, ⟨by simp only [List.length_cons, e0] at *; omega, by simp only [List.length_cons, e0] at *; omega, by omega, by omega⟩, HRR.out, HPU.out, by omega, by rw [List.length_append, List.length_singleton]; omega⟩
            · have HRR : Hid (R = grpRes (expRest m1 m2 ss (cat d (.cons u .nil)) (c2 :: r2))) := Lib.hid (by rw [HRE2.out, quant_no (fun c r e => by injection e with e _; subst e; exact hq)])
              have g1 : ((c2.toNat : Int) == 42) = false := u8_ne (fun e => hq (.inl e))
              have g2 : ((c2.toNat : Int) == 43) = false := u8_ne (fun e => hq (.inr (.inl e)))
              have g3 : ((c2.toNat : Int) == 63) = false := u8_ne (fun e => hq (.inr (.inr e)))
              clear HRE2 hq
              have HXU : Hid (∃ S, RnU S w2 u x ∧ ∀ k, S k → Nest A w2 (.slice pa pn pc) (.slice qa qn qc) k) := Lib.hid ⟨S0, HX2.out, fun k hk => HIN.out.nest (HFR.out k hk).1 (by have := (HFR.out k hk).2; have := HSB.out; omega)⟩
              have cq : w2.cell? ⟨A + 2, 258, none⟩ = some (.slice qa qn qc) := by rw [HIN2.out.c.cell, nodeC_args]
              have HJJ : Hid (j < k ∧ k ≤ s.size) := Lib.hid (by
                have e1 := HRP.out.len
                have e2 := HPK.out.len
                have e3 := HSH.out
                have e0 : ([] : List UInt8).length = 0 := rfl
                simp only [List.length_cons] at e1 e2 e3
                omega)
              go_wp2_with (first | (refine wpList_load_at rfl 112 (.tmp 9) rfl B rfl 112 _ _ H9.out Tryz.underlying112 rfl HNV.out.info ?_) | (refine wpList_nodes rfl _ _ rfl [x] (fun y hy => by rw [List.mem_singleton] at hy; subst hy; exact HNV.out) rfl (by decide) (by decide) ?_ ?_))
              intro wm HWM
              have hbm : Below w2.heap.size w2 wm := by rw [HWM.out]; exact (Below.refl _ _).alloc (Nat.le_refl _) _
              have HINm := Lib.hid (HIN2.out.keep hbm)
              have HBM := Lib.hid hbm
              clear hbm
              go_wp2_with (at_builtin; (refine wpList_append_where _ rfl (.tmp 103) (.tmp 105) 110 rfl 112 i0 _ 259 296 Tryz.underlying110 HI.out HZ0.out HZ1.out HZ2.out HZS.out (by decide) (.slice qa qn qc) ys.length (flat ys) rfl HINm.out.r2 ⟨w2.heap.size, 0, none⟩ 1 1 x.toList rfl (by decide) (nv_news HNV.out).1 (news_one HWM.out) (nv_news HNV.out).2 (len_nodes (Nat.le_trans HYL.out (by decide))).1 (len_nodes (Nat.le_trans HYL.out (by decide))).2 ?_))
              intro q' w3 hown hgrow hwh
              have hwg := where_g hown hwh
              have hc3 : At w3 (A + 2) (nodeC 2 noF false (.slice qa qn qc)) 112 := HINm.out.c.grown hgrow (fun e => by have := (HINm.out.o2 _ e).1; omega)
              obtain ⟨xa, xn, xc, rfl⟩ := owns_slice hown
              have d0 : w3.cell? ⟨A + 2, 258, none⟩ = some (.slice qa qn qc) := by rw [hc3.cell, nodeC_args]
              have d1 : w3.frozen? ⟨A + 2, 258, none⟩ = false := hc3.free _
              have HPU : Hid (EIn W A ss (cat d (.cons u .nil)) (w3.setCell ⟨A + 2, 258, none⟩ (.slice xa xn xc)) (.slice pa pn pc) (.slice xa xn xc) xs (ys ++ [x])) := Lib.hid (by
                obtain ⟨S, hx1, hx2⟩ := HXU.out
                exact HIN2.out.put hx1 hx2 HBM.out hown hgrow hwg rfl)
              clear hown hgrow hwh hwg hc3 cq
              go_wp2_with fail
              go_roundg (s.size + 1 - k)
              case measure => have e1 := HK.out; have e2 := HJJ.out; omega
              case rel =>
                have e1 := HJJ.out
                have e2 := HXJ.out
                have e3 := HYJ.out
                have e4 := HFU.out
                have e5 := HSH.out
                have e0 : ([] : List UInt8).length = 0 := rfl
                simp only [List.length_cons] at e4 e5
                exact ⟨k, m1, m2, ss, _, (c2 :: r2), .slice pa pn pc, .slice xa xn xc, xs, _, rfl, rfl, HPK.out, ⟨by simp only [List.length_cons, e0] at *; omega, by simp only [List.length_cons, e0] at *; omega, by omega, by omega⟩, HRR.out, HPU.out, by omega, by rw [List.length_append, List.length_singleton]; omega⟩
end Go.Proofs.YthckgmbadmilfaaGreat
