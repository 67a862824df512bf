/- The reference's walks: expression. The reference's walks: Parse, Check. The reference's walks: Match. The walk of RegexMatch. RegexMatch's walk, as the row asks for it. The reference's walks: Find. The walk of RegexFind. RegexFind's walk, as the row asks for it. The walks of RegexMatch and RegexFind. The reference's walks: empty classes. The reference's walks: empty classes, the comparison. The reference's walks: empty. The reference's walks: Empty. The reference's walks: Quote. The reference's walks: Prefix. -/
import Derived.Test.YtheblleadjbndaaKaH
import Derived.Test.YtheblleadjbndaaKaB
import Derived.Test.YtheblleadjbndaaKaD
import Derived.Test.YtheblleadjbndaaKaA
import Derived.Test.YtheblleadjbndaaKaF
import Derived.Test.YtheblleadjbndaaKaC
import Derived.Test.YtheblleadjbndaaKaG
import Derived.ChangeKeysEq
namespace Go.Proofs.Ytheblleadjbndaa
open Go.RowKit Rx
/-- A factor with a byte behind it. -/
def qU (c : UInt8) (u : U) : U := if c = 42 then .star u else if c = 43 then .plus u else .opt u
def isQ (c : UInt8) : Prop := c = 42 ∨ c = 43 ∨ c = 63
theorem quant_yes {c : UInt8} (h : isQ c) (u : U) (r : List UInt8) : quant u (c :: r) = (qU c u, r) := by rcases h with rfl | rfl | rfl <;> rfl
theorem quant_no {u : U} {l : List UInt8} (h : ∀ c r, l = c :: r → ¬ isQ c) : quant u l = (u, l) := quant_other fun c r e => by
  have := h c r e
  exact ⟨fun e => this (.inl e), fun e => this (.inr (.inl e)), fun e => this (.inr (.inr e))⟩
theorem rrep_any (c : UInt8) (hc : isQ c) (u : U) (x : Array Value) (S : Nat → Prop) (w : World) (hx : RnU S w u x) (hS : ∀ k, S k → k < w.heap.size) :
    Calls Try.prog 54 #[.agg x, .int .u8 c.toNat] w fun e w' => Below w.heap.size w w' ∧ ∃ q, e = .returned (.agg q) ∧ NV q ∧ RnU (fun k => S k ∨ Fresh w w' k) w' (qU c u) q := by
  have hmove : ∀ w', Below w.heap.size w w' → RnU (fun k => S k ∨ Fresh w w' k) w' u x := fun w' hb => RnU.same (fun k hk => hb.block k (hS k hk)) (fun k hk => .inl hk) u x hx
  rcases hc with rfl | rfl | rfl
  · refine (rrep_star w x hx.nv).mono ?_
    rintro e w' ⟨hb, sv, rfl, hr⟩
    exact ⟨hb, _, rfl, NV.node _ _ _ _ hr.one, by unfold qU; rw [if_pos rfl]; unfold RnU; exact ⟨sv, x, rfl, hr.same (fun _ _ => rfl) (fun k hk => .inr hk), hmove w' hb⟩⟩
  · refine (rrep_plus w x hx.nv).mono ?_
    rintro e w' ⟨hb, sv, rfl, hr⟩
    exact ⟨hb, _, rfl, NV.node _ _ _ _ hr.one, by unfold qU; rw [if_neg (by decide), if_pos rfl]; unfold RnU; exact ⟨sv, x, rfl, hr.same (fun _ _ => rfl) (fun k hk => .inr hk), hmove w' hb⟩⟩
  · refine (rrep_opt w x hx.nv).mono ?_
    rintro e w' ⟨hb, sv, rfl, hr⟩
    exact ⟨hb, _, rfl, NV.node _ _ _ _ hr.one, by unfold qU; rw [if_neg (by decide), if_neg (by decide)]; unfold RnU; exact ⟨sv, x, rfl, hr.same (fun _ _ => rfl) (fun k hk => .inr hk), hmove w' hb⟩⟩
theorem built5 (k : Int) : Try.zeroCells46.setIfInBounds 0 (.int .i64 k) = nodeC k noF false nilS := by rw [zero_node, nodeC_setKind]
theorem info_node3 : (Try.prog.info? 46).map (fun i => (i.zero, i.size, i.bytes)) = some (some (.agg Try.zeroCells46), 259, 296) := by kernel_rfl
theorem node_zs : (Value.agg Try.zeroCells46).cells.size = 259 := by show Try.zeroCells46.size = 259; rw [zero_node, nodeC_size]
theorem nv_news {x : Array Value} (h : NV x) : x.toList.length = 1 * 259 ∧ ∀ u ∈ x.toList, u.oneCell' = true := by
  refine ⟨by rw [Array.length_toList, h.size], fun u hu => ?_⟩
  exact (Array.all_eq_true_iff_forall_mem.1 h.one) u (by simpa using hu)
theorem news_one {wm w0 : World} {x : Array Value} (h : wm = w0.alloc (.cells (flat [x]).toArray 46)) : ∀ j u, x.toList[j]? = some u → wm.cell? ((⟨w0.heap.size, 0, none⟩ : Addr).add j) = some u := fun j u hj => by
  have e : (⟨w0.heap.size, 0, none⟩ : Addr).add j = ⟨w0.heap.size, j, none⟩ := by unfold Addr.add; split <;> simp_all
  rw [e, h, (At.new w0 _ _).cell]
  simpa [flat] using hj
theorem len_nodes {n : Nat} (h : n ≤ 1001) : n + 1 ≤ maxLen ∧ (n + 1) * 296 ≤ 140737488355328 := by unfold maxLen; omega
section
variable {W : World} {A : Nat} {ss : List Ss} {d : Ss} {wr w2 : World} {p q : Value} {xs ys : List (Array Value)}
theorem EIn.nest (h : EIn W A ss d wr p q xs ys) {k : Nat} (h1 : wr.heap.size ≤ k) (h2 : k < w2.heap.size) : Nest A w2 p q k :=
  ⟨Nat.le_trans h.size h1, h2, fun e => by have := (h.o1 k e).2; omega, fun e => by have := (h.o2 k e).2; omega⟩
/-- All is read: the node that is handed back. -/
theorem EIn.done {wm w3 w4 : World} {p' : Value} (h : EIn W A ss d wr p q xs ys) (hA : A = W.heap.size) (hb : Below wr.heap.size wr wm)
    (hown : w3.ownsRow 0 46 259 p' (xs.length + 1) (flat xs ++ (nodeC 2 noF false q).toList)) (hgrow : wm.grownBy w3 p.ownBlock) (hwh : p'.ownBlock = p.ownBlock ∨ ∃ g, p'.ownBlock = some g ∧ wm.heap.size ≤ g ∧ g < w3.heap.size)
    (hw4 : w4 = w3.setCell ⟨A + 1, 258, none⟩ p') : At w4 (A + 1) (nodeC 3 noF false p') 46 ∧ At w4 A (nodeC 0 noF false nilS) 46 ∧ Below W.heap.size W w4 ∧ p'.oneCell' = true ∧
      ∀ y, RnU (Fresh W (w4.setRow A y)) (w4.setRow A y) (.grp (ahd ss (.one d))) (nodeC 3 noF false p') := by
  have hp := h.push hb hown hgrow hwh hw4
  have e1 : ∀ k, k ≠ A + 2 → (w4.setRow (A + 2) (nodeC 2 noF false nilS)).heap[k]? = w4.heap[k]? := fun k hk => setRow_other w4 _ _ _ hk
  have hs4 : (w4.setRow (A + 2) (nodeC 2 noF false nilS)).heap.size = w4.heap.size := size_setRow _ _ _
  refine ⟨⟨by rw [← e1 (A + 1) (by omega)]; exact hp.b.out⟩, ⟨by rw [← e1 A (by omega)]; exact hp.a.out⟩, ?_, one_row hown, fun y => ?_⟩
  · have hb4 := hp.below
    subst hA
    exact ⟨hb4.os, hb4.tape, hb4.output, by rw [← hs4]; exact hb4.size, fun k hk => by rw [← e1 k (by omega)]; exact hb4.block k hk⟩
  · have hsz := hp.size
    have hblk : ∀ k, A + 3 ≤ k → (w4.setRow A y).heap[k]? = (w4.setRow (A + 2) (nodeC 2 noF false nilS)).heap[k]? := fun k hk => by
      rw [setRow_other w4 _ _ _ (by omega), e1 k (by omega)]
    have hys : (w4.setRow A y).heap.size = w4.heap.size := size_setRow _ _ _
    have hfr : ∀ k, A + 3 ≤ k → k < (w4.setRow (A + 2) (nodeC 2 noF false nilS)).heap.size → Fresh W (w4.setRow A y) k := fun k h1 h2 => ⟨by omega, by rw [hys, ← hs4]; exact h2⟩
    unfold RnU
    refine ⟨p', xs ++ [nodeC 2 noF false q], rfl, ⟨?_, RnL.nv _ _ hp.n1, fun g hg => hfr g (hp.o1 g hg).1 (hp.o1 g hg).2⟩, RnL.toA ss _ ?_⟩
    · exact owns_same hp.r1 (S := fun k => p'.ownBlock = some k) (fun g hg => hg) (fun k hk => hblk k (hp.o1 k hk).1)
    · exact RnL.same (fun k hk => hblk k hk.1) (fun k hk => hfr k hk.1 hk.2.1) _ _ hp.n1
end
theorem where_g {w3 wm : World} {v v' : Value} {n : Nat} {xs : List Value} (hown : w3.ownsRow 0 46 259 v' n xs) (h : v'.ownBlock = v.ownBlock ∨ v'.ownBlock = some wm.heap.size) : v'.ownBlock = v.ownBlock ∨ ∃ g, v'.ownBlock = some g ∧ wm.heap.size ≤ g ∧ g < w3.heap.size := by
  rcases h with h | h
  · exact .inl h
  · exact .inr ⟨_, h, Nat.le_refl _, (hown.lt _ h).2⟩

set_option maxRecDepth 100000 in
set_option maxHeartbeats 16000000 in
theorem rexp_ok (n : Nat) (hA : ∀ m, m < n → RAtomOK m) : RExpOK n := by
  intro W s i l hs hrp hfu
  obtain ⟨n, rfl⟩ : ∃ k, n = k + 1 := ⟨n - 1, by omega⟩
  obtain ⟨i0, hi, hz0, hz1, hz2⟩ := info_parts info_node3
  have HI := Lib.hid hi
  have HZ0 := Lib.hid hz0
  have HZ1 := Lib.hid hz1
  have HZ2 := Lib.hid hz2
  have HZS := Lib.hid node_zs
  have HZ := Lib.hid zero_node
  obtain ⟨R, hR⟩ : ∃ R, grpRes (alts (n + 1) l) = R := ⟨_, rfl⟩
  rw [hR]
  have HRS : Hid (R = grpRes (expRest n n [] .nil l)) := Lib.hid (by rw [← hR, alts_rest])
  have HAT := Lib.hid hA
  have HS := Lib.hid hs
  have HL := Lib.hid hrp
  have HFU : Hid (4 * l.length + 2 ≤ n) := Lib.hid (by omega)
  have hsl : (s.size : Int) ≤ 1000 := by omega
  have HB3 := Lib.hid (built5 3)
  have HB2 := Lib.hid (built5 2)
  clear hi hz0 hz1 hz2 hR hA hs hrp hfu
  go_enter Try.func41, Try.ntmps41
  go_wp2_with (refine wpList_store_at rfl 46 (.tmp 7) (.tmp 12) rfl (W.heap.size + 1) _ rfl rfl 46 _ (at_two W _ _ _ _) (by rw [HB3.out]; exact size_nodeC _ _ _ _) (by rw [HB3.out, HZ.out, nodeC_size, nodeC_size]) (by rw [HB3.out]; exact nodeC_one _ _ _ _ rfl) ?_)
  intro w1 hw1
  have h1 : At w1 (W.heap.size + 1) (nodeC 3 noF false nilS) 46 := by rw [hw1.out, HB3.out]; exact (at_two W _ _ _ _).row
  have h2 : At w1 W.heap.size (nodeC 0 noF false nilS) 46 := by
    rw [hw1.out, ← zero_node]
    exact ((At.new W _ _).alloc _).rowOther (by omega)
  have h3 : Below W.heap.size W w1 := by
    rw [hw1.out]
    exact below_row (((Below.refl _ _).alloc (Nat.le_refl _) _).alloc (by show W.heap.size ≤ (W.heap.push _).size; simp) _) _ _ (by omega)
  have hs1 : w1.heap.size = W.heap.size + 2 := by rw [hw1.out, size_setRow]; exact two_lt W _ _
  have H1 := Lib.hid h1
  have H2 := Lib.hid h2
  have H3 := Lib.hid h3
  have HS1 := Lib.hid hs1
  have HW1 : Hid (At (w1.alloc (.cells Try.zeroCells46 46)) w1.heap.size (nodeC 0 noF false nilS) 46) := Lib.hid (by rw [zero_node]; exact At.new w1 _ _)
  clear hw1 h1 h2 h3 hs1
  go_wp2_with (refine wpList_store_at rfl 46 (.tmp 8) (.tmp 13) rfl w1.heap.size _ rfl rfl 46 _ HW1.out (by rw [HB2.out]; exact size_nodeC _ _ _ _) (by rw [HB2.out, nodeC_size, nodeC_size]) (by rw [HB2.out]; exact nodeC_one _ _ _ _ rfl) ?_)
  intro w2 hw2
  have hin : EIn W W.heap.size [] .nil w2 nilS nilS [] [] := by
    have hsz : w2.heap.size = W.heap.size + 3 := by rw [hw2.out, size_setRow]; show (w1.heap.push _).size = _; rw [Array.size_push, HS1.out]
    refine ⟨?_, ?_, ?_, ?_, by omega, World.ownsRow_nil _ _ _ _, World.ownsRow_nil _ _ _ _, fun g hg => (by cases hg), fun g hg => (by cases hg), fun g hg => (by cases hg), rfl, by unfold RnS; rfl⟩
    · rw [hw2.out]; exact (H2.out.alloc _).rowOther (by rw [HS1.out]; omega)
    · rw [hw2.out]; exact (H1.out.alloc _).rowOther (by rw [HS1.out]; omega)
    · rw [← HS1.out, hw2.out, HB2.out]; exact HW1.out.row
    · rw [hw2.out]; exact below_row (H3.out.alloc H3.out.size _) _ _ (by rw [HS1.out]; omega)
  have HIN := Lib.hid hin
  clear hw2 hin H1 H2 H3 HW1
  rw [HS1.out]
  clear HS1
  obtain ⟨A, hA⟩ : ∃ A, W.heap.size = A := ⟨_, rfl⟩
  have HA := Lib.hid hA
  rw [hA] at HIN ⊢
  clear hA
  go_wp2_with fail
  go_loopg [1] (s.size + 1 - i) (fun k iv wr => ∃ (j m1 m2 : Nat) (ss : List Ss) (d : Ss) (l : List UInt8) (p q : Value) (xs ys : List (Array Value)), k = s.size + 1 - j ∧ iv = .int .i64 j ∧ RP s j l ∧ (4 * l.length + 2 ≤ m1 ∧ 4 * l.length + 2 ≤ m2 ∧ m1 < n + 1 ∧ m2 < n + 1) ∧ R = grpRes (expRest m1 m2 ss d l) ∧ EIn W A ss d wr p q xs ys ∧ xs.length ≤ j ∧ ys.length ≤ j)
  case atStart => exact ⟨i, n, n, [], .nil, l, nilS, nilS, [], [], rfl, rfl, HL.out, ⟨HFU.out, HFU.out, by omega, by omega⟩, HRS.out, HIN.out, Nat.zero_le _, Nat.zero_le _⟩
  case round =>
    obtain ⟨j, m1, m2, ss, d, l', p, q, xs, ys, hk, rfl, hrp, hfu, hres, hin, hxl, hyl⟩ := hrel
    clear HIN HRS HL HFU
    have HIN := Lib.hid hin
    have HRES := Lib.hid hres
    have HFU := Lib.hid hfu
    have HK := Lib.hid hk
    have hjs := hrp.le
    have hjl : (j : Int) ≤ 1000 := by omega
    have HJS := Lib.hid hjs
    have HXL : Hid (xs.length ≤ 1000) := Lib.hid (by omega)
    have HYL : Hid (ys.length ≤ 1000) := Lib.hid (by omega)
    have HXJ := Lib.hid hxl
    have HYJ := Lib.hid hyl
    obtain ⟨pa, pn, pc, rfl⟩ := owns_slice hin.r1
    obtain ⟨qa, qn, qc, rfl⟩ := owns_slice hin.r2
    have cp : wr.cell? ⟨A + 1, 258, none⟩ = some (.slice pa pn pc) := by rw [hin.b.cell, nodeC_args]
    have cq : wr.cell? ⟨A + 2, 258, none⟩ = some (.slice qa qn qc) := by rw [hin.c.cell, nodeC_args]
    have HRP := Lib.hid hrp
    clear hin hres hfu hk hjs hxl hyl
    rcases l' with _ | ⟨c, r⟩
    · have hje : j = s.size := hrp.nil
      have HYES : Hid (R = some (U.grp (ahd ss (.one d)), [])) := Lib.hid (by
        obtain ⟨k, hk⟩ : ∃ k, m1 = k + 1 := ⟨m1 - 1, by have := HFU.out; omega⟩
        rw [HRES.out, hk, exp_end k m2 ss d [] (.inl rfl)]; rfl)
      have t1 : ¬ (j : Int) < (s.size : Int) := by omega
      have t1n : ¬ j < s.size := by omega
      have HPJ : Hid (j + ([] : List UInt8).length = s.size ∧ (bs s).drop j = []) := Lib.hid ⟨hrp.len, hrp.rest⟩
      clear hrp hje
      go_wp2_with (first | (refine wpList_load_at rfl 46 (.tmp 8) rfl (A + 2) rfl 46 _ _ HIN.out.c Try.underlying46 rfl (size_nodeC _ _ _ _) ?_) | (refine wpList_nodes rfl _ _ rfl [(nodeC 2 noF false (.slice qa qn qc))] (fun y hy => by rw [List.mem_singleton] at hy; subst hy; exact NV.node _ _ _ _ rfl) rfl (by decide) (by decide) ?_ ?_))
      intro wm HWM
      have hbm : Below wr.heap.size wr wm := by rw [HWM.out]; exact (Below.refl _ _).alloc (Nat.le_refl _) _
      have HINm := Lib.hid (HIN.out.keep hbm)
      have HBM := Lib.hid hbm
      clear hbm
      go_wp2_with (at_builtin; (refine wpList_append_where _ rfl (.tmp 109) (.tmp 111) 44 rfl 46 i0 _ 259 296 Try.underlying44 HI.out HZ0.out HZ1.out HZ2.out HZS.out (by decide) (.slice pa pn pc) xs.length (flat xs) rfl HINm.out.r1 ⟨wr.heap.size, 0, none⟩ 1 1 (nodeC 2 noF false (.slice qa qn qc)).toList rfl (by decide) (nv_news (NV.node _ _ _ _ rfl)).1 (news_one HWM.out) (nv_news (NV.node _ _ _ _ rfl)).2 (len_nodes (Nat.le_trans HXL.out (by decide))).1 (len_nodes (Nat.le_trans HXL.out (by decide))).2 ?_))
      intro p' w3 hown hgrow hwh
      have hwg := where_g hown hwh
      have hb3 : At w3 (A + 1) (nodeC 3 noF false (.slice pa pn pc)) 46 := HINm.out.b.grown hgrow (fun e => by have := (HINm.out.o1 _ e).1; omega)
      have hc3 : At w3 (A + 2) (nodeC 2 noF false (.slice qa qn qc)) 46 := HINm.out.c.grown hgrow (fun e => by have := (HINm.out.o1 _ e).1; omega)
      obtain ⟨xa, xn, xc, rfl⟩ := owns_slice hown
      have d0 : w3.cell? ⟨A + 1, 258, none⟩ = some (.slice pa pn pc) := by rw [hb3.cell, nodeC_args]
      have d1 : w3.frozen? ⟨A + 1, 258, none⟩ = false := hb3.free _
      have HD := Lib.hid (HIN.out.done HA.out.symm HBM.out hown hgrow hwg rfl)
      clear hown hgrow hwh hwg hb3 hc3 cp cq
      go_wp2_with (first | (refine wpList_load_at rfl 46 (.tmp 7) rfl (A + 1) rfl 46 _ _ HD.out.1 Try.underlying46 rfl (size_nodeC _ _ _ _) ?_) | (refine wpList_store_at rfl 46 (.tmp 4) (.tmp 114) rfl A _ rfl rfl 46 _ HD.out.2.1 (size_nodeC _ _ _ _) (by rw [nodeC_size, nodeC_size]) (nodeC_one _ _ _ _ HD.out.2.2.2.1) ?_))
      intro w5 hw5
      have H7 : Hid (At w5 A (nodeC 3 noF false (.slice xa xn xc)) 46) := Lib.hid (by rw [hw5.out]; exact HD.out.2.1.row)
      go_wp2_with fail
      refine bodyPost_ret (results_node3 rfl _ _ A 46 _ _ rfl H7.out Try.underlying46 rfl (size_nodeC _ _ _ _)) rfl ?_
      refine RUPost.yes _ j HYES.out ?_ ?_ HPJ.out
      · rw [hw5.out]; exact below_row HD.out.2.2.1 _ _ (by rw [HA.out]; exact Nat.le_refl _)
      · rw [hw5.out]; exact HD.out.2.2.2.2 _
    · have hjlt := hrp.lt
      have hget : s[j]'hjlt = c := hrp.get
      have t1 : (j : Int) < (s.size : Int) := by omega
      have HN := Lib.hid hrp.next
      by_cases e41 : c = 41
      · subst e41
        have HYES : Hid (R = some (U.grp (ahd ss (.one d)), 41 :: r)) := Lib.hid (by
          obtain ⟨k, hk⟩ : ∃ k, m1 = k + 1 := ⟨m1 - 1, by have := HFU.out; omega⟩
          rw [HRES.out, hk, exp_end k m2 ss d (41 :: r) (.inr ⟨r, rfl⟩)]; rfl)
        have HPJ : Hid (j + (41 :: r).length = s.size ∧ (bs s).drop j = 41 :: r) := Lib.hid ⟨hrp.len, hrp.rest⟩
        clear hrp
        go_wp2_with (first | (refine wpList_load_at rfl 46 (.tmp 8) rfl (A + 2) rfl 46 _ _ HIN.out.c Try.underlying46 rfl (size_nodeC _ _ _ _) ?_) | (refine wpList_nodes rfl _ _ rfl [(nodeC 2 noF false (.slice qa qn qc))] (fun y hy => by rw [List.mem_singleton] at hy; subst hy; exact NV.node _ _ _ _ rfl) rfl (by decide) (by decide) ?_ ?_))
        intro wm HWM
        have hbm : Below wr.heap.size wr wm := by rw [HWM.out]; exact (Below.refl _ _).alloc (Nat.le_refl _) _
        have HINm := Lib.hid (HIN.out.keep hbm)
        have HBM := Lib.hid hbm
        clear hbm
        go_wp2_with (at_builtin; (refine wpList_append_where _ rfl (.tmp 109) (.tmp 111) 44 rfl 46 i0 _ 259 296 Try.underlying44 HI.out HZ0.out HZ1.out HZ2.out HZS.out (by decide) (.slice pa pn pc) xs.length (flat xs) rfl HINm.out.r1 ⟨wr.heap.size, 0, none⟩ 1 1 (nodeC 2 noF false (.slice qa qn qc)).toList rfl (by decide) (nv_news (NV.node _ _ _ _ rfl)).1 (news_one HWM.out) (nv_news (NV.node _ _ _ _ rfl)).2 (len_nodes (Nat.le_trans HXL.out (by decide))).1 (len_nodes (Nat.le_trans HXL.out (by decide))).2 ?_))
        intro p' w3 hown hgrow hwh
        have hwg := where_g hown hwh
        have hb3 : At w3 (A + 1) (nodeC 3 noF false (.slice pa pn pc)) 46 := HINm.out.b.grown hgrow (fun e => by have := (HINm.out.o1 _ e).1; omega)
        have hc3 : At w3 (A + 2) (nodeC 2 noF false (.slice qa qn qc)) 46 := HINm.out.c.grown hgrow (fun e => by have := (HINm.out.o1 _ e).1; omega)
        obtain ⟨xa, xn, xc, rfl⟩ := owns_slice hown
        have d0 : w3.cell? ⟨A + 1, 258, none⟩ = some (.slice pa pn pc) := by rw [hb3.cell, nodeC_args]
        have d1 : w3.frozen? ⟨A + 1, 258, none⟩ = false := hb3.free _
        have HD := Lib.hid (HIN.out.done HA.out.symm HBM.out hown hgrow hwg rfl)
        clear hown hgrow hwh hwg hb3 hc3 cp cq
        go_wp2_with (first | (refine wpList_load_at rfl 46 (.tmp 7) rfl (A + 1) rfl 46 _ _ HD.out.1 Try.underlying46 rfl (size_nodeC _ _ _ _) ?_) | (refine wpList_store_at rfl 46 (.tmp 4) (.tmp 114) rfl A _ rfl rfl 46 _ HD.out.2.1 (size_nodeC _ _ _ _) (by rw [nodeC_size, nodeC_size]) (nodeC_one _ _ _ _ HD.out.2.2.2.1) ?_))
        intro w5 hw5
        have H7 : Hid (At w5 A (nodeC 3 noF false (.slice xa xn xc)) 46) := Lib.hid (by rw [hw5.out]; exact HD.out.2.1.row)
        go_wp2_with fail
        refine bodyPost_ret (results_node3 rfl _ _ A 46 _ _ rfl H7.out Try.underlying46 rfl (size_nodeC _ _ _ _)) rfl ?_
        refine RUPost.yes _ j HYES.out ?_ ?_ HPJ.out
        · rw [hw5.out]; exact below_row HD.out.2.2.1 _ _ (by rw [HA.out]; exact Nat.le_refl _)
        · rw [hw5.out]; exact HD.out.2.2.2.2 _
      have d41 : ((c.toNat : Int) != 41) = true := by rw [bne_iff_ne]; exact beq_eq_false_iff_ne.1 (u8_ne e41)
      by_cases e124 : c = 124
      · subst e124
        have HRE2 : Hid (∃ k, 4 * r.length + 2 ≤ k ∧ k < n + 1 ∧ R = grpRes (expRest k k (ss ++ [d]) .nil r)) := Lib.hid (by
          have hf := HFU.out
          simp only [List.length_cons] at hf
          obtain ⟨k, hk⟩ : ∃ k, m1 = k + 1 := ⟨m1 - 1, by omega⟩
          obtain ⟨k2, hk2⟩ : ∃ k2, m2 = k2 + 1 := ⟨m2 - 1, by omega⟩
          exact ⟨k2, by omega, by omega, by rw [HRES.out, hk, hk2, exp_bar]⟩)
        clear hrp e41
        go_wp2_with (first | (refine wpList_load_at rfl 46 (.tmp 8) rfl (A + 2) rfl 46 _ _ HIN.out.c Try.underlying46 rfl (size_nodeC _ _ _ _) ?_) | (refine wpList_nodes rfl _ _ rfl [(nodeC 2 noF false (.slice qa qn qc))] (fun y hy => by rw [List.mem_singleton] at hy; subst hy; exact NV.node _ _ _ _ rfl) rfl (by decide) (by decide) ?_ ?_))
        intro wm HWM
        have hbm : Below wr.heap.size wr wm := by rw [HWM.out]; exact (Below.refl _ _).alloc (Nat.le_refl _) _
        have HINm := Lib.hid (HIN.out.keep hbm)
        have HBM := Lib.hid hbm
        clear hbm
        go_wp2_with (at_builtin; (refine wpList_append_where _ rfl (.tmp 29) (.tmp 31) 44 rfl 46 i0 _ 259 296 Try.underlying44 HI.out HZ0.out HZ1.out HZ2.out HZS.out (by decide) (.slice pa pn pc) xs.length (flat xs) rfl HINm.out.r1 ⟨wr.heap.size, 0, none⟩ 1 1 (nodeC 2 noF false (.slice qa qn qc)).toList rfl (by decide) (nv_news (NV.node _ _ _ _ rfl)).1 (news_one HWM.out) (nv_news (NV.node _ _ _ _ rfl)).2 (len_nodes (Nat.le_trans HXL.out (by decide))).1 (len_nodes (Nat.le_trans HXL.out (by decide))).2 ?_))
        intro p' w3 hown hgrow hwh
        have hwg := where_g hown hwh
        have hb3 : At w3 (A + 1) (nodeC 3 noF false (.slice pa pn pc)) 46 := HINm.out.b.grown hgrow (fun e => by have := (HINm.out.o1 _ e).1; omega)
        have hc3 : At w3 (A + 2) (nodeC 2 noF false (.slice qa qn qc)) 46 := HINm.out.c.grown hgrow (fun e => by have := (HINm.out.o1 _ e).1; omega)
        obtain ⟨xa, xn, xc, rfl⟩ := owns_slice hown
        have d0 : w3.cell? ⟨A + 1, 258, none⟩ = some (.slice pa pn pc) := by rw [hb3.cell, nodeC_args]
        have d1 : w3.frozen? ⟨A + 1, 258, none⟩ = false := hb3.free _
        have HPU := Lib.hid (HIN.out.push HBM.out hown hgrow hwg rfl)
        have HC4 : Hid (At (w3.setCell ⟨A + 1, 258, none⟩ (.slice xa xn xc)) (A + 2) (nodeC 2 noF false (.slice qa qn qc)) 46) := Lib.hid (hc3.other _ (by show A + 2 ≠ A + 1; omega))
        clear hown hgrow hwh hwg hb3 hc3 cp cq
        go_wp2_with (refine wpList_store_at rfl 46 (.tmp 8) (.tmp 34) rfl (A + 2) _ rfl rfl 46 _ HC4.out (by rw [HB2.out]; exact size_nodeC _ _ _ _) (by rw [HB2.out, nodeC_size, nodeC_size]) (by rw [HB2.out]; exact nodeC_one _ _ _ _ rfl) ?_)
        intro w5 hw5
        have HE5 : Hid (EIn W A (ss ++ [d]) .nil w5 (.slice xa xn xc) nilS (xs ++ [(nodeC 2 noF false (.slice qa qn qc))]) []) := Lib.hid (by rw [hw5.out, HB2.out]; exact HPU.out)
        clear hw5 HPU HC4 d0 d1
        go_wp2_with fail
        go_roundg (s.size + 1 - (j + 1))
        case measure => have := HK.out; omega
        case rel =>
          obtain ⟨k, hk1, hk2, hk3⟩ := HRE2.out
          exact ⟨j + 1, k, k, ss ++ [d], .nil, r, .slice xa xn xc, nilS, _, [], rfl, rfl, HN.out, ⟨hk1, hk1, hk2, hk2⟩, hk3, HE5.out, by have := HXJ.out; simp; omega, Nat.zero_le _⟩
      · have d124 : ((c.toNat : Int) == 124) = false := u8_ne e124
        obtain ⟨m1, rfl⟩ : ∃ k, m1 = k + 1 := ⟨m1 - 1, by have := HFU.out; omega⟩
        have hat := HAT.out m1 (by have := HFU.out; omega) wr s j c r HS.out hrp (by have := HFU.out; omega)
        clear hrp
        rcases ha : atom m1 (c :: r) with _ | ⟨u, r1⟩
        · have HNO : Hid (R = none) := Lib.hid (by rw [HRES.out, exp_none m1 m2 ss d c r e124 e41 ha]; rfl)
          have HAC : Hid (Calls Try.prog 53 #[.string s, .int .i64 j] wr fun e w' => Below wr.heap.size wr w' ∧ ∃ x j, NV x ∧ e = .returned (.tuple #[.agg x, .int .i64 j, .bool false])) := Lib.hid (hat.mono fun e w' h => by unfold RUPost at h; rw [ha] at h; exact h)
          clear ha hat HRES e41 e124
          go_wp2_with fail
          refine (HAC.out).mono ?_
          rintro e w1 ⟨hb, x, jx, hnv, rfl⟩
          have HNV := Lib.hid hnv
          have HIN1 := Lib.hid (HIN.out.keep hb)
          have HSZ : Hid (A + 3 ≤ w1.heap.size) := Lib.hid HIN1.out.size
          have HW1 : Hid (At (w1.alloc (.cells Try.zeroCells46 46)) w1.heap.size (nodeC 0 noF false nilS) 46) := Lib.hid (by rw [zero_node]; exact At.new w1 _ _)
          clear hb hnv cp cq
          go_wp2_with (refine wpList_store_at rfl 46 (.tmp 9) (.tmp 41) rfl w1.heap.size x rfl rfl 46 _ HW1.out HNV.out.info (by rw [nodeC_size, HNV.out.size]) HNV.out.one ?_)
          intro w2 hw2
          have HIN2 : Hid (EIn W A ss d w2 (.slice pa pn pc) (.slice qa qn qc) xs ys) := Lib.hid (by
            rw [hw2.out]
            exact HIN1.out.keep (below_row ((Below.refl _ _).alloc (Nat.le_refl _) _) _ _ (Nat.le_refl _)))
          clear hw2 HW1 HIN1
          go_wp2_with (first | (refine wpList_load_at rfl 46 (.tmp 7) rfl (A + 1) rfl 46 _ _ HIN2.out.b Try.underlying46 rfl (size_nodeC _ _ _ _) ?_) | (refine wpList_store_at rfl 46 (.tmp 4) (.tmp 46) rfl A _ rfl rfl 46 _ HIN2.out.a (size_nodeC _ _ _ _) (by rw [nodeC_size, nodeC_size]) (nodeC_one _ _ _ _ rfl) ?_))
          intro w8 hw8
          have H7 : Hid (At w8 A (nodeC 3 noF false (.slice pa pn pc)) 46) := Lib.hid (by rw [hw8.out]; exact HIN2.out.a.row)
          have H8 : Hid (Below W.heap.size W w8) := Lib.hid (by rw [hw8.out]; have hb := HIN2.out.below; rw [← HA.out] at hb; exact below_row hb _ _ (by rw [HA.out]; exact Nat.le_refl _))
          clear hw8
          go_wp2_with fail
          refine bodyPost_ret (results_node3 rfl _ _ A 46 _ _ rfl H7.out Try.underlying46 rfl (size_nodeC _ _ _ _)) rfl ?_
          exact RUPost.no _ _ HNO.out H8.out (NV.node _ _ _ _ rfl)
        · have HRE2 : Hid (R = grpRes (expRest m1 m2 ss (cat d (.cons (quant u r1).1 .nil)) (quant u r1).2)) := Lib.hid (by rw [HRES.out, exp_some m1 m2 ss d c r r1 u e124 e41 ha])
          have HAC : Hid (Calls Try.prog 53 #[.string s, .int .i64 j] wr fun e w' => Below wr.heap.size wr w' ∧ ∃ (x : Array Value) (k : Nat), RnU (Fresh wr w') w' u x ∧ (k + r1.length = s.size ∧ (bs s).drop k = r1) ∧ e = .returned (.tuple #[.agg x, .int .i64 k, .bool true])) := Lib.hid (hat.mono fun e w' h => by unfold RUPost at h; rw [ha] at h; exact h)
          have HSH : Hid (r1.length < (c :: r).length) := Lib.hid ((short m1).2.2 _ _ _ ha)
          clear ha hat HRES e41 e124
          go_wp2_with fail
          refine (HAC.out).mono ?_
          rintro e w1 ⟨hb, x, k, hx, ⟨hk1, hk2⟩, rfl⟩
          have hnv := hx.nv
          have HNV := Lib.hid hnv
          have HPK : Hid (RP s k r1) := Lib.hid ⟨by omega, hk2⟩
          have hkl : (k : Int) ≤ 1000 := by omega
          have HIN1 := Lib.hid (HIN.out.keep hb)
          have HBW := Lib.hid hb
          have HX1 := Lib.hid hx
          have HW1 : Hid (At (w1.alloc (.cells Try.zeroCells46 46)) w1.heap.size (nodeC 0 noF false nilS) 46) := Lib.hid (by rw [zero_node]; exact At.new w1 _ _)
          clear hb hnv hx hk1 hk2 cp cq
          go_wp2_with (refine wpList_store_at rfl 46 (.tmp 9) (.tmp 41) rfl w1.heap.size x rfl rfl 46 _ HW1.out HNV.out.info (by rw [nodeC_size, HNV.out.size]) HNV.out.one ?_)
          intro w2 hw2
          have hb2 : Below w1.heap.size w1 w2 := by rw [hw2.out]; exact below_row ((Below.refl _ _).alloc (Nat.le_refl _) _) _ _ (Nat.le_refl _)
          have hs2 : w2.heap.size = w1.heap.size + 1 := by rw [hw2.out, size_setRow]; show (w1.heap.push _).size = _; simp
          have HIN2 : Hid (EIn W A ss d w2 (.slice pa pn pc) (.slice qa qn qc) xs ys) := Lib.hid (HIN1.out.keep hb2)
          have H9 : Hid (At w2 w1.heap.size x 46) := Lib.hid (by rw [hw2.out]; exact HW1.out.row)
          have HX2 : Hid (RnU (Fresh wr w1) w2 u x) := Lib.hid (RnU.same (fun k hk => hb2.block k hk.2) (fun k hk => hk) u x HX1.out)
          have HSB : Hid (wr.heap.size ≤ w1.heap.size ∧ w1.heap.size < w2.heap.size) := Lib.hid ⟨HBW.out.size, by omega⟩
          have HBW2 : Hid (Below wr.heap.size wr w2) := Lib.hid (HBW.out.trans (hb2.mono HBW.out.size))
          have HFR : Hid (∀ k, Fresh wr w1 k → wr.heap.size ≤ k ∧ k < w1.heap.size) := Lib.hid (fun k hk => hk)
          generalize hS0 : Fresh wr w1 = S0 at *
          clear hw2 HW1 HIN1 HX1 HBW hb2 hs2 hS0
          generalize w1.heap.size = B at *
          rcases r1 with _ | ⟨c2, r2⟩
          · have u1 : ¬ (k : Int) < (s.size : Int) := by have := HPK.out.nil; omega
            have u1n : ¬ k < s.size := by have := HPK.out.nil; omega
            have HRR : Hid (R = grpRes (expRest m1 m2 ss (cat d (.cons u .nil)) [])) := Lib.hid HRE2.out
            clear HRE2
            have HXU : Hid (∃ S, RnU S w2 u x ∧ ∀ k, S k → Nest A w2 (.slice pa pn pc) (.slice qa qn qc) k) := Lib.hid ⟨S0, HX2.out, fun k hk => HIN.out.nest (HFR.out k hk).1 (by have := (HFR.out k hk).2; have := HSB.out; omega)⟩
            have cq : w2.cell? ⟨A + 2, 258, none⟩ = some (.slice qa qn qc) := by rw [HIN2.out.c.cell, nodeC_args]
            have HJJ : Hid (j < k ∧ k ≤ s.size) := Lib.hid (by
              have e1 := HRP.out.len
              have e2 := HPK.out.len
              have e3 := HSH.out
              have e0 : ([] : List UInt8).length = 0 := rfl
              simp only [List.length_cons] at e1 e2 e3
              omega)
            go_wp2_with (first | (refine wpList_load_at rfl 46 (.tmp 9) rfl B rfl 46 _ _ H9.out Try.underlying46 rfl HNV.out.info ?_) | (refine wpList_nodes rfl _ _ rfl [x] (fun y hy => by rw [List.mem_singleton] at hy; subst hy; exact HNV.out) rfl (by decide) (by decide) ?_ ?_))
            intro wm HWM
            have hbm : Below w2.heap.size w2 wm := by rw [HWM.out]; exact (Below.refl _ _).alloc (Nat.le_refl _) _
            have HINm := Lib.hid (HIN2.out.keep hbm)
            have HBM := Lib.hid hbm
            clear hbm
            go_wp2_with (at_builtin; (refine wpList_append_where _ rfl (.tmp 103) (.tmp 105) 44 rfl 46 i0 _ 259 296 Try.underlying44 HI.out HZ0.out HZ1.out HZ2.out HZS.out (by decide) (.slice qa qn qc) ys.length (flat ys) rfl HINm.out.r2 ⟨w2.heap.size, 0, none⟩ 1 1 x.toList rfl (by decide) (nv_news HNV.out).1 (news_one HWM.out) (nv_news HNV.out).2 (len_nodes (Nat.le_trans HYL.out (by decide))).1 (len_nodes (Nat.le_trans HYL.out (by decide))).2 ?_))
            intro q' w3 hown hgrow hwh
            have hwg := where_g hown hwh
            have hc3 : At w3 (A + 2) (nodeC 2 noF false (.slice qa qn qc)) 46 := HINm.out.c.grown hgrow (fun e => by have := (HINm.out.o2 _ e).1; omega)
            obtain ⟨xa, xn, xc, rfl⟩ := owns_slice hown
            have d0 : w3.cell? ⟨A + 2, 258, none⟩ = some (.slice qa qn qc) := by rw [hc3.cell, nodeC_args]
            have d1 : w3.frozen? ⟨A + 2, 258, none⟩ = false := hc3.free _
            have HPU : Hid (EIn W A ss (cat d (.cons u .nil)) (w3.setCell ⟨A + 2, 258, none⟩ (.slice xa xn xc)) (.slice pa pn pc) (.slice xa xn xc) xs (ys ++ [x])) := Lib.hid (by
              obtain ⟨S, hx1, hx2⟩ := HXU.out
              exact HIN2.out.put hx1 hx2 HBM.out hown hgrow hwg rfl)
            clear hown hgrow hwh hwg hc3 cq
            go_wp2_with fail
            go_roundg (s.size + 1 - k)
            case measure => have e1 := HK.out; have e2 := HJJ.out; omega
            case rel =>
              have e1 := HJJ.out
              have e2 := HXJ.out
              have e3 := HYJ.out
              have e4 := HFU.out
              have e5 := HSH.out
              have e0 : ([] : List UInt8).length = 0 := rfl
              simp only [List.length_cons] at e4 e5
              exact ⟨k, m1, m2, ss, _, [], .slice pa pn pc, .slice xa xn xc, xs, _, rfl, rfl, HPK.out, ⟨by simp only [List.length_cons, e0] at *; omega, by simp only [List.length_cons, e0] at *; omega, by omega, by omega⟩, HRR.out, HPU.out, by omega, by rw [List.length_append, List.length_singleton]; omega⟩
          · have hklt := HPK.out.lt
            have hkget : s[k]'hklt = c2 := HPK.out.get
            have u1 : (k : Int) < (s.size : Int) := by omega
            by_cases hq : isQ c2
            · have HRR0 : Hid (R = grpRes (expRest m1 m2 ss (cat d (.cons (qU c2 u) .nil)) r2)) := Lib.hid (by rw [HRE2.out, quant_yes hq])
              have HPK2 := Lib.hid HPK.out.next
              have HQ := Lib.hid hq
              have HSP : Hid (Calls Try.prog 54 #[.agg x, .int .u8 c2.toNat] w2.drew fun e w' => Below w2.drew.heap.size w2.drew w' ∧ ∃ q, e = .returned (.agg q) ∧ NV q ∧ RnU (fun k => S0 k ∨ Fresh w2.drew w' k) w' (qU c2 u) q) := Lib.hid (rrep_any c2 hq u x S0 w2.drew (RnU.same (W := w2) (W' := w2.drew) (fun _ _ => rfl) (fun _ h => h) u x HX2.out) (fun k hk => by have := (HFR.out k hk).2; have := HSB.out; show k < w2.heap.size; omega))
              have hq3 : (((c2.toNat : Int) == 42) = true) ∨ (((c2.toNat : Int) == 42) = false ∧ ((c2.toNat : Int) == 43) = true) ∨ (((c2.toNat : Int) == 42) = false ∧ ((c2.toNat : Int) == 43) = false ∧ ((c2.toNat : Int) == 63) = true) := by
                rcases hq with rfl | rfl | rfl
                · exact .inl rfl
                · exact .inr (.inl ⟨rfl, rfl⟩)
                · exact .inr (.inr ⟨rfl, rfl, rfl⟩)
              clear HRE2 hq
              go_upto_region 12 with fail
              go_cut [70] (fun v wx => v = .bool true ∧ w2 = wx)
              case first =>
                rcases hq3 with g1 | ⟨g1, g2⟩ | ⟨g1, g2, g3⟩
                all_goals
                  go_wp2_with fail
                  go_meet
                  exact ⟨rfl, rfl⟩
              case rest =>
              obtain ⟨rfl, rfl⟩ := hcut
              clear hq3
              go_upto_region 13 with fail
              have HIN5 := Lib.hid HIN2.out.drew
              have H95 : Hid (At w2.drew B x 46) := Lib.hid H9.out.drew
              have HB5 : Hid (Below wr.heap.size wr w2.drew) := Lib.hid ⟨HBW2.out.os, HBW2.out.tape, HBW2.out.output, HBW2.out.size, HBW2.out.block⟩
              have HSB5 : Hid (wr.heap.size ≤ B ∧ B < w2.drew.heap.size) := Lib.hid HSB.out
              refine wp_region_still_tail 4 (by kernel_rfl) (by kernel_rfl) ?_
              simp only [List.take_succ_cons, List.take_zero, List.drop_succ_cons, List.drop_zero]
              refine wpStill_load_at rfl 46 (.tmp 9) rfl B rfl 46 x _ H95.out Try.underlying46 rfl HNV.out.info ?_
              repeat still_step
              try refine wpStill_nil ?_
              change wpList _ _ _ _ _ w2.drew
              clear HIN2 H9 HBW2 HSB HX2
              generalize w2.drew = w5 at *
              go_wp2_with fail
              refine (HSP.out).mono ?_
              rintro e w6 ⟨hb6, qn6, rfl, hnq, hxq⟩
              have HNVQ := Lib.hid hnq
              have H96 : Hid (At w6 B x 46) := Lib.hid (H95.out.below hb6)
              have HB6 : Hid (Below wr.heap.size wr w6) := Lib.hid (HB5.out.trans (hb6.mono HB5.out.size))
              have HSB6 : Hid (wr.heap.size ≤ B ∧ B < w5.heap.size ∧ w5.heap.size ≤ w6.heap.size) := Lib.hid ⟨HSB5.out.1, HSB5.out.2, hb6.size⟩
              have HXQ := Lib.hid hxq
              clear hb6 hnq hxq HSP
              go_wp2_with (refine wpList_store_at rfl 46 (.tmp 9) (.tmp 75) rfl B qn6 rfl rfl 46 _ H96.out HNVQ.out.info (by rw [HNV.out.size, HNVQ.out.size]) HNVQ.out.one ?_)
              intro w7 hw7
              have HE7 : Hid (EIn W A ss d w7 (.slice pa pn pc) (.slice qa qn qc) xs ys) := Lib.hid (by rw [hw7.out]; exact HIN.out.keep (below_row HB6.out _ _ HSB6.out.1))
              have H97 : Hid (At w7 B qn6 46) := Lib.hid (by rw [hw7.out]; exact H96.out.row)
              have HXU : Hid (∃ S, RnU S w7 (qU c2 u) qn6 ∧ ∀ k, S k → Nest A w7 (.slice pa pn pc) (.slice qa qn qc) k) := Lib.hid (by
                have hs7 : w7.heap.size = w6.heap.size := by rw [hw7.out]; exact size_setRow _ _ _
                have hbd := HSB6.out
                refine ⟨fun k => S0 k ∨ Fresh w5 w6 k, RnU.same (fun k hk => ?_) (fun k hk => hk) _ _ HXQ.out, fun k hk => ?_⟩
                · rw [hw7.out, setRow_other w6 _ _ _ (by
                    rcases hk with hk | hk
                    · have := (HFR.out k hk).2; omega
                    · have := hk.1; omega)]
                · refine HIN.out.nest ?_ ?_
                  · rcases hk with hk | hk
                    · exact (HFR.out k hk).1
                    · have := hk.1; omega
                  · rcases hk with hk | hk
                    · have := (HFR.out k hk).2; omega
                    · have := hk.2; omega)
              clear hw7 H96 HB6 HXQ H95 HB5 HIN5
              rcases r2 with _ | ⟨c3, r3⟩
              · have v1 : ¬ (k : Int) + 1 < (s.size : Int) := by have := HPK2.out.nil; omega
                have v1n : ¬ k + 1 < s.size := by have := HPK2.out.nil; omega
                have HRR : Hid (R = grpRes (expRest m1 m2 ss (cat d (.cons (qU c2 u) .nil)) [])) := Lib.hid HRR0.out
                clear HRR0
                have cq : w7.cell? ⟨A + 2, 258, none⟩ = some (.slice qa qn qc) := by rw [HE7.out.c.cell, nodeC_args]
                have HJJ : Hid (j < (k + 1) ∧ (k + 1) ≤ s.size) := Lib.hid (by
                  have e1 := HRP.out.len
                  have e2 := HPK2.out.len
                  have e3 := HSH.out
                  have e0 : ([] : List UInt8).length = 0 := rfl
                  simp only [List.length_cons] at e1 e2 e3
                  omega)
                go_wp2_with (first | (refine wpList_load_at rfl 46 (.tmp 9) rfl B rfl 46 _ _ H97.out Try.underlying46 rfl HNVQ.out.info ?_) | (refine wpList_nodes rfl _ _ rfl [qn6] (fun y hy => by rw [List.mem_singleton] at hy; subst hy; exact HNVQ.out) rfl (by decide) (by decide) ?_ ?_))
                intro wm HWM
                have hbm : Below w7.heap.size w7 wm := by rw [HWM.out]; exact (Below.refl _ _).alloc (Nat.le_refl _) _
                have HINm := Lib.hid (HE7.out.keep hbm)
                have HBM := Lib.hid hbm
                clear hbm
                go_wp2_with (at_builtin; (refine wpList_append_where _ rfl (.tmp 103) (.tmp 105) 44 rfl 46 i0 _ 259 296 Try.underlying44 HI.out HZ0.out HZ1.out HZ2.out HZS.out (by decide) (.slice qa qn qc) ys.length (flat ys) rfl HINm.out.r2 ⟨w7.heap.size, 0, none⟩ 1 1 qn6.toList rfl (by decide) (nv_news HNVQ.out).1 (news_one HWM.out) (nv_news HNVQ.out).2 (len_nodes (Nat.le_trans HYL.out (by decide))).1 (len_nodes (Nat.le_trans HYL.out (by decide))).2 ?_))
                intro q' w3 hown hgrow hwh
                have hwg := where_g hown hwh
                have hc3 : At w3 (A + 2) (nodeC 2 noF false (.slice qa qn qc)) 46 := HINm.out.c.grown hgrow (fun e => by have := (HINm.out.o2 _ e).1; omega)
                obtain ⟨xa, xn, xc, rfl⟩ := owns_slice hown
                have d0 : w3.cell? ⟨A + 2, 258, none⟩ = some (.slice qa qn qc) := by rw [hc3.cell, nodeC_args]
                have d1 : w3.frozen? ⟨A + 2, 258, none⟩ = false := hc3.free _
                have HPU : Hid (EIn W A ss (cat d (.cons (qU c2 u) .nil)) (w3.setCell ⟨A + 2, 258, none⟩ (.slice xa xn xc)) (.slice pa pn pc) (.slice xa xn xc) xs (ys ++ [qn6])) := Lib.hid (by
                  obtain ⟨S, hx1, hx2⟩ := HXU.out
                  exact HE7.out.put hx1 hx2 HBM.out hown hgrow hwg rfl)
                clear hown hgrow hwh hwg hc3 cq
                go_wp2_with fail
                go_roundg (s.size + 1 - (k + 1))
                case measure => have e1 := HK.out; have e2 := HJJ.out; omega
                case rel =>
                  have e1 := HJJ.out
                  have e2 := HXJ.out
                  have e3 := HYJ.out
                  have e4 := HFU.out
                  have e5 := HSH.out
                  have e0 : ([] : List UInt8).length = 0 := rfl
                  simp only [List.length_cons] at e4 e5
                  exact ⟨(k + 1), m1, m2, ss, _, [], .slice pa pn pc, .slice xa xn xc, xs, _, rfl, rfl, HPK2.out, ⟨by simp only [List.length_cons, e0] at *; omega, by simp only [List.length_cons, e0] at *; omega, by omega, by omega⟩, HRR.out, HPU.out, by omega, by rw [List.length_append, List.length_singleton]; omega⟩
              · have hk2lt := HPK2.out.lt
                have hk2get : s[k + 1]'hk2lt = c3 := HPK2.out.get
                have v1 : (k : Int) + 1 < (s.size : Int) := by omega
                by_cases hq3 : isQ c3
                · have HNO : Hid (R = none) := Lib.hid (by
                    have e4 := HFU.out
                    have e5 := HSH.out
                    simp only [List.length_cons] at e4 e5
                    obtain ⟨k, hk⟩ : ∃ k, m1 = k + 2 := ⟨m1 - 2, by omega⟩
                    rw [HRR0.out, hk, exp_quant k m2 ss _ c3 r3 hq3]; rfl)
                  have hq4 : (((c3.toNat : Int) == 42) = true) ∨ (((c3.toNat : Int) == 42) = false ∧ ((c3.toNat : Int) == 43) = true) ∨ (((c3.toNat : Int) == 42) = false ∧ ((c3.toNat : Int) == 43) = false ∧ ((c3.toNat : Int) == 63) = true) := by
                    rcases hq3 with rfl | rfl | rfl
                    · exact .inl rfl
                    · exact .inr (.inl ⟨rfl, rfl⟩)
                    · exact .inr (.inr ⟨rfl, rfl, rfl⟩)
                  clear HRR0 hq3 HXU H97
                  rcases hq4 with g1 | ⟨g1, g2⟩ | ⟨g1, g2, g3⟩
                  all_goals
                    go_wp2_with (first | (refine wpList_load_at rfl 46 (.tmp 7) rfl (A + 1) rfl 46 _ _ HE7.out.b Try.underlying46 rfl (size_nodeC _ _ _ _) ?_) | (refine wpList_store_at rfl 46 (.tmp 4) (.tmp 100) rfl A _ rfl rfl 46 _ HE7.out.a (size_nodeC _ _ _ _) (by rw [nodeC_size, nodeC_size]) (nodeC_one _ _ _ _ rfl) ?_))
                    intro w8 hw8
                    have H7 : Hid (At w8 A (nodeC 3 noF false (.slice pa pn pc)) 46) := Lib.hid (by rw [hw8.out]; exact HE7.out.a.row)
                    have H8 : Hid (Below W.heap.size W w8) := Lib.hid (by rw [hw8.out]; have hb := HE7.out.below; rw [← HA.out] at hb; exact below_row hb _ _ (by rw [HA.out]; exact Nat.le_refl _))
                    clear hw8
                    go_wp2_with fail
                    refine bodyPost_ret (results_node3 rfl _ _ A 46 _ _ rfl H7.out Try.underlying46 rfl (size_nodeC _ _ _ _)) rfl ?_
                    exact RUPost.no _ _ HNO.out H8.out (NV.node _ _ _ _ rfl)
                · have HRR : Hid (R = grpRes (expRest m1 m2 ss (cat d (.cons (qU c2 u) .nil)) (c3 :: r3))) := Lib.hid HRR0.out
                  have g1 : ((c3.toNat : Int) == 42) = false := u8_ne (fun e => hq3 (.inl e))
                  have g2 : ((c3.toNat : Int) == 43) = false := u8_ne (fun e => hq3 (.inr (.inl e)))
                  have g3 : ((c3.toNat : Int) == 63) = false := u8_ne (fun e => hq3 (.inr (.inr e)))
                  clear HRR0 hq3
                  have cq : w7.cell? ⟨A + 2, 258, none⟩ = some (.slice qa qn qc) := by rw [HE7.out.c.cell, nodeC_args]
                  have HJJ : Hid (j < (k + 1) ∧ (k + 1) ≤ s.size) := Lib.hid (by
                    have e1 := HRP.out.len
                    have e2 := HPK2.out.len
                    have e3 := HSH.out
                    have e0 : ([] : List UInt8).length = 0 := rfl
                    simp only [List.length_cons] at e1 e2 e3
                    omega)
                  go_wp2_with (first | (refine wpList_load_at rfl 46 (.tmp 9) rfl B rfl 46 _ _ H97.out Try.underlying46 rfl HNVQ.out.info ?_) | (refine wpList_nodes rfl _ _ rfl [qn6] (fun y hy => by rw [List.mem_singleton] at hy; subst hy; exact HNVQ.out) rfl (by decide) (by decide) ?_ ?_))
                  intro wm HWM
                  have hbm : Below w7.heap.size w7 wm := by rw [HWM.out]; exact (Below.refl _ _).alloc (Nat.le_refl _) _
                  have HINm := Lib.hid (HE7.out.keep hbm)
                  have HBM := Lib.hid hbm
                  clear hbm
                  go_wp2_with (at_builtin; (refine wpList_append_where _ rfl (.tmp 103) (.tmp 105) 44 rfl 46 i0 _ 259 296 Try.underlying44 HI.out HZ0.out HZ1.out HZ2.out HZS.out (by decide) (.slice qa qn qc) ys.length (flat ys) rfl HINm.out.r2 ⟨w7.heap.size, 0, none⟩ 1 1 qn6.toList rfl (by decide) (nv_news HNVQ.out).1 (news_one HWM.out) (nv_news HNVQ.out).2 (len_nodes (Nat.le_trans HYL.out (by decide))).1 (len_nodes (Nat.le_trans HYL.out (by decide))).2 ?_))
                  intro q' w3 hown hgrow hwh
                  have hwg := where_g hown hwh
                  have hc3 : At w3 (A + 2) (nodeC 2 noF false (.slice qa qn qc)) 46 := HINm.out.c.grown hgrow (fun e => by have := (HINm.out.o2 _ e).1; omega)
                  obtain ⟨xa, xn, xc, rfl⟩ := owns_slice hown
                  have d0 : w3.cell? ⟨A + 2, 258, none⟩ = some (.slice qa qn qc) := by rw [hc3.cell, nodeC_args]
                  have d1 : w3.frozen? ⟨A + 2, 258, none⟩ = false := hc3.free _
                  have HPU : Hid (EIn W A ss (cat d (.cons (qU c2 u) .nil)) (w3.setCell ⟨A + 2, 258, none⟩ (.slice xa xn xc)) (.slice pa pn pc) (.slice xa xn xc) xs (ys ++ [qn6])) := Lib.hid (by
                    obtain ⟨S, hx1, hx2⟩ := HXU.out
                    exact HE7.out.put hx1 hx2 HBM.out hown hgrow hwg rfl)
                  clear hown hgrow hwh hwg hc3 cq
                  go_wp2_with fail
                  go_roundg (s.size + 1 - (k + 1))
                  case measure => have e1 := HK.out; have e2 := HJJ.out; omega
                  case rel =>
                    have e1 := HJJ.out
                    have e2 := HXJ.out
                    have e3 := HYJ.out
                    have e4 := HFU.out
                    have e5 := HSH.out
                    have e0 : ([] : List UInt8).length = 0 := rfl
                    simp only [List.length_cons] at e4 e5
                    exact ⟨(k + 1), m1, m2, ss, _, (c3 :: r3), .slice pa pn pc, .slice xa xn xc, xs, _, rfl, rfl, HPK2.out, ⟨by simp only [List.length_cons, e0] at *; omega, by simp only [List.length_cons, e0] at *; omega, by omega, by omega⟩, HRR.out, HPU.out, by omega, by rw [List.length_append, List.length_singleton]; omega⟩
            · have HRR : Hid (R = grpRes (expRest m1 m2 ss (cat d (.cons u .nil)) (c2 :: r2))) := Lib.hid (by rw [HRE2.out, quant_no (fun c r e => by injection e with e _; subst e; exact hq)])
              have g1 : ((c2.toNat : Int) == 42) = false := u8_ne (fun e => hq (.inl e))
              have g2 : ((c2.toNat : Int) == 43) = false := u8_ne (fun e => hq (.inr (.inl e)))
              have g3 : ((c2.toNat : Int) == 63) = false := u8_ne (fun e => hq (.inr (.inr e)))
              clear HRE2 hq
              have HXU : Hid (∃ S, RnU S w2 u x ∧ ∀ k, S k → Nest A w2 (.slice pa pn pc) (.slice qa qn qc) k) := Lib.hid ⟨S0, HX2.out, fun k hk => HIN.out.nest (HFR.out k hk).1 (by have := (HFR.out k hk).2; have := HSB.out; omega)⟩
              have cq : w2.cell? ⟨A + 2, 258, none⟩ = some (.slice qa qn qc) := by rw [HIN2.out.c.cell, nodeC_args]
              have HJJ : Hid (j < k ∧ k ≤ s.size) := Lib.hid (by
                have e1 := HRP.out.len
                have e2 := HPK.out.len
                have e3 := HSH.out
                have e0 : ([] : List UInt8).length = 0 := rfl
                simp only [List.length_cons] at e1 e2 e3
                omega)
              go_wp2_with (first | (refine wpList_load_at rfl 46 (.tmp 9) rfl B rfl 46 _ _ H9.out Try.underlying46 rfl HNV.out.info ?_) | (refine wpList_nodes rfl _ _ rfl [x] (fun y hy => by rw [List.mem_singleton] at hy; subst hy; exact HNV.out) rfl (by decide) (by decide) ?_ ?_))
              intro wm HWM
              have hbm : Below w2.heap.size w2 wm := by rw [HWM.out]; exact (Below.refl _ _).alloc (Nat.le_refl _) _
              have HINm := Lib.hid (HIN2.out.keep hbm)
              have HBM := Lib.hid hbm
              clear hbm
              go_wp2_with (at_builtin; (refine wpList_append_where _ rfl (.tmp 103) (.tmp 105) 44 rfl 46 i0 _ 259 296 Try.underlying44 HI.out HZ0.out HZ1.out HZ2.out HZS.out (by decide) (.slice qa qn qc) ys.length (flat ys) rfl HINm.out.r2 ⟨w2.heap.size, 0, none⟩ 1 1 x.toList rfl (by decide) (nv_news HNV.out).1 (news_one HWM.out) (nv_news HNV.out).2 (len_nodes (Nat.le_trans HYL.out (by decide))).1 (len_nodes (Nat.le_trans HYL.out (by decide))).2 ?_))
              intro q' w3 hown hgrow hwh
              have hwg := where_g hown hwh
              have hc3 : At w3 (A + 2) (nodeC 2 noF false (.slice qa qn qc)) 46 := HINm.out.c.grown hgrow (fun e => by have := (HINm.out.o2 _ e).1; omega)
              obtain ⟨xa, xn, xc, rfl⟩ := owns_slice hown
              have d0 : w3.cell? ⟨A + 2, 258, none⟩ = some (.slice qa qn qc) := by rw [hc3.cell, nodeC_args]
              have d1 : w3.frozen? ⟨A + 2, 258, none⟩ = false := hc3.free _
              have HPU : Hid (EIn W A ss (cat d (.cons u .nil)) (w3.setCell ⟨A + 2, 258, none⟩ (.slice xa xn xc)) (.slice pa pn pc) (.slice xa xn xc) xs (ys ++ [x])) := Lib.hid (by
                obtain ⟨S, hx1, hx2⟩ := HXU.out
                exact HIN2.out.put hx1 hx2 HBM.out hown hgrow hwg rfl)
              clear hown hgrow hwh hwg hc3 cq
              go_wp2_with fail
              go_roundg (s.size + 1 - k)
              case measure => have e1 := HK.out; have e2 := HJJ.out; omega
              case rel =>
                have e1 := HJJ.out
                have e2 := HXJ.out
                have e3 := HYJ.out
                have e4 := HFU.out
                have e5 := HSH.out
                have e0 : ([] : List UInt8).length = 0 := rfl
                simp only [List.length_cons] at e4 e5
                exact ⟨k, m1, m2, ss, _, (c2 :: r2), .slice pa pn pc, .slice xa xn xc, xs, _, rfl, rfl, HPK.out, ⟨by simp only [List.length_cons, e0] at *; omega, by simp only [List.length_cons, e0] at *; omega, by omega, by omega⟩, HRR.out, HPU.out, by omega, by rw [List.length_append, List.length_singleton]; omega⟩
end Go.Proofs.Ytheblleadjbndaa

namespace Go.Proofs.Ytheblleadjbndaa
open Go.RowKit Rx
theorem rall_ok (n : Nat) : RExpOK n ∧ RAtomOK n := by
  induction n using Nat.strongRecOn with
  | _ n ih =>
    have hE : RExpOK n := rexp_ok n fun m hm => (ih m hm).2
    refine ⟨hE, ?_⟩
    rcases n with _ | n
    · intro W s i c r hs hrp hn; omega
    · exact ratom_ok n (ih n (by omega)).1
/-- What the reference's Parse hands back. -/
def RParse (p : ByteArray) (W : World) (e : Ending) (w' : World) : Prop :=
  Below W.heap.size W w' ∧ ∃ x, NV x ∧ e = .returned (.tuple #[.agg x, .int .i64 (checkR (bs p) : Nat)]) ∧ ∀ a, parse (bs p) = some a → RnU (Fresh W w') w' (.grp a) x
theorem RParse.mk' {p : ByteArray} {W w' : World} {x : Array Value} {k : Int} (hb : Below W.heap.size W w') (hx : NV x) (hk : k = (checkR (bs p) : Nat)) (h : ∀ a, parse (bs p) = some a → RnU (Fresh W w') w' (.grp a) x) : RParse p W (.returned (.tuple #[.agg x, .int .i64 k])) w' := ⟨hb, x, hx, by rw [hk], h⟩

set_option maxRecDepth 100000 in
set_option maxHeartbeats 2000000 in
theorem rparse_any (p : ByteArray) (W : World) : Calls Try.prog 31 #[.string p] W (RParse p W) := by
  have hl : (bs p).length = p.size := bs_length p
  have HRM := Lib.hid (Room.new W)
  have HZ := Lib.hid zero_node
  by_cases h : 200 < p.size
  · have hi : (p.size : Int) > 200 := by omega
    have HC : Hid ((checkR (bs p) : Nat) = 4) := Lib.hid (by unfold checkR; rw [if_pos (by omega)])
    have HN : Hid (parse (bs p) = none) := Lib.hid (parse_long (by omega))
    clear h hl
    go_enter Try.func31, Try.ntmps31
    go_upto_region 1 with fail
    generalize W.alloc (.cells Try.zeroCells46 46) = w0 at *
    go_wp2_with (refine wpList_store_at rfl 46 (.tmp 2) (.tmp 10) rfl W.heap.size _ rfl rfl 46 _ HRM.out.at_ (by rw [HZ.out]; exact size_nodeC _ _ _ _) (by rw [HZ.out]) (by rw [HZ.out]; exact nodeC_one _ _ _ _ rfl) ?_)
    intro w2 hw2
    have H2 : Hid (At w2 W.heap.size (nodeC 0 noF false nilS) 46) := Lib.hid (by rw [hw2.out]; have := HRM.out.at_.row (c' := Try.zeroCells46); rwa [HZ.out] at this ⊢)
    have H3 : Hid (Below W.heap.size W w2) := Lib.hid (by rw [hw2.out]; exact below_row HRM.out.below _ _ (Nat.le_refl _))
    clear hw2
    go_wp2_with fail
    refine bodyPost_ret (results_node2 rfl _ _ W.heap.size 46 _ _ rfl H2.out Try.underlying46 rfl (size_nodeC _ _ _ _)) rfl ?_
    exact RParse.mk' H3.out (NV.node _ _ _ _ rfl) (by rw [HC.out]; rfl) (fun a ha => by rw [HN.out] at ha; cases ha)
  · have hi : ¬ (p.size : Int) > 200 := by omega
    have hsl : (p.size : Int) ≤ 200 := by omega
    have HE : Hid (∀ w, Calls Try.prog 41 #[.string p, .int .i64 0] w (RUPost p w (grpRes (alts (fuel (bs p).length) (bs p))))) := Lib.hid (fun w => (rall_ok _).1 w p 0 (bs p) (by omega) (RP.start p) (by unfold fuel; omega))
    have HC : Hid (checkR (bs p) = if (parse (bs p)).isSome then 0 else 3) := Lib.hid (by unfold checkR; rw [if_neg (by omega)])
    have HPA : Hid (parse (bs p) = match alts (fuel (bs p).length) (bs p) with | some (a, []) => some a | _ => none) := Lib.hid (by unfold parse; rw [if_neg (by omega)]; rfl)
    clear h hl
    go_enter Try.func31, Try.ntmps31
    go_upto_region 1 with fail
    generalize W.alloc (.cells Try.zeroCells46 46) = w0 at *
    go_wp2_with fail
    refine (HE.out _).mono ?_
    rintro e w1 ⟨hb, hres⟩
    have HCC := Lib.hid (HRM.out.call hb)
    have HSZ : Hid (W.heap.size + 1 ≤ w1.heap.size) := Lib.hid (by have := hb.size; rw [HRM.out.size] at this; exact this)
    have HWS : Hid (w0.heap.size = W.heap.size + 1) := Lib.hid HRM.out.size
    have HW1 : Hid (At (w1.alloc (.cells Try.zeroCells46 46)) w1.heap.size (nodeC 0 noF false nilS) 46) := Lib.hid (by rw [zero_node]; exact At.new w1 _ _)
    have HW2 : Hid (At (w1.alloc (.cells Try.zeroCells46 46)) W.heap.size (nodeC 0 noF false nilS) 46 ∧ Below W.heap.size W (w1.alloc (.cells Try.zeroCells46 46))) := Lib.hid ⟨HCC.out.1.alloc _, HCC.out.2.alloc HCC.out.2.size _⟩
    clear hb
    rcases ha : alts (fuel (bs p).length) (bs p) with _ | ⟨a, r1⟩
    · rw [ha] at hres
      obtain ⟨x, j, hnv, rfl⟩ := hres
      have HNV := Lib.hid hnv
      have HN : Hid (parse (bs p) = none) := Lib.hid (by rw [HPA.out, ha])
      clear ha hnv
      go_wp2_with (refine wpList_store_at rfl 46 (.tmp 4) (.tmp 14) rfl w1.heap.size x rfl rfl 46 _ HW1.out HNV.out.info (by rw [nodeC_size, HNV.out.size]) HNV.out.one ?_)
      intro w2 hw2
      have HFA : Hid (At w2 W.heap.size (nodeC 0 noF false nilS) 46 ∧ Below W.heap.size W w2) := Lib.hid (by
        refine ⟨?_, ?_⟩
        · rw [hw2.out]; exact HW2.out.1.rowOther (by have := HSZ.out; omega)
        · rw [hw2.out]; exact below_row HW2.out.2 _ _ (by have := HSZ.out; omega))
      clear hw2 HW1 HW2
      generalize w1.heap.size = B at *
      go_wp2_with (refine wpList_store_at rfl 46 (.tmp 2) (.tmp 25) rfl W.heap.size _ rfl rfl 46 _ HFA.out.1 (by rw [HZ.out]; exact size_nodeC _ _ _ _) (by rw [HZ.out]) (by rw [HZ.out]; exact nodeC_one _ _ _ _ rfl) ?_)
      intro w3 hw3
      have H2 : Hid (At w3 W.heap.size (nodeC 0 noF false nilS) 46) := Lib.hid (by rw [hw3.out]; have := HFA.out.1.row (c' := Try.zeroCells46); rwa [HZ.out] at this ⊢)
      have H3 : Hid (Below W.heap.size W w3) := Lib.hid (by rw [hw3.out]; exact below_row HFA.out.2 _ _ (Nat.le_refl _))
      clear hw3
      go_wp2_with fail
      refine bodyPost_ret (results_node2 rfl _ _ W.heap.size 46 _ _ rfl H2.out Try.underlying46 rfl (size_nodeC _ _ _ _)) rfl ?_
      exact RParse.mk' H3.out (NV.node _ _ _ _ rfl) (by rw [HC.out, HN.out]; rfl) (fun a ha => by rw [HN.out] at ha; cases ha)
    · rw [ha] at hres
      obtain ⟨x, j, hx, ⟨hj1, hj2⟩, rfl⟩ := hres
      have hnv := hx.nv
      have HNV := Lib.hid hnv
      have HRX := Lib.hid hx
      have hjl : (j : Int) ≤ 200 := by omega
      rcases r1 with _ | ⟨c, r1⟩
      · have HN : Hid (parse (bs p) = some a) := Lib.hid (by rw [HPA.out, ha])
        have d5 : ((j : Int) != (p.size : Int)) = false := by
          have : j = p.size := by simpa using hj1
          rw [this]; simp
        clear ha hnv hx hj1 hj2
        go_wp2_with (refine wpList_store_at rfl 46 (.tmp 4) (.tmp 14) rfl w1.heap.size x rfl rfl 46 _ HW1.out HNV.out.info (by rw [nodeC_size, HNV.out.size]) HNV.out.one ?_)
        intro w2 hw2
        have HFA : Hid (At w2 W.heap.size (nodeC 0 noF false nilS) 46 ∧ Below W.heap.size W w2) := Lib.hid (by
          refine ⟨?_, ?_⟩
          · rw [hw2.out]; exact HW2.out.1.rowOther (by have := HSZ.out; omega)
          · rw [hw2.out]; exact below_row HW2.out.2 _ _ (by have := HSZ.out; omega))
        have HX2 : Hid (At w2 w1.heap.size x 46) := Lib.hid (by rw [hw2.out]; exact HW1.out.row)
        have HS2 : Hid (∀ (y : Array Value) (k : Nat), w0.heap.size ≤ k → k < w1.heap.size → (w2.setRow W.heap.size y).heap[k]? = w1.heap[k]?) := Lib.hid (fun y k hk1 hk2 => by
          rw [setRow_other w2 _ _ _ (by have := HWS.out; omega), hw2.out, setRow_other _ _ _ _ (by omega), Below.heap_alloc _ _ _ hk2])
        have HS3 : Hid (∀ y : Array Value, w1.heap.size ≤ (w2.setRow W.heap.size y).heap.size) := Lib.hid (fun y => by
          rw [size_setRow, hw2.out, size_setRow]; show w1.heap.size ≤ (w1.heap.push _).size; simp)
        clear hw2 HW1 HW2
        generalize hB : w1.heap.size = B at *
        go_wp2_with (first | (refine wpList_load_at rfl 46 (.tmp 4) rfl B rfl 46 _ _ HX2.out Try.underlying46 rfl HNV.out.info ?_) | (refine wpList_store_at rfl 46 (.tmp 2) (.tmp 26) rfl W.heap.size _ rfl rfl 46 _ HFA.out.1 HNV.out.info (by rw [nodeC_size, HNV.out.size]) HNV.out.one ?_))
        intro w3 hw3
        have H7 : Hid (At w3 W.heap.size x 46) := Lib.hid (by rw [hw3.out]; exact HFA.out.1.row)
        have H8 : Hid (Below W.heap.size W w3) := Lib.hid (by rw [hw3.out]; exact below_row HFA.out.2 _ _ (Nat.le_refl _))
        go_wp2_with fail
        refine bodyPost_ret (results_node2 rfl _ _ W.heap.size 46 _ _ rfl H7.out Try.underlying46 rfl HNV.out.info) rfl ?_
        refine RParse.mk' H8.out HNV.out (by rw [HC.out, HN.out]; rfl) (fun a' ha => ?_)
        rw [HN.out] at ha
        injection ha with ha
        subst ha
        rw [hw3.out]
        exact rnU_move HRX.out (by have := HWS.out; omega) (fun k hk1 hk2 => HS2.out x k hk1 (by rw [hB] at hk2; exact hk2)) (by rw [hB]; exact HS3.out x)
      · have HN : Hid (parse (bs p) = none) := Lib.hid (by rw [HPA.out, ha])
        have d5 : ((j : Int) != (p.size : Int)) = true := by
          rw [bne_iff_ne]
          simp only [List.length_cons] at hj1
          omega
        clear ha hnv hx hj1 hj2
        go_wp2_with (refine wpList_store_at rfl 46 (.tmp 4) (.tmp 14) rfl w1.heap.size x rfl rfl 46 _ HW1.out HNV.out.info (by rw [nodeC_size, HNV.out.size]) HNV.out.one ?_)
        intro w2 hw2
        have HFA : Hid (At w2 W.heap.size (nodeC 0 noF false nilS) 46 ∧ Below W.heap.size W w2) := Lib.hid (by
          refine ⟨?_, ?_⟩
          · rw [hw2.out]; exact HW2.out.1.rowOther (by have := HSZ.out; omega)
          · rw [hw2.out]; exact below_row HW2.out.2 _ _ (by have := HSZ.out; omega))
        clear hw2 HW1 HW2
        generalize w1.heap.size = B at *
        go_wp2_with (refine wpList_store_at rfl 46 (.tmp 2) (.tmp 25) rfl W.heap.size _ rfl rfl 46 _ HFA.out.1 (by rw [HZ.out]; exact size_nodeC _ _ _ _) (by rw [HZ.out]) (by rw [HZ.out]; exact nodeC_one _ _ _ _ rfl) ?_)
        intro w3 hw3
        have H2 : Hid (At w3 W.heap.size (nodeC 0 noF false nilS) 46) := Lib.hid (by rw [hw3.out]; have := HFA.out.1.row (c' := Try.zeroCells46); rwa [HZ.out] at this ⊢)
        have H3 : Hid (Below W.heap.size W w3) := Lib.hid (by rw [hw3.out]; exact below_row HFA.out.2 _ _ (Nat.le_refl _))
        clear hw3
        go_wp2_with fail
        refine bodyPost_ret (results_node2 rfl _ _ W.heap.size 46 _ _ rfl H2.out Try.underlying46 rfl (size_nodeC _ _ _ _)) rfl ?_
        exact RParse.mk' H3.out (NV.node _ _ _ _ rfl) (by rw [HC.out, HN.out]; rfl) (fun a ha => by rw [HN.out] at ha; cases ha)

set_option maxRecDepth 100000 in
set_option maxHeartbeats 1000000 in
theorem rcheck_any (p : ByteArray) (W : World) : Calls Try.prog 23 #[.string p] W fun e w' => e = .returned (.int .i64 (checkR (bs p) : Nat)) ∧ Below W.heap.size W w' := by
  have HP := Lib.hid (rparse_any p W)
  go_enter Try.func23, Try.ntmps23
  go_wp2_with fail
  refine (HP.out).mono ?_
  rintro e w1 ⟨hb, x, hnv, rfl, _⟩
  have HNV := Lib.hid hnv
  have HB := Lib.hid hb
  have HW1 : Hid (At (w1.alloc (.cells Try.zeroCells46 46)) w1.heap.size (nodeC 0 noF false nilS) 46) := Lib.hid (by rw [zero_node]; exact At.new w1 _ _)
  clear hb hnv HP
  go_wp2_with (refine wpList_store_at rfl 46 (.tmp 3) (.tmp 8) rfl w1.heap.size x rfl rfl 46 _ HW1.out HNV.out.info (by rw [nodeC_size, HNV.out.size]) HNV.out.one ?_)
  intro w2 hw2
  have H3 : Hid (Below W.heap.size W w2) := Lib.hid (by rw [hw2.out]; exact below_row (HB.out.alloc HB.out.size _) _ _ HB.out.size)
  clear hw2
  go_wp2_with fail
  go_ret
  exact ⟨rfl, H3.out⟩
end Go.Proofs.Ytheblleadjbndaa

namespace Go.Proofs.Ytheblleadjbndaa
open Go.RowKit Rx
theorem wpList_load_atG {P : Program} {ops : Array Oper} {rest : List Oper} {o : Oper} {a : Act} {w : World} {Q : Exit → Act → World → Prop} (hw : Region.wanted o (yielded ops a.tmps) = true) (ty : TypeId) (x : Operand) (ho : o.op = .load ty x)
    (g : Nat) (hx : a.eval x = .pointer (some ⟨g, 0, none⟩)) (t : TypeId) (cs : Array Value) (d : TypeDesc) (hg : At w g cs t)
    (hu : P.underlying ty = some d) (hd : (match d with | .struct _ | .array _ _ => true | _ => false) = true) (hi : (P.info? ty).map (·.size) = some cs.size)
    (h : wpList P ops Q rest (a.put o.dst (.agg cs)) w) : wpList P ops Q (o :: rest) a w :=
  BigFrame.wpList_want hw fun _ hK => wp_load_row ty x ho g hx t cs (0, 0) d hg.out hu hd hi (hK _ _ h)
/-- What Parse's tree is behind the store of it. -/
theorem tree_stored {W w1 w2 : World} {x : Array Value} {a : As} (hb : Below W.heap.size W w1) (h : RnU (Fresh W w1) w1 (.grp a) x) (hw : w2 = (w1.alloc (.cells Try.zeroCells46 46)).setRow w1.heap.size x) :
    RnU (fun k => k < w2.heap.size) w2 (.grp a) x ∧ At w2 w1.heap.size x 46 ∧ Below W.heap.size W w2 := by
  have h1 : Below w1.heap.size w1 w2 := by rw [hw]; exact below_row ((Below.refl _ _).alloc (Nat.le_refl _) _) _ _ (Nat.le_refl _)
  have h2 : At w2 w1.heap.size x 46 := by rw [hw]; exact (At.new w1 _ _).row
  exact ⟨RnU.same (fun k hk => h1.block k hk.2) (fun k hk => Nat.lt_of_lt_of_le hk.2 h1.size) _ _ h, h2, hb.trans (h1.mono hb.size)⟩
theorem stored_below {W w1 w2 : World} {x : Array Value} (hb : Below W.heap.size W w1) (hw : w2 = (w1.alloc (.cells Try.zeroCells46 46)).setRow w1.heap.size x) : Below W.heap.size W w2 := by
  have h1 : Below w1.heap.size w1 w2 := by rw [hw]; exact below_row ((Below.refl _ _).alloc (Nat.le_refl _) _) _ _ (Nat.le_refl _)
  exact hb.trans (h1.mono hb.size)
set_option maxRecDepth 100000 in
set_option maxHeartbeats 2000000 in
theorem rmatch_any (p s : ByteArray) (W : World) (hs : s.size ≤ 900) : Calls Try.prog 15 #[.string p, .string s] W fun e w' => e = .returned (.bool (matchR (bs p) (bs s))) ∧ Below W.heap.size W w' := by
  have HP := Lib.hid (rparse_any p W)
  have HSS := Lib.hid hs
  have hsi : (s.size : Int) ≤ 900 := by omega
  clear hs
  go_enter Try.func15, Try.ntmps15
  go_wp2_with fail
  refine (HP.out).mono ?_
  rintro e w1 ⟨hb, x, hnv, rfl, hres⟩
  have HB := Lib.hid hb
  have HNV := Lib.hid hnv
  have HW1 : Hid (At (w1.alloc (.cells Try.zeroCells46 46)) w1.heap.size (nodeC 0 noF false nilS) 46) := Lib.hid (by rw [zero_node]; exact At.new w1 _ _)
  clear hb hnv HP
  by_cases h0 : checkR (bs p) = 0
  · rw [h0]
    obtain ⟨a, ha⟩ := checkR_zero.1 h0
    have HRES := Lib.hid (hres a ha)
    have HA := Lib.hid ha
    clear h0 ha hres
    go_wp2_with (refine wpList_store_at rfl 46 (.tmp 5) (.tmp 10) rfl w1.heap.size x rfl rfl 46 _ HW1.out HNV.out.info (by rw [nodeC_size, HNV.out.size]) HNV.out.one ?_)
    intro w2 hw2
    have hts := tree_stored HB.out HRES.out hw2.out
    have HAT := Lib.hid hts.2.1
    have HBL := Lib.hid hts.2.2
    have HEN := Lib.hid (rends_any w2 x a s hts.1 (by have := parse_sz HA.out; simp only [szU]; omega) HSS.out)
    clear hw2 hts HW1 HRES
    go_wp2_with (refine wpList_load_atG rfl 46 (.tmp 5) rfl w1.heap.size rfl 46 _ _ HAT.out Try.underlying46 rfl HNV.out.info ?_)
    refine (HEN.out).mono ?_
    rintro e w3 ⟨v, rfl, hbi⟩
    obtain ⟨g, cap, rfl, hgc, hbs, _, _⟩ := hbi.bset (by rw [outs_len]; omega)
    rw [outs_len] at hgc
    have c0 := hbs.cell (outs_get a (bs s) s.size s.size (Nat.le_refl _))
    have htk : (bs s).take s.size = bs s := List.take_of_length_le (by rw [bs_length]; exact Nat.le_refl _)
    rw [htk, accR_match HA.out] at c0
    have HBL3 := Lib.hid (HBL.out.trans (hbi.below.mono HBL.out.size))
    simp only [outs_len]
    have hln : ((s.size + 1 : Nat) : Int) = (s.size : Int) + 1 := by omega
    clear hbi hbs htk HEN HAT HBL HA hgc
    go_wp2_with fail
    go_ret
    exact ⟨rfl, HBL3.out⟩
  · have HM : Hid (matchR (bs p) (bs s) = false) := Lib.hid (by
      have hn : parse (bs p) = none := by
        rcases h : parse (bs p) with _ | a
        · rfl
        · exact absurd (checkR_zero.2 ⟨a, h⟩) h0
      unfold matchR; rw [hn])
    have hp2 : ((checkR (bs p) : Int) == 0) = false := by rw [beq_eq_false_iff_ne]; omega
    generalize checkR (bs p) = n at *
    clear h0 hres
    go_wp2_with (refine wpList_store_at rfl 46 (.tmp 5) (.tmp 10) rfl w1.heap.size x rfl rfl 46 _ HW1.out HNV.out.info (by rw [nodeC_size, HNV.out.size]) HNV.out.one ?_)
    intro w2 hw2
    have HBL := Lib.hid (stored_below HB.out hw2.out)
    clear hw2 HW1
    go_wp2_with fail
    go_ret
    exact ⟨by rw [HM.out]; rfl, HBL.out⟩
end Go.Proofs.Ytheblleadjbndaa

namespace Go.Proofs.Ytheblleadjbndaa
open Go.RowKit Rx
set_option maxRecDepth 100000 in
set_option maxHeartbeats 4000000 in
theorem match_walk (p s : ByteArray) (W : World) : Calls Try.prog 3 #[.string p, .string s] W fun e w' => e = .returned (.bool true) ∧ Below W.heap.size W w' := by
  have HAW := Lib.hid awake_any
  have HMT := Lib.hid match_any
  have HRM := Lib.hid rmatch_any
  have hgr := great_any s W.heap.size [p] (W.alloc (.cells #[.string p] 9)) (by simp) (fun j x hx => by
    rcases j with _ | j
    · simp at hx; subst hx; exact (At.new W #[.string p] 9).cell 0
    · simp at hx)
  have HGR := Lib.hid hgr
  clear hgr
  go_enter Try.func3, Try.ntmps3
  go_wp2_with fail
  refine (HGR.out).mono ?_
  rintro e w1 ⟨rfl, rfl⟩
  have HB : Hid (Below W.heap.size W (W.alloc (.cells #[.string p] 9))) := Lib.hid ((Below.refl _ _).alloc (Nat.le_refl _) _)
  generalize W.alloc (.cells #[.string p] 9) = w1 at *
  cases hg : greatR s [p]
  · obtain ⟨hs, _⟩ := great_small hg
    have HS : Hid (s.size ≤ 40) := Lib.hid (by omega)
    clear hg HGR hs
    go_wp2_with fail
    refine ((HMT.out p s _ (Nat.le_trans HS.out (by decide)))).mono ?_
    rintro e w' ⟨rfl, hb⟩
    replace HB := Lib.hid (HB.out.trans (hb.mono HB.out.size))
    clear hb
    go_wp2_with fail
    refine ((HRM.out p s _ (Nat.le_trans HS.out (by decide)))).mono ?_
    rintro e w' ⟨rfl, hb⟩
    replace HB := Lib.hid (HB.out.trans (hb.mono HB.out.size))
    clear hb
    generalize matchR (bs p) (bs s) = b at *
    cases b
    · go_wp2_with fail
      refine ((HAW.out _)).mono ?_
      rintro e w' ⟨rfl, hb⟩
      replace HB := Lib.hid (HB.out.trans (hb.mono HB.out.size))
      clear hb
      go_wp2_with fail
      go_ret
      exact ⟨rfl, HB.out⟩
    · go_wp2_with fail
      refine ((HAW.out _)).mono ?_
      rintro e w' ⟨rfl, hb⟩
      replace HB := Lib.hid (HB.out.trans (hb.mono HB.out.size))
      clear hb
      go_wp2_with fail
      go_ret
      exact ⟨rfl, HB.out⟩
  · clear hg HGR
    go_wp2_with fail
    refine ((HAW.out _)).mono ?_
    rintro e w' ⟨rfl, hb⟩
    replace HB := Lib.hid (HB.out.trans (hb.mono HB.out.size))
    clear hb
    go_wp2_with fail
    go_ret
    exact ⟨rfl, HB.out⟩
end Go.Proofs.Ytheblleadjbndaa

namespace Go.Proofs.Ytheblleadjbndaa
open Go.RowKit in
theorem wkMatch (p s : ByteArray) (W : World) (_ : p.size ≤ 140737488351232) (_ : s.size ≤ 140737488351232) : Calls Try.prog 3 #[.string p, .string s] W fun e w' => e = .returned (.bool true) ∧ Below W.heap.size W w' := match_walk p s W
end Go.Proofs.Ytheblleadjbndaa

namespace Go.Proofs.Ytheblleadjbndaa
open Go.RowKit Rx
theorem seg_rest {l r : List UInt8} {i m : Nat} (h : r = l.drop i) : seg l i (i + m) = r.take m := by
  unfold seg
  rw [h, List.drop_take]
  congr 1
  omega
theorem rest_size (s : ByteArray) (i : Nat) (h : i ≤ s.size) : (s.extract i s.size).size = s.size - i ∧ bs (s.extract i s.size) = (bs s).drop i := by
  refine ⟨by rw [ByteArray.size_extract]; omega, ?_⟩
  rw [bs_part]
  unfold seg
  rw [List.take_of_length_le (by rw [bs_length]; exact Nat.le_refl _)]
/-- What Find's outer loop knows: no match begins before i. -/
def NoB (p s : ByteArray) (i : Nat) : Prop := ∀ f e, f ≤ e → e ≤ s.size → f < i → matchR (bs p) (seg (bs s) f e) = false
theorem NoB.next {p s t : ByteArray} {i : Nat} {a : As} (h : NoB p s i) (ha : parse (bs p) = some a) (ht : bs t = (bs s).drop i) (hts : t.size = s.size - i) (hn : ∀ e, e ≤ t.size → accR a ((bs t).take e) = false) : NoB p s (i + 1) := fun f e h1 h2 h3 => by
  by_cases hlt : f < i
  · exact h f e h1 h2 hlt
  · obtain rfl : f = i := by omega
    have := hn (e - f) (by omega)
    rw [accR_match ha, ← seg_rest ht] at this
    rwa [show f + (e - f) = e from by omega] at this
theorem NoB.found {p s t : ByteArray} {i m : Nat} {a : As} (h : NoB p s i) (ha : parse (bs p) = some a) (ht : bs t = (bs s).drop i) (hts : t.size = s.size - i) (hi : i ≤ s.size) (hm : m ≤ t.size) (hy : accR a ((bs t).take m) = true) (hn : ∀ e, m < e → e ≤ t.size → accR a ((bs t).take e) = false) : findR (bs p) (bs s) = some (i, i + m) := by
  refine findR_of (by omega) (by rw [bs_length]; omega) ?_ ?_
  · rw [seg_rest ht, ← accR_match ha]; exact hy
  · intro f e h1 h2 h3
    rw [bs_length] at h2
    rcases h3 with h3 | ⟨rfl, h3⟩
    · exact h f e h1 h2 h3
    · have := hn (e - f) (by omega) (by omega)
      rw [accR_match ha, ← seg_rest ht] at this
      rwa [show f + (e - f) = e from by omega] at this
theorem NoB.none {p s : ByteArray} (h : NoB p s (s.size + 1)) : findR (bs p) (bs s) = none := findR_none_of fun f e h1 h2 => h f e h1 (by rw [bs_length] at h2; exact h2) (by rw [bs_length] at h2; omega)
set_option maxRecDepth 100000 in
set_option maxHeartbeats 4000000 in
theorem rfind_any (p s : ByteArray) (W : World) (hs : s.size ≤ 900) : Calls Try.prog 18 #[.string p, .string s] W fun e w' => e = .returned (foundV (findR (bs p) (bs s))) ∧ Below W.heap.size W w' := by
  have HP := Lib.hid (rparse_any p (W.alloc (.cells #[.int .i64 0, .int .i64 0] 26)))
  have HSS := Lib.hid hs
  have hsi : (s.size : Int) ≤ 900 := by omega
  clear hs
  go_enter Try.func18, Try.ntmps18
  go_wp2_with fail
  refine (HP.out).mono ?_
  rintro e w1 ⟨hb, x, hnv, rfl, hres⟩
  have hrs : At w1 W.heap.size #[.int .i64 0, .int .i64 0] 26 := (At.new W #[.int .i64 0, .int .i64 0] 26).below hb
  have HBW : Hid (Below W.heap.size W w1) := Lib.hid (((Below.refl W.heap.size W).alloc (Nat.le_refl _) (.cells #[.int .i64 0, .int .i64 0] 26)).trans (hb.mono (by show W.heap.size ≤ (W.heap.push _).size; simp)))
  have HRS := Lib.hid hrs
  have hfin : ∀ (w : World), Below w1.heap.size w1 w → ∀ y1 y2 : Int, At ((w.setCell ⟨W.heap.size, 0, none⟩ (.int .i64 y1)).setCell ⟨W.heap.size, 1, none⟩ (.int .i64 y2)) W.heap.size #[.int .i64 y1, .int .i64 y2] 26 ∧ Below W.heap.size W ((w.setCell ⟨W.heap.size, 0, none⟩ (.int .i64 y1)).setCell ⟨W.heap.size, 1, none⟩ (.int .i64 y2)) := fun w hw y1 y2 =>
    ⟨((HRS.out.below hw).set 0 (.int .i64 y1)).set 1 (.int .i64 y2), ((HBW.out.trans (hw.mono HBW.out.size)).setCell (Nat.le_refl _) _).setCell (Nat.le_refl _) _⟩
  have HFIN := Lib.hid hfin
  have HB := Lib.hid hb
  have HNV := Lib.hid hnv
  have HW1 : Hid (At (w1.alloc (.cells Try.zeroCells46 46)) w1.heap.size (nodeC 0 noF false nilS) 46) := Lib.hid (by rw [zero_node]; exact At.new w1 _ _)
  clear hb hnv HP hrs hfin
  by_cases h0 : checkR (bs p) = 0
  · rw [h0]
    obtain ⟨a, ha⟩ := checkR_zero.1 h0
    have HRES := Lib.hid (hres a ha)
    have HA := Lib.hid ha
    clear h0 ha hres
    go_wp2_with (refine wpList_store_at rfl 46 (.tmp 6) (.tmp 14) rfl w1.heap.size x rfl rfl 46 _ HW1.out HNV.out.info (by rw [nodeC_size, HNV.out.size]) HNV.out.one ?_)
    intro w2 hw2
    have hts := tree_stored HB.out HRES.out hw2.out
    have HT := Lib.hid hts.1
    have HAT := Lib.hid hts.2.1
    have HB2 := Lib.hid (stored_below (Below.refl _ _) hw2.out)
    have HZ : Hid (szU (.grp a) ≤ 900) := Lib.hid (by have := parse_sz HA.out; simp only [szU]; omega)
    clear hw2 hts HW1 HRES HB
    go_wp2_with fail
    go_loopg [8, 9, 10] (s.size + 2) (fun k iv lv kv wr => ∃ i : Nat, k = s.size + 2 - i ∧ i ≤ s.size + 1 ∧ iv = .int .i64 i ∧ Below w2.heap.size w2 wr ∧ NoB p s i)
    case atStart => exact ⟨0, rfl, Nat.zero_le _, rfl, Below.refl _ _, fun f e _ _ h => by omega⟩
    case round =>
      obtain ⟨wo, rfl⟩ : ∃ wo, wo = wr := ⟨_, rfl⟩
      obtain ⟨i, hk, hi, rfl, hbr, hnb⟩ := hrel
      have HBR := Lib.hid hbr
      have HNB := Lib.hid hnb
      have hil : (i : Int) ≤ 901 := by have := HSS.out; omega
      by_cases hlt : i ≤ s.size
      · have hlti : (i : Int) ≤ (s.size : Int) := by omega
        have HMO : Hid (s.size + 2 - (i + 1) < gk) := Lib.hid (by omega)
        have HLT := Lib.hid hlt
        have HAW : Hid (At wo.drew w1.heap.size x 46) := Lib.hid (HAT.out.below hbr).drew
        clear hk hi hbr hnb
        go_wp2_with fail
        refine wp_region_still_tail 4 (by kernel_rfl) (by kernel_rfl) ?_
        simp only [List.take_succ_cons, List.take_zero, List.drop_succ_cons, List.drop_zero]
        refine wpStill_load_at rfl 46 (.tmp 6) rfl w1.heap.size rfl 46 x _ HAW.out Try.underlying46 rfl HNV.out.info ?_
        repeat still_step
        try refine wpStill_nil ?_
        change wpList _ _ _ _ _ wo.drew
        obtain ⟨ht1, ht2⟩ := rest_size s i HLT.out
        obtain ⟨t, ht⟩ : ∃ t, s.extract i s.size = t := ⟨_, rfl⟩
        rw [ht] at ht1 ht2
        rw [ht]
        have hbd : Below w2.heap.size w2 wo.drew := HBR.out.drew
        have HEN := Lib.hid (rends_any wo.drew x a t (RnU.same (fun k hk => hbd.block k hk) (fun k hk => Nat.lt_of_lt_of_le hk hbd.size) _ _ HT.out) HZ.out (by have := HSS.out; omega))
        have HT1 := Lib.hid ht1
        have HT2 := Lib.hid ht2
        have HBD := Lib.hid hbd
        have hti : (t.size : Int) ≤ 900 := by omega
        clear ht ht1 ht2 hbd HAW HBR
        generalize wo.drew = w4 at *
        go_wp2_with fail
        refine (HEN.out).mono ?_
        rintro e w5 ⟨v, rfl, hbi⟩
        obtain ⟨g, cap, rfl, hgc, hbs, _, _⟩ := hbi.bset (by rw [outs_len]; omega)
        rw [outs_len] at hgc
        have HB5 : Hid (Below w2.heap.size w2 w5) := Lib.hid (HBD.out.trans (hbi.below.mono HBD.out.size))
        have HBS := Lib.hid hbs
        have HGC := Lib.hid hgc
        simp only [outs_len]
        have hln : ((t.size + 1 : Nat) : Int) = (t.size : Int) + 1 := by omega
        clear hbi hbs hgc HEN HBD
        go_wp2_with fail
        go_loopg [10] (t.size + 1) (fun k kv wr => ∃ m : Nat, k = m ∧ m ≤ t.size + 1 ∧ kv = .int .i64 ((m : Int) - 1) ∧ w5 = wr ∧ ∀ e, m ≤ e → e ≤ t.size → accR a ((bs t).take e) = false)
        case atStart => exact ⟨t.size + 1, rfl, Nat.le_refl _, by congr 1; omega, rfl, fun e h1 h2 => by omega⟩
        case round =>
          obtain ⟨m, hm, hmt, rfl, rfl, hno⟩ := hrel
          rcases m with _ | m
          · have HNX := Lib.hid (HNB.out.next HA.out HT2.out HT1.out (fun e h => hno e (Nat.zero_le _) h))
            clear hm hmt hno
            have e1 : ((0 : Nat) : Int) - 1 = -1 := rfl
            rw [e1]
            clear e1
            go_wp2_with fail
            go_roundg (s.size + 2 - (i + 1))
            case measure => exact HMO.out
            case rel => exact ⟨i + 1, rfl, by have := HLT.out; omega, rfl, HB5.out, HNX.out⟩
          · have e1 : ((m + 1 : Nat) : Int) - 1 = (m : Int) := by omega
            rw [e1]
            have c0 := HBS.out.cell (outs_get a (bs t) t.size m (by omega))
            have hml : (m : Int) ≤ (t.size : Int) := by omega
            have HMM : Hid (m < gk) := Lib.hid (by omega)
            have HMT : Hid (m ≤ t.size) := Lib.hid (by omega)
            have HNO := Lib.hid hno
            rcases hy : accR a ((bs t).take m) with _ | _
            · rw [hy] at c0
              have HNO2 : Hid (∀ e, m ≤ e → e ≤ t.size → accR a ((bs t).take e) = false) := Lib.hid (fun e h1 h2 => by
                by_cases he : e = m
                · rw [he]; exact hy
                · exact HNO.out e (by omega) h2)
              clear hm hmt hno hy e1
              go_wp2_with fail
              go_roundg m
              case measure => exact HMM.out
              case rel => exact ⟨m, rfl, by have := HMT.out; omega, rfl, rfl, HNO2.out⟩
            · rw [hy] at c0
              have HFD := Lib.hid (HNB.out.found HA.out HT2.out HT1.out HLT.out HMT.out hy (fun e h1 h2 => hno e (by omega) h2))
              have hb1 : Below w1.heap.size w1 w5 := HB2.out.trans (HB5.out.mono HB2.out.size)
              have hrs := HRS.out.below hb1
              have d3 : w5.cell? ⟨W.heap.size, 0, none⟩ = some (.int .i64 0) := hrs.cell 0
              have d4 : w5.cell? ⟨W.heap.size, 1, none⟩ = some (.int .i64 0) := hrs.cell 1
              have d5 : w5.frozen? ⟨W.heap.size, 0, none⟩ = false := hrs.free 0
              have d6 : w5.frozen? ⟨W.heap.size, 1, none⟩ = false := hrs.free 1
              have HFW := Lib.hid (HFIN.out w5 hb1 (i : Int) ((i : Int) + (m : Int)))
              clear hm hmt hno hy e1 hb1 hrs
              go_wp2_with fail
              have q0 := HFW.out.1.cell 0
              have q1 := HFW.out.1.cell 1
              refine bodyPost_ret (v := .tuple #[.agg #[.int .i64 (i : Int), .int .i64 ((i : Int) + (m : Int))], .bool true]) (by simp [results, Try.results18, go_sem, q0, q1]) rfl ⟨by rw [HFD.out]; rfl, HFW.out.2⟩
      · obtain rfl : i = s.size + 1 := by omega
        have HNO := Lib.hid (HNB.out.none)
        have hb1 : Below w1.heap.size w1 wo := HB2.out.trans (hbr.mono HB2.out.size)
        have hrs := HRS.out.below hb1
        have d3 : wo.cell? ⟨W.heap.size, 0, none⟩ = some (.int .i64 0) := hrs.cell 0
        have d4 : wo.cell? ⟨W.heap.size, 1, none⟩ = some (.int .i64 0) := hrs.cell 1
        have d5 : wo.frozen? ⟨W.heap.size, 0, none⟩ = false := hrs.free 0
        have d6 : wo.frozen? ⟨W.heap.size, 1, none⟩ = false := hrs.free 1
        have HFW := Lib.hid (HFIN.out wo hb1 0 0)
        clear hk hi hlt hbr hnb hb1 hrs
        go_wp2_with fail
        have q0 := HFW.out.1.cell 0
        have q1 := HFW.out.1.cell 1
        refine bodyPost_ret (v := .tuple #[.agg #[.int .i64 0, .int .i64 0], .bool false]) (by simp [results, Try.results18, go_sem, q0, q1]) rfl ⟨by rw [HNO.out]; rfl, HFW.out.2⟩
  · have HNO : Hid (findR (bs p) (bs s) = none) := Lib.hid (by
      have hn : parse (bs p) = none := by
        rcases h : parse (bs p) with _ | a
        · rfl
        · exact absurd (checkR_zero.2 ⟨a, h⟩) h0
      unfold findR; rw [hn]; rfl)
    have hp2 := ne_int h0
    generalize checkR (bs p) = n at *
    clear h0 hres
    go_wp2_with (refine wpList_store_at rfl 46 (.tmp 6) (.tmp 14) rfl w1.heap.size x rfl rfl 46 _ HW1.out HNV.out.info (by rw [nodeC_size, HNV.out.size]) HNV.out.one ?_)
    intro w2 hw2
    have hb1 := stored_below (Below.refl _ _) hw2.out
    have hrs := HRS.out.below hb1
    have d3 : w2.cell? ⟨W.heap.size, 0, none⟩ = some (.int .i64 0) := hrs.cell 0
    have d4 : w2.cell? ⟨W.heap.size, 1, none⟩ = some (.int .i64 0) := hrs.cell 1
    have d5 : w2.frozen? ⟨W.heap.size, 0, none⟩ = false := hrs.free 0
    have d6 : w2.frozen? ⟨W.heap.size, 1, none⟩ = false := hrs.free 1
    have HFW := Lib.hid (HFIN.out w2 hb1 0 0)
    clear hw2 HW1 hb1 hrs
    go_wp2_with fail
    have q0 := HFW.out.1.cell 0
    have q1 := HFW.out.1.cell 1
    refine bodyPost_ret (v := .tuple #[.agg #[.int .i64 0, .int .i64 0], .bool false]) (by simp [results, Try.results18, go_sem, q0, q1]) rfl ⟨by rw [HNO.out]; rfl, HFW.out.2⟩
end Go.Proofs.Ytheblleadjbndaa

namespace Go.Proofs.Ytheblleadjbndaa
open Go.RowKit Rx
theorem found_parts (r : Option (Nat × Nat)) : ∃ (y1 y2 : Int) (z : Bool), foundV r = .tuple #[.agg #[.int .i64 y1, .int .i64 y2], .bool z] := by
  rcases r with _ | x <;> exact ⟨_, _, _, rfl⟩
set_option maxRecDepth 100000 in
set_option maxHeartbeats 4000000 in
theorem find_walk (p s : ByteArray) (W : World) : Calls Try.prog 4 #[.string p, .string s] W fun e w' => e = .returned (.bool true) ∧ Below W.heap.size W w' := by
  have HAW := Lib.hid awake_any
  obtain ⟨y1, y2, z, hy⟩ := found_parts (findR (bs p) (bs s))
  have HFP : Hid (∀ W, s.size ≤ 40000 → Calls Try.prog 17 #[.string p, .string s] W fun e w' => e = .returned (.tuple #[.agg #[.int .i64 y1, .int .i64 y2], .bool z]) ∧ Below W.heap.size W w') := Lib.hid (fun W hs => by have := find_pub p s W hs; rwa [hy] at this)
  have HRF : Hid (∀ W, s.size ≤ 900 → Calls Try.prog 18 #[.string p, .string s] W fun e w' => e = .returned (.tuple #[.agg #[.int .i64 y1, .int .i64 y2], .bool z]) ∧ Below W.heap.size W w') := Lib.hid (fun W hs => by have := rfind_any p s W hs; rwa [hy] at this)
  clear hy
  have hgr := great_any s W.heap.size [p] (W.alloc (.cells #[.string p] 9)) (by simp) (fun j x hx => by
    rcases j with _ | j
    · simp at hx; subst hx; exact (At.new W #[.string p] 9).cell 0
    · simp at hx)
  have HGR := Lib.hid hgr
  clear hgr
  go_enter Try.func4, Try.ntmps4
  go_wp2_with fail
  refine (HGR.out).mono ?_
  rintro e w1 ⟨rfl, rfl⟩
  have HB : Hid (Below W.heap.size W (W.alloc (.cells #[.string p] 9))) := Lib.hid ((Below.refl _ _).alloc (Nat.le_refl _) _)
  generalize W.alloc (.cells #[.string p] 9) = w1 at *
  cases hg : greatR s [p]
  · obtain ⟨hs, _⟩ := great_small hg
    have HS : Hid (s.size ≤ 40) := Lib.hid (by omega)
    clear hg HGR hs
    go_wp2_with fail
    refine (HFP.out _ (Nat.le_trans HS.out (by decide))).mono ?_
    rintro e w2 ⟨rfl, hb2⟩
    have HB2 := Lib.hid (HB.out.trans (hb2.mono HB.out.size))
    clear hb2 HB
    have hat := At.new w2 #[.int .i64 y1, .int .i64 y2] 26
    have HA := Lib.hid hat
    have HBW : Hid (Below W.heap.size W (w2.alloc (.cells #[.int .i64 y1, .int .i64 y2] 26))) := Lib.hid (HB2.out.alloc HB2.out.size _)
    clear hat HB2
    go_upto_region 4 with fail
    generalize w2.alloc (.cells #[.int .i64 y1, .int .i64 y2] 26) = w3 at *
    generalize w2.heap.size = B1 at *
    go_wp2_with fail
    refine (HRF.out _ (Nat.le_trans HS.out (by decide))).mono ?_
    rintro e w4 ⟨rfl, hb4⟩
    have HA4 := Lib.hid (HA.out.below hb4)
    have HB4 := Lib.hid (HBW.out.trans (hb4.mono HBW.out.size))
    clear hb4 HA HBW
    have HA5 : Hid (At (w4.alloc (.cells #[.int .i64 y1, .int .i64 y2] 26)) B1 #[.int .i64 y1, .int .i64 y2] 26) := Lib.hid (HA4.out.alloc _)
    have HA6 := Lib.hid (At.new w4 #[.int .i64 y1, .int .i64 y2] 26)
    have HB : Hid (Below W.heap.size W (w4.alloc (.cells #[.int .i64 y1, .int .i64 y2] 26))) := Lib.hid (HB4.out.alloc HB4.out.size _)
    clear HA4 HB4
    go_upto_region 5 with fail
    generalize w4.alloc (.cells #[.int .i64 y1, .int .i64 y2] 26) = w5 at *
    generalize w4.heap.size = B2 at *
    have c0 : w5.cell? ⟨B1, 0, none⟩ = some (.int .i64 y1) := HA5.out.cell 0
    have c1 : w5.cell? ⟨B1, 1, none⟩ = some (.int .i64 y2) := HA5.out.cell 1
    have c2 : w5.cell? ⟨B2, 0, none⟩ = some (.int .i64 y1) := HA6.out.cell 0
    have c3 : w5.cell? ⟨B2, 1, none⟩ = some (.int .i64 y2) := HA6.out.cell 1
    clear HA5 HA6
    cases z
    · go_wp2_with fail
      refine ((HAW.out _)).mono ?_
      rintro e w' ⟨rfl, hb⟩
      replace HB := Lib.hid (HB.out.trans (hb.mono HB.out.size))
      clear hb
      go_wp2_with fail
      go_ret
      exact ⟨rfl, HB.out⟩
    · go_wp2_with fail
      refine ((HAW.out _)).mono ?_
      rintro e w' ⟨rfl, hb⟩
      replace HB := Lib.hid (HB.out.trans (hb.mono HB.out.size))
      clear hb
      go_wp2_with fail
      go_ret
      exact ⟨rfl, HB.out⟩
  · clear hg HGR
    go_wp2_with fail
    refine ((HAW.out _)).mono ?_
    rintro e w' ⟨rfl, hb⟩
    replace HB := Lib.hid (HB.out.trans (hb.mono HB.out.size))
    clear hb
    go_wp2_with fail
    go_ret
    exact ⟨rfl, HB.out⟩
end Go.Proofs.Ytheblleadjbndaa

namespace Go.Proofs.Ytheblleadjbndaa
open Go.RowKit in
theorem wkFind (p s : ByteArray) (W : World) (_ : p.size ≤ 140737488351232) (_ : s.size ≤ 140737488351232) : Calls Try.prog 4 #[.string p, .string s] W fun e w' => e = .returned (.bool true) ∧ Below W.heap.size W w' := find_walk p s W
end Go.Proofs.Ytheblleadjbndaa


namespace Go.Proofs.Ytheblleadjbndaa
open Go.RowKit Rx
theorem part_bool (w : World) (f : UInt8 → Bool) (j : Nat) (h : j < 256) : (part 4 (btab f 256) (j * Try.prog.cellsOf 4)).run Try.prog w = .ok (.bool (f (UInt8.ofNat j))) w := by
  have h1 : Try.prog.cellsOf 4 = 1 := by kernel_rfl
  refine run_part_plain w (by kernel_rfl) ?_
  rw [h1, Nat.mul_one, btab_get f 256 j h, if_pos h]
theorem eq_items (w : World) (f g : UInt8 → Bool) : ∀ is : List Nat, (∀ i ∈ is, i < 256) → (Op.eqItems 9999 4 (Try.prog.cellsOf 4) (btab f 256) (btab g 256) is).run Try.prog w = .ok (is.all fun i => f (UInt8.ofNat i) == g (UInt8.ofNat i)) w
  | [], _ => by simp [Op.eqItems]
  | i :: is, h => by
    have hi := h i (by simp)
    have ih := eq_items w f g is (fun x hx => h x (by simp [hx]))
    simp only [Op.eqItems, Sem.run_bind, part_bool w _ i hi, Result.andThen_ok, run_equalIn_bool' w 9998 4 _ _ Try.underlying4]
    rw [List.all_cons]
    cases f (UInt8.ofNat i) == g (UInt8.ofNat i)
    · simp
    · simpa using ih
end Go.Proofs.Ytheblleadjbndaa

namespace Go.Proofs.Ytheblleadjbndaa
open Go.RowKit Rx
theorem class_eql (w : World) (f g : UInt8 → Bool) : (binOp .eql 43 (.agg (btab f 256)) (.agg (btab g 256))).run Try.prog w = .ok (.bool ((List.range 256).all fun i => f (UInt8.ofNat i) == g (UInt8.ofNat i))) w := by
  obtain ⟨i, hi⟩ : ∃ i, Try.prog.info? 4 = some i := Option.isSome_iff_exists.1 (by kernel_rfl)
  rw [run_eql_struct, show (10000 : Nat) = 9999 + 1 from rfl, run_equalIn_array w 9999 (e := 4) (n := 256) _ _ Try.underlying43 hi, eq_items w f g _ (fun i hi => by rw [List.mem_range] at hi; exact hi)]
  rfl
theorem wpList_class {ops : Array Oper} {rest : List Oper} {o : Oper} {a : Act} {w : World} {Q : Exit → Act → World → Prop} (hg : o.guard = none) (x y : Operand) (t : TypeId) (ho : o.op = .binOp .eql 43 x y t) (f g : UInt8 → Bool)
    (hx : a.eval x = .agg (btab f 256)) (hy : a.eval y = .agg (btab g 256)) (b : Bool) (hb : ((List.range 256).all fun i => f (UInt8.ofNat i) == g (UInt8.ofNat i)) = b)
    (h : wpList Try.prog ops Q rest (a.put o.dst (.bool b)) w) : wpList Try.prog ops Q (o :: rest) a w :=
  wpList_plain hg fun K hK => by
    have hm : Try.prog.eqGuardType Try.prog.depth 43 = false := by kernel_rfl
    unfold Oper.wp execOp
    simp only [ho, hx, hy, Sem.run_bind, run_eqGuard_agg w .eql 43 x y _ _ hm, Result.andThen_ok, class_eql, hb, Sem.run_pure]
    exact hK _ _ h
theorem class_none (f : UInt8 → Bool) : ((List.range 256).all fun i => f (UInt8.ofNat i) == noF (UInt8.ofNat i)) = !all256.any f := by
  unfold all256 noF
  rw [List.any_map, List.not_any_eq_all_not]
  congr 1
  funext i
  simp
theorem zero_arr : Try.zeroCells43 = btab noF 256 := by
  have h : Try.zeroCells43 = Array.replicate 256 (.bool false) := by kernel_rfl
  rw [h]
  refine Array.ext_getElem? fun i => ?_
  by_cases hi : i < 256
  · rw [btab_get noF 256 i hi, if_pos hi, Array.getElem?_replicate, if_pos hi]; rfl
  · rw [Array.getElem?_eq_none (by simp; omega), Array.getElem?_eq_none (by rw [btab_size]; omega)]
end Go.Proofs.Ytheblleadjbndaa

namespace Go.Proofs.Ytheblleadjbndaa
open Go.RowKit Rx
/-- The node x, read in W0, is told to be empty: b. -/
structure EC (W0 : World) (B : Nat) (x : Array Value) (b : Bool) : Prop where
  nv : NV x
  run : ∀ W : World, (∀ k, k < B → W.heap[k]? = W0.heap[k]?) → B ≤ W.heap.size → Calls Try.prog 37 #[.agg x] W fun e w' => e = .returned (.bool b) ∧ Below W.heap.size W w'
abbrev EI := Array Value × Bool
def cnt (l : List EI) : Nat := l.countP (·.2)
theorem cnt_le (l : List EI) : cnt l ≤ l.length := List.countP_le_length
theorem cnt_take {l : List EI} {j : Nat} {t : EI} (h : l[j]? = some t) : cnt (l.take (j + 1)) = cnt (l.take j) + if t.2 then 1 else 0 := by
  obtain ⟨hl, ht⟩ := List.getElem?_eq_some_iff.1 h
  unfold cnt
  rw [List.take_succ_eq_append_getElem hl, List.countP_append, ht]
  congr 1
  rw [List.countP_singleton]
set_option maxRecDepth 100000 in
set_option maxHeartbeats 2000000 in
theorem ec_class (W0 : World) (B : Nat) (f : UInt8 → Bool) (sg : Bool) : EC W0 B (nodeC 1 f sg nilS) (!all256.any f) := by
  refine ⟨NV.node _ _ _ _ rfl, fun W _ _ => ?_⟩
  have HA : Hid (At (W.alloc (.cells (nodeC 1 f sg nilS) 46)) W.heap.size (nodeC 1 f sg nilS) 46) := Lib.hid (At.new W _ _)
  have HB : Hid (Below W.heap.size W (W.alloc (.cells (nodeC 1 f sg nilS) 46))) := Lib.hid ((Below.refl _ _).alloc (Nat.le_refl _) _)
  have d0 : (W.alloc (.cells (nodeC 1 f sg nilS) 46)).cell? ⟨W.heap.size, 0, none⟩ = some (.int .i64 1) := by rw [HA.out.cell, nodeC_kind]
  have HZA : Hid (Value.agg Try.zeroCells43 = .agg (btab noF 256)) := Lib.hid (congrArg Value.agg zero_arr)
  obtain ⟨b, hb⟩ : ∃ b, ((List.range 256).all fun i => f (UInt8.ofNat i) == noF (UInt8.ofNat i)) = b := ⟨_, rfl⟩
  rw [← class_none f, hb]
  have HBB := Lib.hid hb
  clear hb
  go_enter Try.func37, Try.ntmps37
  go_upto_region 1 with fail
  generalize W.alloc (.cells (nodeC 1 f sg nilS) 46) = w0 at *
  go_wp2_with (first | (refine wpList_load_arr rfl 43 (.tmp 8) rfl W.heap.size 1 rfl (btab f 256) _ (fun j v hv => by rw [HA.out.cell]; exact nodeC_set _ _ _ _ j v hv) Try.underlying43 rfl (by rw [btab_size]; exact size_arr) ?_) | (refine wpList_class rfl (.tmp 9) (.tmp 10) 43 rfl f noF rfl HZA.out b HBB.out ?_))
  go_ret
  exact ⟨rfl, HB.out⟩
/-- What empty tells of a node of the kind k. -/
def emK (k : Nat) (l : List EI) : Bool := if k = 2 then decide (0 < cnt l) else if k = 3 then decide (cnt l = l.length) else if k = 5 then decide (cnt l = 1) else false
set_option maxRecDepth 100000 in
set_option maxHeartbeats 4000000 in
theorem ec_node (W0 : World) (B : Nat) (k : Nat) (hk : k = 2 ∨ k = 3 ∨ k = 4 ∨ k = 5) (sv : Value) (l : List EI) (hrow : RRow (fun k => k < B) W0 sv (l.map (·.1))) (hall : ∀ t ∈ l, EC W0 B t.1 t.2) (hln : l.length ≤ 1000) : EC W0 B (nodeC k noF false sv) (emK k l) := by
  refine ⟨NV.node _ _ _ _ hrow.one, fun W hsame hB => ?_⟩
  have hsl := rrow_shape hrow
  obtain ⟨sa, sc, rfl, hsg⟩ : ∃ sa sc, sv = .slice sa l.length sc ∧ (l.length = 0 ∨ ∃ g, sa = some ⟨g, 0, none⟩ ∧ l.length ≤ sc) := by
    rcases hsl with ⟨rfl, h0⟩ | ⟨g, cap, rfl, h3⟩
    · have : l.length = 0 := by simpa using h0
      exact ⟨none, 0, by rw [this], .inl this⟩
    · rw [List.length_map] at h3
      exact ⟨some ⟨g, 0, none⟩, cap, by rw [List.length_map], .inr ⟨g, rfl, h3⟩⟩
  have HA : Hid (At (W.alloc (.cells (nodeC k noF false (.slice sa l.length sc)) 46)) W.heap.size (nodeC k noF false (.slice sa l.length sc)) 46) := Lib.hid (At.new W _ _)
  have HBX : Hid (Below W.heap.size W (W.alloc (.cells (nodeC k noF false (.slice sa l.length sc)) 46))) := Lib.hid ((Below.refl _ _).alloc (Nat.le_refl _) _)
  have HK0 : Hid (∀ k', k' < B → (W.alloc (.cells (nodeC k noF false (.slice sa l.length sc)) 46)).heap[k']? = W0.heap[k']?) := Lib.hid (fun k' hk2 => by rw [Below.heap_alloc _ _ _ (by omega)]; exact hsame k' hk2)
  have HSZ : Hid ((W.alloc (.cells (nodeC k noF false (.slice sa l.length sc)) 46)).heap.size = W.heap.size + 1) := Lib.hid (by show (W.heap.push _).size = _; simp)
  have HB := Lib.hid hB
  have HROW := Lib.hid hrow
  have HALL := Lib.hid hall
  have HLN := Lib.hid hln
  have HSG := Lib.hid hsg
  have HKK := Lib.hid hk
  have d0 : (W.alloc (.cells (nodeC k noF false (.slice sa l.length sc)) 46)).cell? ⟨W.heap.size, 0, none⟩ = some (.int .i64 k) := by rw [HA.out.cell, nodeC_kind]
  have hk1 : ((k : Int) == 1) = false := by rw [beq_eq_false_iff_ne]; omega
  have hll : (l.length : Int) ≤ 1000 := by omega
  clear hsl hsg hsame hB hrow hall hln hk
  go_enter Try.func37, Try.ntmps37
  go_upto_region 1 with fail
  generalize W.alloc (.cells (nodeC k noF false (.slice sa l.length sc)) 46) = w0 at *
  go_wp2_with fail
  go_loopg [3, 4] (l.length + 1) (fun m nv iv wr => ∃ j : Nat, m = l.length + 1 - j ∧ j ≤ l.length ∧ nv = .int .i64 (cnt (l.take j) : Nat) ∧ iv = .int .i64 j ∧ Below w0.heap.size w0 wr)
  case atStart => exact ⟨0, rfl, Nat.zero_le _, rfl, rfl, Below.refl _ _⟩
  case round =>
    obtain ⟨j, hm, hj, rfl, rfl, hbr⟩ := hrel
    have hA2 := HA.out.below hbr
    have d2 : wr.cell? ⟨W.heap.size, 258, none⟩ = some (.slice sa l.length sc) := by rw [hA2.cell, nodeC_args]
    have d1 : wr.cell? ⟨W.heap.size, 0, none⟩ = some (.int .i64 k) := by rw [hA2.cell, nodeC_kind]
    have HBR := Lib.hid hbr
    have hjl : (j : Int) ≤ 1000 := by omega
    have hcl : cnt (l.take j) ≤ j := by have := cnt_le (l.take j); rw [List.length_take] at this; omega
    by_cases hlt : j < l.length
    · have hlti : (j : Int) < (l.length : Int) := by omega
      obtain ⟨t, ht⟩ : ∃ t, l[j]? = some t := ⟨_, List.getElem?_eq_getElem hlt⟩
      obtain ⟨g, rfl, hsc⟩ : ∃ g, sa = some ⟨g, 0, none⟩ ∧ l.length ≤ sc := by
        rcases HSG.out with h | h
        · omega
        · exact h
      have hty : (l.map (·.1))[j]? = some t.1 := by rw [List.getElem?_map, ht]; rfl
      have htc : EC W0 B t.1 t.2 := HALL.out t (List.mem_of_getElem? ht)
      have hkr : ∀ k, k < B → wr.heap[k]? = W0.heap[k]? := fun k hk => (hbr.block k (by have := HSZ.out; have := HB.out; omega)).trans (HK0.out k hk)
      have HCL := Lib.hid (part_cells HROW.out hkr hty)
      have HNV := Lib.hid htc.nv
      have hrun := htc.run wr hkr (by have := HSZ.out; have := HB.out; have := hbr.size; omega)
      have HRUN := Lib.hid hrun
      have hct := cnt_take ht
      have HMO : Hid (l.length + 1 - (j + 1) < gk) := Lib.hid (by omega)
      have HJ := Lib.hid hlt
      have hcn : (cnt (l.take j) : Int) ≤ 1000 := by omega
      clear hm hj hlt hbr hA2 ht hty htc hkr hrun d1
      go_wp2_with (refine wpList_load_arr rfl 46 (.tmp 22) rfl g (j * 259) rfl t.1 _ HCL.out Try.underlying46 rfl (by rw [HNV.out.size]; exact size_node) ?_)
      refine (HRUN.out).mono ?_
      rintro e w2 ⟨rfl, hb2⟩
      have HB2 := Lib.hid (HBR.out.trans (hb2.mono HBR.out.size))
      clear hb2
      rcases hq : t.2 with _ | _
      · have HCT : Hid (cnt (l.take (j + 1)) = cnt (l.take j)) := Lib.hid (by rw [hct, hq]; simp)
        clear hct hcl hq
        go_wp2_with fail
        go_roundg (l.length + 1 - (j + 1))
        case measure => exact HMO.out
        case rel => exact ⟨j + 1, rfl, HJ.out, by rw [HCT.out], rfl, HB2.out⟩
      · have HCT : Hid (cnt (l.take (j + 1)) = cnt (l.take j) + 1) := Lib.hid (by rw [hct, hq]; simp)
        clear hct hcl hq
        go_wp2_with fail
        go_roundg (l.length + 1 - (j + 1))
        case measure => exact HMO.out
        case rel => exact ⟨j + 1, rfl, HJ.out, by rw [HCT.out]; rfl, rfl, HB2.out⟩
    · obtain rfl : j = l.length := by omega
      have HBF : Hid (Below W.heap.size W wr) := Lib.hid (HBX.out.trans (hbr.mono HBX.out.size))
      rw [List.take_length] at hcl
      simp only [List.take_length]
      have hcn : (cnt l : Int) ≤ 1000 := by omega
      have HCN := Lib.hid hcl
      clear hm hj hlt hbr hA2 hcl
      rcases HKK.out with rfl | rfl | rfl | rfl
      · by_cases hc : 0 < cnt l
        · have hci : (cnt l : Int) > 0 := by omega
          have HE : Hid (emK 2 l = true) := Lib.hid (by unfold emK; simp [hc])
          clear hc
          go_wp2_with fail
          go_ret
          exact ⟨by rw [HE.out]; rfl, HBF.out⟩
        · have hci : ¬ (cnt l : Int) > 0 := by omega
          have HE : Hid (emK 2 l = false) := Lib.hid (by unfold emK; simp [hc])
          clear hc
          go_wp2_with fail
          go_ret
          exact ⟨by rw [HE.out]; rfl, HBF.out⟩
      · by_cases hc : cnt l = l.length
        · have hci : ((cnt l : Int) == (l.length : Int)) = true := by rw [beq_iff_eq]; omega
          have HE : Hid (emK 3 l = true) := Lib.hid (by unfold emK; simp [hc])
          clear hc
          go_wp2_with fail
          go_ret
          exact ⟨by rw [HE.out]; rfl, HBF.out⟩
        · have hci : ((cnt l : Int) == (l.length : Int)) = false := by rw [beq_eq_false_iff_ne]; omega
          have HE : Hid (emK 3 l = false) := Lib.hid (by unfold emK; simp [hc])
          clear hc
          go_wp2_with fail
          go_ret
          exact ⟨by rw [HE.out]; rfl, HBF.out⟩
      · have HE : Hid (emK 4 l = false) := Lib.hid rfl
        go_wp2_with fail
        go_ret
        exact ⟨by rw [HE.out]; rfl, HBF.out⟩
      · by_cases hc : cnt l = 1
        · have hci : ((cnt l : Int) == 1) = true := by rw [beq_iff_eq]; omega
          have HE : Hid (emK 5 l = true) := Lib.hid (by unfold emK; simp [hc])
          clear hc
          go_wp2_with fail
          go_ret
          exact ⟨by rw [HE.out]; rfl, HBF.out⟩
        · have hci : ((cnt l : Int) == 1) = false := by rw [beq_eq_false_iff_ne]; omega
          have HE : Hid (emK 5 l = false) := Lib.hid (by unfold emK; simp [hc])
          clear hc
          go_wp2_with fail
          go_ret
          exact ⟨by rw [HE.out]; rfl, HBF.out⟩
end Go.Proofs.Ytheblleadjbndaa

namespace Go.Proofs.Ytheblleadjbndaa
open Go.RowKit Rx
theorem cnt_any (l : List EI) : decide (0 < cnt l) = l.any (·.2) := by
  unfold cnt
  rw [Bool.eq_iff_iff, decide_eq_true_iff, List.countP_pos_iff, List.any_eq_true]
theorem cnt_all (l : List EI) : decide (cnt l = l.length) = l.all (·.2) := by
  unfold cnt
  rw [Bool.eq_iff_iff, decide_eq_true_iff, List.countP_eq_length, List.all_eq_true]
theorem EC.congr {W0 : World} {B : Nat} {x : Array Value} {b c : Bool} (h : EC W0 B x b) (e : b = c) : EC W0 B x c := e ▸ h
theorem class_byte (c : UInt8) : (!all256.any fun y => y == c) = false := by
  have : (all256.any fun y => y == c) = true := List.any_eq_true.2 ⟨c, mem_all c, by simp⟩
  rw [this]; rfl
mutual
theorem ecU {W0 : World} {B : Nat} : ∀ (u : U) (x : Array Value), szU u ≤ 900 → RnU (fun k => k < B) W0 u x → EC W0 B x (emU u)
  | .byte c, x, _, h => by
    unfold RnU at h
    subst h
    exact (ec_class W0 B _ true).congr (by simp only [emU]; exact class_byte c)
  | .cls f, x, _, h => by
    unfold RnU at h
    subst h
    exact (ec_class W0 B _ false).congr (by simp only [emU])
  | .grp a, x, hz, h => by
    unfold RnU at h
    simp only [szU] at hz
    obtain ⟨sv, xs, rfl, h2, h3⟩ := h
    obtain ⟨l, h4, h5, h6, h7⟩ := ecA a xs (by omega) h3
    exact (ec_node W0 B 3 (by simp) sv l (by rw [h4]; exact h2) h5 (by omega)).congr (by simp only [emU, emK]; rw [← h6, ← cnt_all]; simp)
  | .star u, x, hz, h => by
    unfold RnU at h
    simp only [szU] at hz
    obtain ⟨sv, y, rfl, h2, h3⟩ := h
    have hu := ecU u y (by omega) h3
    exact (ec_node W0 B 4 (by simp) sv [(y, emU u)] h2 (fun t ht => by rw [List.mem_singleton] at ht; subst ht; exact hu) (by simp)).congr (by simp [emU, emK])
  | .plus u, x, hz, h => by
    unfold RnU at h
    simp only [szU] at hz
    obtain ⟨sv, y, rfl, h2, h3⟩ := h
    have hu := ecU u y (by omega) h3
    exact (ec_node W0 B 5 (by simp) sv [(y, emU u)] h2 (fun t ht => by rw [List.mem_singleton] at ht; subst ht; exact hu) (by simp)).congr (by
      simp only [emU, emK, cnt]
      cases emU u <;> simp)
  | .opt u, x, hz, h => by
    unfold RnU at h
    simp only [szU] at hz
    obtain ⟨sv, y, rfl, h2, h3⟩ := h
    have hu := ecU u y (by omega) h3
    have he : EC W0 B (nodeC 2 noF false nilS) false := (ec_node W0 B 2 (by simp) nilS [] (RRow.nil _ _) (fun t ht => by simp at ht) (by simp)).congr (by simp [emK, cnt])
    exact (ec_node W0 B 3 (by simp) sv [(nodeC 2 noF false nilS, false), (y, emU u)] h2 (fun t ht => by
      simp only [List.mem_cons, List.not_mem_nil, or_false] at ht
      rcases ht with rfl | rfl
      · exact he
      · exact hu) (by simp)).congr (by
      simp only [emU, emK, cnt]
      cases emU u <;> simp)
theorem ecA {W0 : World} {B : Nat} : ∀ (a : As) (xs : List (Array Value)), szA a ≤ 900 → RnA (fun k => k < B) W0 a xs → ∃ l : List EI, l.map (·.1) = xs ∧ (∀ t ∈ l, EC W0 B t.1 t.2) ∧ l.all (·.2) = emA a ∧ l.length ≤ szA a + 1
  | .one s, xs, hz, h => by
    unfold RnA at h
    simp only [szA] at hz
    obtain ⟨x, sv, ys, rfl, rfl, h3, h4⟩ := h
    obtain ⟨l, g1, g2, g3, g5⟩ := ecS s ys (by omega) h4
    have hc := (ec_node W0 B 2 (by simp) sv l (by rw [g1]; exact h3) g2 (by omega)).congr (c := emS s) (by simp only [emK]; rw [← g3, ← cnt_any]; simp)
    refine ⟨[(nodeC 2 noF false sv, emS s)], rfl, fun t ht => ?_, ?_, by simp⟩
    · rw [List.mem_singleton] at ht
      subst ht
      exact hc
    · simp [emA]
  | .more s a, xs, hz, h => by
    unfold RnA at h
    simp only [szA] at hz
    obtain ⟨x, zs, sv, ys, rfl, rfl, h3, h4, h5⟩ := h
    obtain ⟨l, g1, g2, g3, g5⟩ := ecS s ys (by omega) h4
    have hc := (ec_node W0 B 2 (by simp) sv l (by rw [g1]; exact h3) g2 (by omega)).congr (c := emS s) (by simp only [emK]; rw [← g3, ← cnt_any]; simp)
    obtain ⟨l2, k1, k2, k3, k5⟩ := ecA a zs (by omega) h5
    refine ⟨(nodeC 2 noF false sv, emS s) :: l2, by rw [List.map_cons, k1], fun t ht => ?_, ?_, by simp only [List.length_cons, szA]; omega⟩
    · rcases List.mem_cons.1 ht with rfl | ht
      · exact hc
      · exact k2 t ht
    · simp only [List.all_cons, emA, k3]
theorem ecS {W0 : World} {B : Nat} : ∀ (s : Ss) (ys : List (Array Value)), szS s ≤ 900 → RnS (fun k => k < B) W0 s ys → ∃ l : List EI, l.map (·.1) = ys ∧ (∀ t ∈ l, EC W0 B t.1 t.2) ∧ l.any (·.2) = emS s ∧ l.length ≤ szS s
  | .nil, ys, _, h => by
    unfold RnS at h
    subst h
    exact ⟨[], rfl, fun t ht => by simp at ht, by simp [emS], by simp⟩
  | .cons u s, ys, hz, h => by
    unfold RnS at h
    simp only [szS] at hz
    obtain ⟨x, zs, rfl, h2, h3⟩ := h
    have hu := ecU u x (by omega) h2
    obtain ⟨l, g1, g2, g3, g5⟩ := ecS s zs (by omega) h3
    refine ⟨(x, emU u) :: l, by rw [List.map_cons, g1], fun t ht => ?_, by simp only [List.any_cons, emS, g3], ?_⟩
    · rcases List.mem_cons.1 ht with rfl | ht
      · exact hu
      · exact g2 t ht
    · have := szU_byte_pos u
      simp only [List.length_cons, szS]; omega
end
set_option maxRecDepth 100000 in
set_option maxHeartbeats 2000000 in
theorem rempty_any (p : ByteArray) (W : World) : Calls Try.prog 27 #[.string p] W fun e w' => e = .returned (.bool (emptyR (bs p))) ∧ Below W.heap.size W w' := by
  have HP := Lib.hid (rparse_any p W)
  go_enter Try.func27, Try.ntmps27
  go_wp2_with fail
  refine (HP.out).mono ?_
  rintro e w1 ⟨hb, x, hnv, rfl, hres⟩
  have HB := Lib.hid hb
  have HNV := Lib.hid hnv
  have HW1 : Hid (At (w1.alloc (.cells Try.zeroCells46 46)) w1.heap.size (nodeC 0 noF false nilS) 46) := Lib.hid (by rw [zero_node]; exact At.new w1 _ _)
  clear hb hnv HP
  by_cases h0 : checkR (bs p) = 0
  · rw [h0]
    obtain ⟨a, ha⟩ := checkR_zero.1 h0
    have HRES := Lib.hid (hres a ha)
    have HA := Lib.hid ha
    clear h0 ha hres
    go_wp2_with (refine wpList_store_at rfl 46 (.tmp 3) (.tmp 8) rfl w1.heap.size x rfl rfl 46 _ HW1.out HNV.out.info (by rw [nodeC_size, HNV.out.size]) HNV.out.one ?_)
    intro w2 hw2
    have hts := tree_stored HB.out HRES.out hw2.out
    have HAT := Lib.hid hts.2.1
    have HBL := Lib.hid hts.2.2
    have HEN := Lib.hid ((ecU (.grp a) x (by have := parse_sz HA.out; simp only [szU]; omega) hts.1).run w2 (fun _ _ => rfl) (Nat.le_refl _))
    clear hw2 hts HW1 HRES
    have HEM : Hid (emU (.grp a) = emptyR (bs p)) := Lib.hid (by unfold emptyR; rw [HA.out]; simp only [emU])
    rw [HEM.out] at HEN
    obtain ⟨b, hbq⟩ : ∃ b, emptyR (bs p) = b := ⟨_, rfl⟩
    have HEQ := Lib.hid hbq
    rw [hbq] at HEN
    clear hbq
    go_wp2_with (refine wpList_load_atG rfl 46 (.tmp 3) rfl w1.heap.size rfl 46 _ _ HAT.out Try.underlying46 rfl HNV.out.info ?_)
    refine (HEN.out).mono ?_
    rintro e w3 ⟨rfl, hb3⟩
    have HBL3 := Lib.hid (HBL.out.trans (hb3.mono HBL.out.size))
    clear hb3 HEN HAT HBL HA
    go_wp2_with fail
    go_ret
    exact ⟨by rw [HEQ.out]; rfl, HBL3.out⟩
  · have HM : Hid (emptyR (bs p) = false) := Lib.hid (by
      have hn : parse (bs p) = none := by
        rcases h : parse (bs p) with _ | a
        · rfl
        · exact absurd (checkR_zero.2 ⟨a, h⟩) h0
      unfold emptyR; rw [hn])
    have hp2 : ((checkR (bs p) : Int) == 0) = false := by rw [beq_eq_false_iff_ne]; omega
    generalize checkR (bs p) = n at *
    clear h0 hres
    go_wp2_with (refine wpList_store_at rfl 46 (.tmp 3) (.tmp 8) rfl w1.heap.size x rfl rfl 46 _ HW1.out HNV.out.info (by rw [nodeC_size, HNV.out.size]) HNV.out.one ?_)
    intro w2 hw2
    have HBL := Lib.hid (stored_below HB.out hw2.out)
    clear hw2 HW1
    go_wp2_with fail
    go_ret
    exact ⟨by rw [HM.out]; rfl, HBL.out⟩
end Go.Proofs.Ytheblleadjbndaa

namespace Go.Proofs.Ytheblleadjbndaa
open Go.RowKit Rx
theorem QIn.lit (W : World) : QIn W (.slice (some ⟨W.heap.size, 0, none⟩) 0 0) [] (W.alloc (.cells #[] 5)) :=
  ⟨World.ownsRow_lit (base := 0) (e := 5) (size := 1) W #[] 0 (Nat.zero_le _) (by decide) rfl, (Below.refl _ _).alloc (Nat.le_refl _) _, fun g hg => by injection hg with hg; have e : W.heap.size = g := hg; omega⟩
set_option maxRecDepth 100000 in
set_option maxHeartbeats 2000000 in
theorem rquote_any (s : ByteArray) (W : World) (hs : s.size ≤ 1000) : Calls Try.prog 25 #[.string s] W fun e w' => e = .returned (.string ⟨(quoteR (bs s)).toArray⟩) ∧ Below W.heap.size W w' := by
  obtain ⟨i0, hi, hz0, hz1, hz2⟩ := info_parts info_u8
  have HI := Lib.hid hi
  have HZ0 := Lib.hid hz0
  have HZ1 := Lib.hid hz1
  have HZ2 := Lib.hid hz2
  have HS := Lib.hid hs
  clear hi hz0 hz1 hz2 hs
  have hbl : (bs s).length = s.size := by simp [bs]
  have HBL := Lib.hid hbl
  clear hbl
  go_enter Try.func25, Try.ntmps25
  go_wp2_with fail
  have HS0 := Lib.hid (QIn.lit W)
  go_loopg [3, 4] (s.size + 1) (fun g v i wr => ∃ j : Nat, g = s.size + 1 - j ∧ j ≤ s.size ∧ i = .int .i64 j ∧ QIn W v (quoteR ((bs s).take j)) wr)
  case atStart => exact ⟨0, rfl, Nat.zero_le _, rfl, HS0.out⟩
  case round =>
    obtain ⟨j, hg, hj, rfl, hin⟩ := hrel
    obtain ⟨va, vn, vc, rfl⟩ := owns_slice hin.row
    have HIN := Lib.hid hin
    have hjl : (j : Int) ≤ 1000 := by have := HS.out; omega
    clear hin
    by_cases hlt : j < s.size
    · have hlti : (j : Int) < (s.size : Int) := by omega
      obtain ⟨c, hc⟩ : ∃ c, s[j] = c := ⟨_, rfl⟩
      have HQ : Hid (quoteR ((bs s).take (j + 1)) = quoteR ((bs s).take j) ++ if special c then [92, c] else [c]) := Lib.hid (by
        rw [List.take_succ_eq_append_getElem (by rw [HBL.out]; exact hlt), quoteR_snoc]
        have : (bs s)[j]'(by rw [HBL.out]; exact hlt) = c := hc
        rw [this])
      have hql : (quoteR ((bs s).take j)).length ≤ 2000 := by
        have h1 := quoteR_len ((bs s).take j)
        rw [List.length_take] at h1
        have := HS.out
        omega
      have hmo : s.size + 1 - (j + 1) < gk := by omega
      generalize quoteR ((bs s).take j) = l at *
      have HQL := Lib.hid hql
      have HMO := Lib.hid hmo
      clear hql hmo hg hj
      cases hsp : special c
      · have HI2 := Lib.hid (fun w => rspecial_any c w)
        rw [hsp] at HI2
        have HQ2 : Hid (quoteR ((bs s).take (j + 1)) = l ++ [c]) := Lib.hid (by rw [HQ.out, hsp]; rfl)
        clear hsp HQ
        go_wp2_with fail
        refine (HI2.out _).mono ?_
        rintro e w' ⟨rfl, hww⟩
        obtain rfl : wr = w' := hww
        go_wp2_with (at_builtin; (refine wpList_append_where _ rfl (.tmp 19) (.tmp 23) 55 rfl 5 i0 _ 1 1 Try.underlying55 HI.out HZ0.out HZ1.out HZ2.out rfl (by decide) (.slice va vn vc) l.length (l.map u8V) rfl (HIN.out.row.alloc _) ⟨wr.heap.size, 0, none⟩ 1 1 [u8V c] rfl (by decide) rfl (World.news_of_block (cs := #[u8V c]) (t := 5) (fr := (0, 0)) (heap_alloc_new _ _)) (one_u8 c) (len_u8 (by have := HQL.out; omega)) (bytes_u8 (by have := HQL.out; omega)) ?_))
        intro v' w4 hown hgrow hwhere
        have HA := Lib.hid (HIN.out.app hown hgrow hwhere)
        obtain ⟨xa, xn, xc, rfl⟩ := owns_slice hown
        clear hown hgrow hwhere
        go_wp2_with fail
        go_roundg (s.size + 1 - (j + 1))
        case measure => exact HMO.out
        case rel => exact ⟨j + 1, rfl, by omega, rfl, by rw [HQ2.out]; exact HA.out⟩
      · have HI2 := Lib.hid (fun w => rspecial_any c w)
        rw [hsp] at HI2
        have HQ2 : Hid (quoteR ((bs s).take (j + 1)) = (l ++ [92]) ++ [c]) := Lib.hid (by rw [HQ.out, hsp]; simp)
        clear hsp HQ
        go_wp2_with fail
        refine (HI2.out _).mono ?_
        rintro e w' ⟨rfl, hww⟩
        obtain rfl : wr = w' := hww
        go_wp2_with (at_builtin; (refine wpList_append_where _ rfl (.tmp 16) (.tmp 17) 55 rfl 5 i0 _ 1 1 Try.underlying55 HI.out HZ0.out HZ1.out HZ2.out rfl (by decide) (.slice va vn vc) l.length (l.map u8V) rfl (HIN.out.row.alloc _) ⟨wr.heap.size, 0, none⟩ 1 1 [u8V 92] rfl (by decide) rfl (World.news_of_block (cs := #[u8V 92]) (t := 5) (fr := (0, 0)) (heap_alloc_new _ _)) (one_u8 92) (len_u8 (by have := HQL.out; omega)) (bytes_u8 (by have := HQL.out; omega)) ?_))
        intro v1 w2 hown hgrow hwhere
        have HA1 := Lib.hid (HIN.out.app hown hgrow hwhere)
        obtain ⟨ya, yn, yc, rfl⟩ := owns_slice hown
        clear hown hgrow hwhere HIN
        go_wp2_with (at_builtin; (refine wpList_append_where _ rfl (.tmp 19) (.tmp 23) 55 rfl 5 i0 _ 1 1 Try.underlying55 HI.out HZ0.out HZ1.out HZ2.out rfl (by decide) (.slice ya yn yc) (l ++ [92]).length ((l ++ [92]).map u8V) rfl (HA1.out.row.alloc _) ⟨w2.heap.size, 0, none⟩ 1 1 [u8V c] rfl (by decide) rfl (World.news_of_block (cs := #[u8V c]) (t := 5) (fr := (0, 0)) (heap_alloc_new _ _)) (one_u8 c) (len_u8 (by have := HQL.out; simp; omega)) (bytes_u8 (by have := HQL.out; simp; omega)) ?_))
        intro v' w4 hown hgrow hwhere
        have HA := Lib.hid (HA1.out.app (c := c) (by simpa using hown) hgrow hwhere)
        obtain ⟨xa, xn, xc, rfl⟩ := owns_slice hown
        clear hown hgrow hwhere
        go_wp2_with fail
        go_roundg (s.size + 1 - (j + 1))
        case measure => exact HMO.out
        case rel => exact ⟨j + 1, rfl, by omega, rfl, by rw [HQ2.out]; exact HA.out⟩
    · obtain rfl : j = s.size := by omega
      have kc := HIN.out.str 0
      rw [List.take_of_length_le (by rw [HBL.out]; exact Nat.le_refl _)] at kc HIN
      have kc2 : (convert 55 9 (.slice va vn vc)).run Try.prog wr = .ok (.string ⟨(quoteR (bs s)).toArray⟩) wr := kc
      clear kc hlt hj hg
      go_wp2_with fail
      go_ret
      exact ⟨rfl, HIN.out.below⟩
end Go.Proofs.Ytheblleadjbndaa

namespace Go.Proofs.Ytheblleadjbndaa
open Go.RowKit Rx
/-- A factor's cells, as Prefix reads them. -/
theorem byte_cells {c : UInt8} : (nodeC 1 (fun y => y == c) true nilS).toList[257]? = some (.bool true) ∧ ∀ m, m < 256 → (nodeC 1 (fun y => y == c) true nilS).toList[1 + m]? = some (.bool (decide (m = c.toNat))) := by
  refine ⟨by rw [Array.getElem?_toList]; exact nodeC_single _ _ _ _, fun m hm => ?_⟩
  rw [Array.getElem?_toList, nodeC_bit _ _ _ _ m hm]
  congr 2
  rw [Bool.eq_iff_iff, beq_iff_eq, decide_eq_true_iff]
  constructor
  · rintro rfl; simp; omega
  · rintro rfl; simp
def isByte : U → Bool
  | .byte _ => true
  | _ => false
theorem single_cell {S : Nat → Prop} {W : World} {u : U} {x : Array Value} (h : RnU S W u x) (hu : isByte u = false) : x.toList[257]? = some (.bool false) := by
  cases u with
  | byte c => simp [isByte] at hu
  | cls f => unfold RnU at h; subst h; rw [Array.getElem?_toList]; exact nodeC_single _ _ _ _
  | grp a => unfold RnU at h; obtain ⟨_, _, rfl, _⟩ := h; rw [Array.getElem?_toList]; exact nodeC_single _ _ _ _
  | star u => unfold RnU at h; obtain ⟨_, _, rfl, _⟩ := h; rw [Array.getElem?_toList]; exact nodeC_single _ _ _ _
  | plus u => unfold RnU at h; obtain ⟨_, _, rfl, _⟩ := h; rw [Array.getElem?_toList]; exact nodeC_single _ _ _ _
  | opt u => unfold RnU at h; obtain ⟨_, _, rfl, _⟩ := h; rw [Array.getElem?_toList]; exact nodeC_single _ _ _ _
theorem pre_other {u : U} {s : Ss} (hu : isByte u = false) : pre (.cons u s) = ([], false) := by
  cases u with
  | byte c => simp [isByte] at hu
  | _ => rfl
end Go.Proofs.Ytheblleadjbndaa
