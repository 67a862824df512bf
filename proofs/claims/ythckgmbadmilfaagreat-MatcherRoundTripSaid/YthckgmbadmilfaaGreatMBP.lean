/- The reference's walks: Parse, Check. Walks: Negate (the program's and the reference's), the reference's Check, Great, Same. Walks: the reference's Check, Great, Same; great. -/
import Derived.Test.YthckgmbadmilfaaGreatMBO
import Derived.Test.YthckgmbadmilfaaGreatMAB
import Derived.Test.YthckgmbadmilfaaGreatMAE
import Derived.Test.YthckgmbadmilfaaGreatMBH
import Derived.Test.YthckgmbadmilfaaGreatMAI
namespace Go.Proofs.YthckgmbadmilfaaGreat
open Go.RowKit Rx
theorem rall_ok (n : Nat) : RExpOK n ∧ RAtomOK n := by
  induction n using Nat.strongRecOn with
  | _ n ih =>
    have hE : RExpOK n := rexp_ok n fun m hm => (ih m hm).2
    refine ⟨hE, ?_⟩
    rcases n with _ | n
    · intro W s i c r hs hrp hn; omega
    · exact ratom_ok n (ih n (by omega)).1
/-- What the reference's Parse hands back. -/
def RParse (p : ByteArray) (W : World) (e : Ending) (w' : World) : Prop :=
  Below W.heap.size W w' ∧ ∃ x, NV x ∧ e = .returned (.tuple #[.agg x, .int .i64 (checkR (bs p) : Nat)]) ∧ ∀ a, parse (bs p) = some a → RnU (Fresh W w') w' (.grp a) x
theorem RParse.mk' {p : ByteArray} {W w' : World} {x : Array Value} {k : Int} (hb : Below W.heap.size W w') (hx : NV x) (hk : k = (checkR (bs p) : Nat)) (h : ∀ a, parse (bs p) = some a → RnU (Fresh W w') w' (.grp a) x) : RParse p W (.returned (.tuple #[.agg x, .int .i64 k])) w' := ⟨hb, x, hx, by rw [hk], h⟩

set_option maxRecDepth 100000 in
set_option maxHeartbeats 2000000 in
theorem rparse_any (p : ByteArray) (W : World) : Calls Tryz.prog 107 #[.string p] W (RParse p W) := by
  have hl : (bs p).length = p.size := bs_length p
  have HRM := Lib.hid (Room.new W)
  have HZ := Lib.hid zero_node
  by_cases h : 200 < p.size
  · have hi : (p.size : Int) > 200 := by omega
    have HC : Hid ((checkR (bs p) : Nat) = 4) := Lib.hid (by unfold checkR; rw [if_pos (by omega)])
    have HN : Hid (parse (bs p) = none) := Lib.hid (parse_long (by omega))
    clear h hl
    go_enter Tryz.func107, Tryz.ntmps107
    go_upto_region 1 with fail
    generalize W.alloc (.cells Tryz.zeroCells112 112) = w0 at *
    go_wp2_with (refine wpList_store_at6 rfl 112 (.tmp 2) (.tmp 10) rfl W.heap.size _ rfl rfl 112 _ HRM.out.at_ (by rw [HZ.out]; exact size_nodeC _ _ _ _) (by rw [HZ.out]) (by rw [HZ.out]; exact nodeC_one _ _ _ _ rfl) ?_)
    intro w2 hw2
    have H2 : Hid (At w2 W.heap.size (nodeC 0 noF false nilS) 112) := Lib.hid (by rw [hw2.out]; have := HRM.out.at_.row (c' := Tryz.zeroCells112); rwa [HZ.out] at this ⊢)
    have H3 : Hid (Below W.heap.size W w2) := Lib.hid (by rw [hw2.out]; exact below_row6 HRM.out.below _ _ (Nat.le_refl _))
    clear hw2
    go_wp2_with fail
    refine bodyPost_ret (results_node2 rfl _ _ W.heap.size 112 _ _ rfl H2.out Tryz.underlying112 rfl (size_nodeC _ _ _ _)) rfl ?_
    exact RParse.mk' H3.out (NV.node _ _ _ _ rfl) (by rw [HC.out]; rfl) (fun a ha => by rw [HN.out] at ha; cases ha)
  · have hi : ¬ (p.size : Int) > 200 := by omega
    have hsl : (p.size : Int) ≤ 200 := by omega
    have HE : Hid (∀ w, Calls Tryz.prog 135 #[.string p, .int .i64 0] w (RUPost p w (grpRes (alts (fuel (bs p).length) (bs p))))) := Lib.hid (fun w => (rall_ok _).1 w p 0 (bs p) (by omega) (RP.start p) (by unfold fuel; omega))
    have HC : Hid (checkR (bs p) = if (parse (bs p)).isSome then 0 else 3) := Lib.hid (by unfold checkR; rw [if_neg (by omega)])
    have HPA : Hid (parse (bs p) = match alts (fuel (bs p).length) (bs p) with | some (a, []) => some a | _ => none) := Lib.hid (by unfold parse; rw [if_neg (by omega)]; rfl)
    clear h hl
    go_enter Tryz.func107, Tryz.ntmps107
    go_upto_region 1 with fail
    generalize W.alloc (.cells Tryz.zeroCells112 112) = w0 at *
    go_wp2_with fail
    refine (HE.out _).mono ?_
    rintro e w1 ⟨hb, hres⟩
    have HCC := Lib.hid (HRM.out.call hb)
    have HSZ : Hid (W.heap.size + 1 ≤ w1.heap.size) := Lib.hid (by have := hb.size; rw [HRM.out.size] at this; exact this)
    have HWS : Hid (w0.heap.size = W.heap.size + 1) := Lib.hid HRM.out.size
    have HW1 : Hid (At (w1.alloc (.cells Tryz.zeroCells112 112)) w1.heap.size (nodeC 0 noF false nilS) 112) := Lib.hid (by rw [zero_node]; exact At.new w1 _ _)
    have HW2 : Hid (At (w1.alloc (.cells Tryz.zeroCells112 112)) W.heap.size (nodeC 0 noF false nilS) 112 ∧ Below W.heap.size W (w1.alloc (.cells Tryz.zeroCells112 112))) := Lib.hid ⟨HCC.out.1.alloc _, HCC.out.2.alloc HCC.out.2.size _⟩
    clear hb
    rcases ha : alts (fuel (bs p).length) (bs p) with _ | ⟨a, r1⟩
    · rw [ha] at hres
      obtain ⟨x, j, hnv, rfl⟩ := hres
      have HNV := Lib.hid hnv
      have HN : Hid (parse (bs p) = none) := Lib.hid (by rw [HPA.out, ha])
      clear ha hnv
      go_wp2_with (refine wpList_store_at6 rfl 112 (.tmp 4) (.tmp 14) rfl w1.heap.size x rfl rfl 112 _ HW1.out HNV.out.info (by rw [nodeC_size, HNV.out.size]) HNV.out.one ?_)
      intro w2 hw2
      have HFA : Hid (At w2 W.heap.size (nodeC 0 noF false nilS) 112 ∧ Below W.heap.size W w2) := Lib.hid (by
        refine ⟨?_, ?_⟩
        · rw [hw2.out]; exact HW2.out.1.rowOther (by have := HSZ.out; omega)
        · rw [hw2.out]; exact below_row6 HW2.out.2 _ _ (by have := HSZ.out; omega))
      clear hw2 HW1 HW2
      generalize w1.heap.size = B at *
      go_wp2_with (refine wpList_store_at6 rfl 112 (.tmp 2) (.tmp 25) rfl W.heap.size _ rfl rfl 112 _ HFA.out.1 (by rw [HZ.out]; exact size_nodeC _ _ _ _) (by rw [HZ.out]) (by rw [HZ.out]; exact nodeC_one _ _ _ _ rfl) ?_)
      intro w3 hw3
      have H2 : Hid (At w3 W.heap.size (nodeC 0 noF false nilS) 112) := Lib.hid (by rw [hw3.out]; have := HFA.out.1.row (c' := Tryz.zeroCells112); rwa [HZ.out] at this ⊢)
      have H3 : Hid (Below W.heap.size W w3) := Lib.hid (by rw [hw3.out]; exact below_row6 HFA.out.2 _ _ (Nat.le_refl _))
      clear hw3
      go_wp2_with fail
      refine bodyPost_ret (results_node2 rfl _ _ W.heap.size 112 _ _ rfl H2.out Tryz.underlying112 rfl (size_nodeC _ _ _ _)) rfl ?_
      exact RParse.mk' H3.out (NV.node _ _ _ _ rfl) (by rw [HC.out, HN.out]; rfl) (fun a ha => by rw [HN.out] at ha; cases ha)
    · rw [ha] at hres
      obtain ⟨x, j, hx, ⟨hj1, hj2⟩, rfl⟩ := hres
      have hnv := hx.nv
      have HNV := Lib.hid hnv
      have HRX := Lib.hid hx
      have hjl : (j : Int) ≤ 200 := by omega
      rcases r1 with _ | ⟨c, r1⟩
      · have HN : Hid (parse (bs p) = some a) := Lib.hid (by rw [HPA.out, ha])
        have d5 : ((j : Int) != (p.size : Int)) = false := by
          have : j = p.size := by simpa using hj1
          rw [this]; simp
        clear ha hnv hx hj1 hj2
        go_wp2_with (refine wpList_store_at6 rfl 112 (.tmp 4) (.tmp 14) rfl w1.heap.size x rfl rfl 112 _ HW1.out HNV.out.info (by rw [nodeC_size, HNV.out.size]) HNV.out.one ?_)
        intro w2 hw2
        have HFA : Hid (At w2 W.heap.size (nodeC 0 noF false nilS) 112 ∧ Below W.heap.size W w2) := Lib.hid (by
          refine ⟨?_, ?_⟩
          · rw [hw2.out]; exact HW2.out.1.rowOther (by have := HSZ.out; omega)
          · rw [hw2.out]; exact below_row6 HW2.out.2 _ _ (by have := HSZ.out; omega))
        have HX2 : Hid (At w2 w1.heap.size x 112) := Lib.hid (by rw [hw2.out]; exact HW1.out.row)
        have HS2 : Hid (∀ (y : Array Value) (k : Nat), w0.heap.size ≤ k → k < w1.heap.size → (w2.setRow W.heap.size y).heap[k]? = w1.heap[k]?) := Lib.hid (fun y k hk1 hk2 => by
          rw [setRow_other w2 _ _ _ (by have := HWS.out; omega), hw2.out, setRow_other _ _ _ _ (by omega), Below.heap_alloc _ _ _ hk2])
        have HS3 : Hid (∀ y : Array Value, w1.heap.size ≤ (w2.setRow W.heap.size y).heap.size) := Lib.hid (fun y => by
          rw [size_setRow, hw2.out, size_setRow]; show w1.heap.size ≤ (w1.heap.push _).size; simp)
        clear hw2 HW1 HW2
        generalize hB : w1.heap.size = B at *
        go_wp2_with (first | (refine wpList_load_at rfl 112 (.tmp 4) rfl B rfl 112 _ _ HX2.out Tryz.underlying112 rfl HNV.out.info ?_) | (refine wpList_store_at6 rfl 112 (.tmp 2) (.tmp 26) rfl W.heap.size _ rfl rfl 112 _ HFA.out.1 HNV.out.info (by rw [nodeC_size, HNV.out.size]) HNV.out.one ?_))
        intro w3 hw3
        have H7 : Hid (At w3 W.heap.size x 112) := Lib.hid (by rw [hw3.out]; exact HFA.out.1.row)
        have H8 : Hid (Below W.heap.size W w3) := Lib.hid (by rw [hw3.out]; exact below_row6 HFA.out.2 _ _ (Nat.le_refl _))
        go_wp2_with fail
        refine bodyPost_ret (results_node2 rfl _ _ W.heap.size 112 _ _ rfl H7.out Tryz.underlying112 rfl HNV.out.info) rfl ?_
        refine RParse.mk' H8.out HNV.out (by rw [HC.out, HN.out]; rfl) (fun a' ha => ?_)
        rw [HN.out] at ha
        injection ha with ha
        subst ha
        rw [hw3.out]
        exact rnU_move HRX.out (by have := HWS.out; omega) (fun k hk1 hk2 => HS2.out x k hk1 (by rw [hB] at hk2; exact hk2)) (by rw [hB]; exact HS3.out x)
      · have HN : Hid (parse (bs p) = none) := Lib.hid (by rw [HPA.out, ha])
        have d5 : ((j : Int) != (p.size : Int)) = true := by
          rw [bne_iff_ne]
          simp only [List.length_cons] at hj1
          omega
        clear ha hnv hx hj1 hj2
        go_wp2_with (refine wpList_store_at6 rfl 112 (.tmp 4) (.tmp 14) rfl w1.heap.size x rfl rfl 112 _ HW1.out HNV.out.info (by rw [nodeC_size, HNV.out.size]) HNV.out.one ?_)
        intro w2 hw2
        have HFA : Hid (At w2 W.heap.size (nodeC 0 noF false nilS) 112 ∧ Below W.heap.size W w2) := Lib.hid (by
          refine ⟨?_, ?_⟩
          · rw [hw2.out]; exact HW2.out.1.rowOther (by have := HSZ.out; omega)
          · rw [hw2.out]; exact below_row6 HW2.out.2 _ _ (by have := HSZ.out; omega))
        clear hw2 HW1 HW2
        generalize w1.heap.size = B at *
        go_wp2_with (refine wpList_store_at6 rfl 112 (.tmp 2) (.tmp 25) rfl W.heap.size _ rfl rfl 112 _ HFA.out.1 (by rw [HZ.out]; exact size_nodeC _ _ _ _) (by rw [HZ.out]) (by rw [HZ.out]; exact nodeC_one _ _ _ _ rfl) ?_)
        intro w3 hw3
        have H2 : Hid (At w3 W.heap.size (nodeC 0 noF false nilS) 112) := Lib.hid (by rw [hw3.out]; have := HFA.out.1.row (c' := Tryz.zeroCells112); rwa [HZ.out] at this ⊢)
        have H3 : Hid (Below W.heap.size W w3) := Lib.hid (by rw [hw3.out]; exact below_row6 HFA.out.2 _ _ (Nat.le_refl _))
        clear hw3
        go_wp2_with fail
        refine bodyPost_ret (results_node2 rfl _ _ W.heap.size 112 _ _ rfl H2.out Tryz.underlying112 rfl (size_nodeC _ _ _ _)) rfl ?_
        exact RParse.mk' H3.out (NV.node _ _ _ _ rfl) (by rw [HC.out, HN.out]; rfl) (fun a ha => by rw [HN.out] at ha; cases ha)

set_option maxRecDepth 100000 in
set_option maxHeartbeats 1000000 in
theorem rcheck_any (p : ByteArray) (W : World) : Calls Tryz.prog 71 #[.string p] W fun e w' => e = .returned (.int .i64 (checkR (bs p) : Nat)) ∧ Below W.heap.size W w' := by
  have HP := Lib.hid (rparse_any p W)
  go_enter Tryz.func71, Tryz.ntmps71
  go_wp2_with fail
  refine (HP.out).mono ?_
  rintro e w1 ⟨hb, x, hnv, rfl, _⟩
  have HNV := Lib.hid hnv
  have HB := Lib.hid hb
  have HW1 : Hid (At (w1.alloc (.cells Tryz.zeroCells112 112)) w1.heap.size (nodeC 0 noF false nilS) 112) := Lib.hid (by rw [zero_node]; exact At.new w1 _ _)
  clear hb hnv HP
  go_wp2_with (refine wpList_store_at6 rfl 112 (.tmp 3) (.tmp 8) rfl w1.heap.size x rfl rfl 112 _ HW1.out HNV.out.info (by rw [nodeC_size, HNV.out.size]) HNV.out.one ?_)
  intro w2 hw2
  have H3 : Hid (Below W.heap.size W w2) := Lib.hid (by rw [hw2.out]; exact below_row6 (HB.out.alloc HB.out.size _) _ _ HB.out.size)
  clear hw2
  go_wp2_with fail
  go_ret
  exact ⟨rfl, H3.out⟩
end Go.Proofs.YthckgmbadmilfaaGreat

namespace Go.Proofs.YthckgmbadmilfaaGreat
open Go.RowKit

set_option maxRecDepth 100000 in
set_option maxHeartbeats 2000000 in
theorem negate_any (m : Mt) (w : World) : Calls Tryz.prog 27 #[.agg #[.int .i64 m.kind, .string m.name, .string m.value]] w fun e w' => e = .returned (.agg #[.int .i64 (negM m).kind, .string (negM m).name, .string (negM m).value]) ∧ Below w.heap.size w w' := by
  have HAT0 := Lib.hid ((At.new w #[.int .i64 m.kind, .string m.name, .string m.value] 39).alloc (.cells #[.int .i64 0, .string ⟨#[]⟩, .string ⟨#[]⟩] 39))
  have HZ0 := At.new (w.alloc (.cells #[.int .i64 m.kind, .string m.name, .string m.value] 39)) #[.int .i64 0, .string ⟨#[]⟩, .string ⟨#[]⟩] 39
  rw [show (w.alloc (.cells #[.int .i64 m.kind, .string m.name, .string m.value] 39)).heap.size = w.heap.size + 1 by simp] at HZ0
  have HZ := Lib.hid HZ0
  clear HZ0
  have HB0 : Hid (Below w.heap.size w ((w.alloc (.cells #[.int .i64 m.kind, .string m.name, .string m.value] 39)).alloc (.cells #[.int .i64 0, .string ⟨#[]⟩, .string ⟨#[]⟩] 39))) := Lib.hid (((Below.refl _ _).alloc (Nat.le_refl _) _).alloc (by simp) _)
  have hc : (m.kind = 1 ∨ m.kind = 2 ∨ m.kind = 3 ∨ m.kind = 4) ∨ (m.kind < 1 ∨ 4 < m.kind) := by omega
  rcases hc with (h | h | h | h) | hk
  · have HR : Hid (negM m = ⟨2, m.name, m.value⟩) := Lib.hid (by unfold negM negK; rw [h]; rfl)
    have b1 : (m.kind == 1) = true := by rw [h]; rfl
    clear h
    go_enter Tryz.func27, Tryz.ntmps27
    go_upto_region 1 with fail
    generalize (w.alloc (.cells #[.int .i64 m.kind, .string m.name, .string m.value] 39)).alloc (.cells #[.int .i64 0, .string ⟨#[]⟩, .string ⟨#[]⟩] 39) = w0 at *
    have c0 := HAT0.out.cell 0
    have c1 := HAT0.out.cell 1
    have c2 := HAT0.out.cell 2
    have f0 := HAT0.out.free 0
    have d0 := HZ.out.cell 0
    have d1 := HZ.out.cell 1
    have d2 := HZ.out.cell 2
    have g0 := HZ.out.free 0
    have g1 := HZ.out.free 1
    have g2 := HZ.out.free 2
    go_wp2_with fail
    have HB2 := below_set3 (x' := .int .i64 2) (y' := .string m.name) (z' := .string m.value) (HB0.out.setCell (p := ⟨w.heap.size, 0, none⟩) (Nat.le_refl _) (.int .i64 2)) (show w.heap.size ≤ w.heap.size + 1 by omega)
    refine bodyPost_ret (results_rowM rfl _ _ (w.heap.size + 1) 39 _ _ rfl ((HZ.out.other (a := ⟨w.heap.size, 0, none⟩) _ (by show w.heap.size + 1 ≠ w.heap.size; omega)).set3) Tryz.underlying39 rfl size_mt) rfl ⟨?_, HB2⟩
    rw [HR.out]
  · have HR : Hid (negM m = ⟨1, m.name, m.value⟩) := Lib.hid (by unfold negM negK; rw [h]; rfl)
    have b1 : (m.kind == 1) = false := by rw [h]; rfl
    have b2 : (m.kind == 2) = true := by rw [h]; rfl
    clear h
    go_enter Tryz.func27, Tryz.ntmps27
    go_upto_region 1 with fail
    generalize (w.alloc (.cells #[.int .i64 m.kind, .string m.name, .string m.value] 39)).alloc (.cells #[.int .i64 0, .string ⟨#[]⟩, .string ⟨#[]⟩] 39) = w0 at *
    have c0 := HAT0.out.cell 0
    have c1 := HAT0.out.cell 1
    have c2 := HAT0.out.cell 2
    have f0 := HAT0.out.free 0
    have d0 := HZ.out.cell 0
    have d1 := HZ.out.cell 1
    have d2 := HZ.out.cell 2
    have g0 := HZ.out.free 0
    have g1 := HZ.out.free 1
    have g2 := HZ.out.free 2
    go_wp2_with fail
    have HB2 := below_set3 (x' := .int .i64 1) (y' := .string m.name) (z' := .string m.value) (HB0.out.setCell (p := ⟨w.heap.size, 0, none⟩) (Nat.le_refl _) (.int .i64 1)) (show w.heap.size ≤ w.heap.size + 1 by omega)
    refine bodyPost_ret (results_rowM rfl _ _ (w.heap.size + 1) 39 _ _ rfl ((HZ.out.other (a := ⟨w.heap.size, 0, none⟩) _ (by show w.heap.size + 1 ≠ w.heap.size; omega)).set3) Tryz.underlying39 rfl size_mt) rfl ⟨?_, HB2⟩
    rw [HR.out]
  · have HR : Hid (negM m = ⟨4, m.name, m.value⟩) := Lib.hid (by unfold negM negK; rw [h]; rfl)
    have b1 : (m.kind == 1) = false := by rw [h]; rfl
    have b2 : (m.kind == 2) = false := by rw [h]; rfl
    have b3 : (m.kind == 3) = true := by rw [h]; rfl
    clear h
    go_enter Tryz.func27, Tryz.ntmps27
    go_upto_region 1 with fail
    generalize (w.alloc (.cells #[.int .i64 m.kind, .string m.name, .string m.value] 39)).alloc (.cells #[.int .i64 0, .string ⟨#[]⟩, .string ⟨#[]⟩] 39) = w0 at *
    have c0 := HAT0.out.cell 0
    have c1 := HAT0.out.cell 1
    have c2 := HAT0.out.cell 2
    have f0 := HAT0.out.free 0
    have d0 := HZ.out.cell 0
    have d1 := HZ.out.cell 1
    have d2 := HZ.out.cell 2
    have g0 := HZ.out.free 0
    have g1 := HZ.out.free 1
    have g2 := HZ.out.free 2
    go_wp2_with fail
    have HB2 := below_set3 (x' := .int .i64 4) (y' := .string m.name) (z' := .string m.value) (HB0.out.setCell (p := ⟨w.heap.size, 0, none⟩) (Nat.le_refl _) (.int .i64 4)) (show w.heap.size ≤ w.heap.size + 1 by omega)
    refine bodyPost_ret (results_rowM rfl _ _ (w.heap.size + 1) 39 _ _ rfl ((HZ.out.other (a := ⟨w.heap.size, 0, none⟩) _ (by show w.heap.size + 1 ≠ w.heap.size; omega)).set3) Tryz.underlying39 rfl size_mt) rfl ⟨?_, HB2⟩
    rw [HR.out]
  · have HR : Hid (negM m = ⟨3, m.name, m.value⟩) := Lib.hid (by unfold negM negK; rw [h]; rfl)
    have b1 : (m.kind == 1) = false := by rw [h]; rfl
    have b2 : (m.kind == 2) = false := by rw [h]; rfl
    have b3 : (m.kind == 3) = false := by rw [h]; rfl
    have b4 : (m.kind == 4) = true := by rw [h]; rfl
    clear h
    go_enter Tryz.func27, Tryz.ntmps27
    go_upto_region 1 with fail
    generalize (w.alloc (.cells #[.int .i64 m.kind, .string m.name, .string m.value] 39)).alloc (.cells #[.int .i64 0, .string ⟨#[]⟩, .string ⟨#[]⟩] 39) = w0 at *
    have c0 := HAT0.out.cell 0
    have c1 := HAT0.out.cell 1
    have c2 := HAT0.out.cell 2
    have f0 := HAT0.out.free 0
    have d0 := HZ.out.cell 0
    have d1 := HZ.out.cell 1
    have d2 := HZ.out.cell 2
    have g0 := HZ.out.free 0
    have g1 := HZ.out.free 1
    have g2 := HZ.out.free 2
    go_wp2_with fail
    have HB2 := below_set3 (x' := .int .i64 3) (y' := .string m.name) (z' := .string m.value) (HB0.out.setCell (p := ⟨w.heap.size, 0, none⟩) (Nat.le_refl _) (.int .i64 3)) (show w.heap.size ≤ w.heap.size + 1 by omega)
    refine bodyPost_ret (results_rowM rfl _ _ (w.heap.size + 1) 39 _ _ rfl ((HZ.out.other (a := ⟨w.heap.size, 0, none⟩) _ (by show w.heap.size + 1 ≠ w.heap.size; omega)).set3) Tryz.underlying39 rfl size_mt) rfl ⟨?_, HB2⟩
    rw [HR.out]
  · have HR : Hid (negM m = Mt.zero) := Lib.hid (by unfold negM; rw [if_pos hk])
    have b1 : (m.kind == 1) = false := by rw [beq_eq_false_iff_ne]; omega
    have b2 : (m.kind == 2) = false := by rw [beq_eq_false_iff_ne]; omega
    have b3 : (m.kind == 3) = false := by rw [beq_eq_false_iff_ne]; omega
    have b4 : (m.kind == 4) = false := by rw [beq_eq_false_iff_ne]; omega
    clear hk
    go_enter Tryz.func27, Tryz.ntmps27
    go_upto_region 1 with fail
    generalize (w.alloc (.cells #[.int .i64 m.kind, .string m.name, .string m.value] 39)).alloc (.cells #[.int .i64 0, .string ⟨#[]⟩, .string ⟨#[]⟩] 39) = w0 at *
    have c0 := HAT0.out.cell 0
    have d0 := HZ.out.cell 0
    have d1 := HZ.out.cell 1
    have d2 := HZ.out.cell 2
    have g0 := HZ.out.free 0
    have g1 := HZ.out.free 1
    have g2 := HZ.out.free 2
    go_wp2_with fail
    have HB2 := below_set3 (x' := .int .i64 0) (y' := .string ⟨#[]⟩) (z' := .string ⟨#[]⟩) HB0.out (show w.heap.size ≤ w.heap.size + 1 by omega)
    refine bodyPost_ret (results_rowM rfl _ _ (w.heap.size + 1) 39 _ _ rfl HZ.out.set3 Tryz.underlying39 rfl size_mt) rfl ⟨?_, HB2⟩
    rw [HR.out]
    rfl
set_option maxRecDepth 100000 in
set_option maxHeartbeats 2000000 in
theorem checkR7_any (m : Mt) (w : World) (hn : m.name.size ≤ 140737488351232) : Calls Tryz.prog 41 #[.agg #[.int .i64 m.kind, .string m.name, .string m.value]] w fun e w' => e = .returned (.int .i64 (chkM m)) ∧ Below w.heap.size w w' := by
  have HX := Lib.hid (At.new w #[.int .i64 m.kind, .string m.name, .string m.value] 39)
  have HB0 : Hid (Below w.heap.size w (w.alloc (.cells #[.int .i64 m.kind, .string m.name, .string m.value] 39))) := Lib.hid ((Below.refl _ _).alloc (Nat.le_refl _) _)
  by_cases h1 : m.kind < 1
  · have HR : Hid (chkM m = 8) := Lib.hid (by unfold chkM; rw [if_pos (.inl h1)])
    go_enter Tryz.func41, Tryz.ntmps41
    go_upto_region 1 with fail
    generalize w.alloc (.cells #[.int .i64 m.kind, .string m.name, .string m.value] 39) = w0 at *
    have c0 := HX.out.cell 0
    have c1 := HX.out.cell 1
    have c2 := HX.out.cell 2
    go_wp2_with fail
    go_ret
    exact ⟨ret_int HR.out.symm, HB0.out⟩
  by_cases h4 : 4 < m.kind
  · have HR : Hid (chkM m = 8) := Lib.hid (by unfold chkM; rw [if_pos (.inr h4)])
    go_enter Tryz.func41, Tryz.ntmps41
    go_upto_region 1 with fail
    generalize w.alloc (.cells #[.int .i64 m.kind, .string m.name, .string m.value] 39) = w0 at *
    have c0 := HX.out.cell 0
    have c1 := HX.out.cell 1
    have c2 := HX.out.cell 2
    go_wp2_with fail
    go_ret
    exact ⟨ret_int HR.out.symm, HB0.out⟩
  have hc0 : chkM m = if nameB m.name = true then (if 2 < m.kind then ((Rx.checkR (bs m.value) : Nat) : Int) else if 200 < m.value.size then 4 else 0) else 5 := by
    conv => lhs; unfold chkM
    rw [if_neg (by omega)]
  have HC := Lib.hid hc0
  clear hc0
  have HNM := Lib.hid (fun W => name05_any m.name W hn)
  rcases hnb : nameB m.name with _ | _
  · rw [hnb] at HNM HC
    have HR : Hid (chkM m = 5) := Lib.hid (by rw [HC.out]; rfl)
    clear hnb
    go_enter Tryz.func41, Tryz.ntmps41
    go_upto_region 1 with fail
    generalize w.alloc (.cells #[.int .i64 m.kind, .string m.name, .string m.value] 39) = w0 at *
    have c0 := HX.out.cell 0
    have c1 := HX.out.cell 1
    have c2 := HX.out.cell 2
    go_wp2_with fail
    refine (HNM.out w0).mono ?_
    rintro e w1 ⟨rfl, rfl⟩
    go_wp2_with fail
    go_ret
    exact ⟨ret_int HR.out.symm, HB0.out⟩
  rw [hnb, if_pos rfl] at HC
  rw [hnb] at HNM
  clear hnb
  by_cases h2 : 2 < m.kind
  · have HR : Hid (chkM m = (Rx.checkR (bs m.value) : Nat)) := Lib.hid (by rw [HC.out, if_pos h2])
    have HRC := Lib.hid (fun W => rcheck_any m.value W)
    clear HC
    go_enter Tryz.func41, Tryz.ntmps41
    go_upto_region 1 with fail
    generalize w.alloc (.cells #[.int .i64 m.kind, .string m.name, .string m.value] 39) = w0 at *
    have c0 := HX.out.cell 0
    have c1 := HX.out.cell 1
    have c2 := HX.out.cell 2
    go_wp2_with fail
    refine (HNM.out w0).mono ?_
    rintro e w1 ⟨rfl, rfl⟩
    go_wp2_with fail
    refine (HRC.out _).mono ?_
    rintro e w2 ⟨rfl, hb⟩
    go_wp2_with fail
    go_ret
    exact ⟨ret_int HR.out.symm, HB0.out.trans (hb.mono HB0.out.size)⟩
  by_cases h5 : 200 < m.value.size
  · have HR : Hid (chkM m = 4) := Lib.hid (by rw [HC.out, if_neg h2, if_pos h5])
    clear HC
    go_enter Tryz.func41, Tryz.ntmps41
    go_upto_region 1 with fail
    generalize w.alloc (.cells #[.int .i64 m.kind, .string m.name, .string m.value] 39) = w0 at *
    have c0 := HX.out.cell 0
    have c1 := HX.out.cell 1
    have c2 := HX.out.cell 2
    go_wp2_with fail
    refine (HNM.out w0).mono ?_
    rintro e w1 ⟨rfl, rfl⟩
    go_wp2_with fail
    go_ret
    exact ⟨ret_int HR.out.symm, HB0.out⟩
  · have HR : Hid (chkM m = 0) := Lib.hid (by rw [HC.out, if_neg h2, if_neg h5])
    clear HC
    go_enter Tryz.func41, Tryz.ntmps41
    go_upto_region 1 with fail
    generalize w.alloc (.cells #[.int .i64 m.kind, .string m.name, .string m.value] 39) = w0 at *
    have c0 := HX.out.cell 0
    have c1 := HX.out.cell 1
    have c2 := HX.out.cell 2
    go_wp2_with fail
    refine (HNM.out w0).mono ?_
    rintro e w1 ⟨rfl, rfl⟩
    go_wp2_with fail
    go_ret
    exact ⟨ret_int HR.out.symm, HB0.out⟩
end Go.Proofs.YthckgmbadmilfaaGreat

namespace Go.Proofs.YthckgmbadmilfaaGreat
open Go.RowKit

set_option maxRecDepth 100000 in
set_option maxHeartbeats 2000000 in
theorem checkMsR_any (A : Option Addr) (c : Nat) (ms : List Mt) (w : World) (hr : MtsIn w.heap.size w A ms) (hn : ∀ x ∈ ms, x.name.size ≤ 140737488351232) :
    Calls Tryz.prog 20 #[.slice A ms.length c] w fun e w' => e = .returned (.int .i64 (chkMs ms)) ∧ Below w.heap.size w w' := by
  by_cases h16 : 16 < ms.length
  · have HR : Hid (chkMs ms = 4) := Lib.hid (by unfold chkMs; rw [if_pos h16])
    go_enter Tryz.func20, Tryz.ntmps20
    go_wp2_with fail
    go_ret
    exact ⟨ret_int HR.out.symm, Below.refl _ _⟩
  · have HR : Hid (chkMs ms = chkMF (ms.drop 0)) := Lib.hid (by unfold chkMs; rw [if_neg h16]; rfl)
    have HRD := Lib.hid hr
    have HNS := Lib.hid hn
    have hlen : ms.length ≤ 16 := by omega
    clear hr hn
    go_enter Tryz.func20, Tryz.ntmps20
    go_wp2_with fail
    go_loopw [3] (fun i wr => ∃ k : Nat, k ≤ ms.length ∧ i = .int .i64 k ∧ Hid (chkMs ms = chkMF (ms.drop k)) ∧ Below w.heap.size w wr) (fun i _ => ms.length - (intOf i).toNat)
    case atStart => exact ⟨0, Nat.zero_le _, rfl, HR, Below.refl _ _⟩
    case round =>
      obtain ⟨k, hk, rfl, HK, hD⟩ := hrel
      have HD := Lib.hid hD
      clear HR hD
      by_cases hlt : k < ms.length
      · have HST := Lib.hid (chkMF_step hlt)
        obtain ⟨b, o, rfl, hb, c0, c1, c2⟩ := (HRD.out.below HD.out).at_ k hlt
        have hns := HNS.out _ (List.getElem_mem hlt)
        obtain ⟨x, hx⟩ : ∃ x, ms[k] = x := ⟨_, rfl⟩
        rw [hx] at HST c0 c1 c2 hns
        clear hx hb
        have HCO := Lib.hid (checkR7_any x wr hns)
        clear hns
        by_cases hz : chkM x = 0
        · rw [hz] at HCO
          have HN : Hid (chkMs ms = chkMF (ms.drop (k + 1))) := Lib.hid (by rw [HK.out, HST.out, if_pos hz])
          clear hz HST HK
          go_wp2_with fail
          refine HCO.out.mono ?_
          rintro e w1 ⟨rfl, hb1⟩
          have HB1 := Lib.hid (HD.out.trans (hb1.mono HD.out.size))
          clear hb1 HCO
          go_wp2_with fail
          go_roundw
          case rel => exact ⟨k + 1, by omega, by go_num, HN, HB1.out⟩
          case measure => simp [intOf]; omega
        · have HN : Hid (chkMs ms = chkM x) := Lib.hid (by rw [HK.out, HST.out, if_neg hz])
          have hzb : (chkM x != 0) = true := by simpa using hz
          clear hz HST HK
          generalize chkM x = z at *
          go_wp2_with fail
          refine HCO.out.mono ?_
          rintro e w1 ⟨rfl, hb1⟩
          have HB1 := Lib.hid (HD.out.trans (hb1.mono HD.out.size))
          clear hb1 HCO
          go_wp2_with fail
          go_ret
          exact ⟨ret_int HN.out.symm, HB1.out⟩
      · have HN : Hid (chkMs ms = 0) := Lib.hid (by rw [HK.out, chkMF_end (Nat.le_of_not_lt hlt)])
        go_wp2_with fail
        go_ret
        exact ⟨ret_int HN.out.symm, HD.out⟩
def gr1 (x : Mt) : Bool := decide (61 < x.name.size) || (decide (40 < x.value.size) && decide (2 < x.kind)) || decide (201 < x.value.size)
theorem greatM_eq (ms : List Mt) : greatM ms = (ms.any gr1 || decide (17 < ms.length)) := rfl
theorem gr_step {ms : List Mt} {k : Nat} (h : k < ms.length) : (ms.drop k).any gr1 = (gr1 ms[k] || (ms.drop (k + 1)).any gr1) := by
  rw [List.drop_eq_getElem_cons h, List.any_cons]
set_option maxRecDepth 100000 in
set_option maxHeartbeats 2000000 in
theorem greatM_any (A : Option Addr) (c : Nat) (ms : List Mt) (w : World) (hr : MtsIn w.heap.size w A ms) (hl : ms.length ≤ 9223372036854775807) :
    Calls Tryz.prog 35 #[.slice A ms.length c] w fun e w' => e = .returned (.bool (greatM ms)) ∧ w' = w := by
  have HRD := Lib.hid hr
  clear hr
  go_enter Tryz.func35, Tryz.ntmps35
  go_wp2_with fail
  go_loop [3] (fun i => ∃ k : Nat, k ≤ ms.length ∧ i = .int .i64 k ∧ Hid (greatM ms = ((ms.drop k).any gr1 || decide (17 < ms.length)))) (fun i => ms.length - (intOf i).toNat)
  case atStart => exact ⟨0, Nat.zero_le _, rfl, Lib.hid rfl⟩
  case round =>
    obtain ⟨k, hk, rfl, HK⟩ := hrel
    by_cases hlt : k < ms.length
    · have HST := Lib.hid (gr_step hlt)
      obtain ⟨b, o, rfl, _, c0, c1, c2⟩ := HRD.out.at_ k hlt
      obtain ⟨x, hx⟩ : ∃ x, ms[k] = x := ⟨_, rfl⟩
      rw [hx] at HST c0 c1 c2
      clear hx
      rcases hg : gr1 x with _ | _
      · have HR : Hid (greatM ms = ((ms.drop (k + 1)).any gr1 || decide (17 < ms.length))) := Lib.hid (by rw [HK.out, HST.out, hg, Bool.false_or])
        unfold gr1 at hg
        simp only [Bool.or_eq_false_iff, Bool.and_eq_false_iff, decide_eq_false_iff_not] at hg
        obtain ⟨⟨h1, h2⟩, h3⟩ := hg
        rcases h2 with h2 | h2
        · go_wp2_with fail
          go_round
          case rel => exact ⟨k + 1, by omega, by go_num, HR⟩
          case measure => simp [intOf]; omega
        · by_cases h4 : 40 < x.value.size
          · go_wp2_with fail
            go_round
            case rel => exact ⟨k + 1, by omega, by go_num, HR⟩
            case measure => simp [intOf]; omega
          · go_wp2_with fail
            go_round
            case rel => exact ⟨k + 1, by omega, by go_num, HR⟩
            case measure => simp [intOf]; omega
      · have HR : Hid (greatM ms = true) := Lib.hid (by rw [HK.out, HST.out, hg]; rfl)
        unfold gr1 at hg
        by_cases h1 : 61 < x.name.size
        · go_wp2_with fail
          go_ret
          exact ⟨ret_bool HR.out.symm, rfl⟩
        · by_cases h2 : 40 < x.value.size
          · by_cases h4 : 2 < x.kind
            · go_wp2_with fail
              go_ret
              exact ⟨ret_bool HR.out.symm, rfl⟩
            · have h3 : 201 < x.value.size := by simpa [h1, h2, h4] using hg
              go_wp2_with fail
              go_ret
              exact ⟨ret_bool HR.out.symm, rfl⟩
          · exfalso
            rw [decide_eq_false h1, decide_eq_false h2, decide_eq_false (show ¬ 201 < x.value.size by omega)] at hg
            cases hg
    · have HR : Hid (greatM ms = decide (17 < ms.length)) := Lib.hid (by rw [HK.out, List.drop_eq_nil_of_le (by omega)]; rfl)
      by_cases h17 : 17 < ms.length
      · go_wp2_with fail
        go_ret
        exact ⟨ret_bool (by rw [HR.out]; simp [h17]; omega), rfl⟩
      · go_wp2_with fail
        go_ret
        exact ⟨ret_bool (by rw [HR.out]; simp [h17]; omega), rfl⟩
end Go.Proofs.YthckgmbadmilfaaGreat
