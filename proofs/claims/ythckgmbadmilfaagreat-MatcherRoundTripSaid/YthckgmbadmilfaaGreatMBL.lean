/- The reference's walks: repeated. -/
import Derived.Test.YthckgmbadmilfaaGreatMBK
namespace Go.Proofs.YthckgmbadmilfaaGreat
open Go.RowKit Rx
/-- A node with parts that is handed back. -/
def RepPost (k : Int) (xs : List (Array Value)) (W : World) (e : Ending) (w' : World) : Prop := Below W.heap.size W w' ∧ ∃ sv, e = .returned (.agg (nodeC k noF false sv)) ∧ RRow (Fresh W w') w' sv xs
theorem built3 (k : Int) (v : Value) : (Tryz.zeroCells112.setIfInBounds 0 (.int .i64 k)).setIfInBounds 258 v = nodeC k noF false v := by
  rw [zero_node, nodeC_setKind, nodeC_setArgs]
theorem built4 : Tryz.zeroCells112.setIfInBounds 0 (.int .i64 2) = nodeC 2 noF false nilS := by rw [zero_node, nodeC_setKind]
theorem flat_size {xs : List (Array Value)} (h : ∀ x ∈ xs, NV x) : (flat xs).toArray.size = xs.length * 259 := by rw [List.size_toArray, flat_len h]
/-- A row that a literal makes. -/
theorem rrow_lit {W w : World} {xs : List (Array Value)} (hW : W.heap.size ≤ w.heap.size) (h : ∀ x ∈ xs, NV x) (hl : xs.length ≤ 1000) (w' : World) (hs : ∀ k, k = w.heap.size → w'.heap[k]? = (w.alloc (.cells (flat xs).toArray 112)).heap[k]?) (hlt : w.heap.size < w'.heap.size) :
    RRow (Fresh W w') w' (.slice (some ⟨w.heap.size, 0, none⟩) xs.length xs.length) xs := by
  have h1 := World.ownsRow_lit (base := 0) (e := 112) (size := 259) w (flat xs).toArray xs.length (Nat.zero_le _) (by unfold maxLen; omega) (flat_size h)
  refine ⟨?_, h, fun g hg => ?_⟩
  · refine owns_same (S := fun k => k = w.heap.size) h1 (fun g hg => ?_) (fun k hk => hs k hk)
    injection hg with hg; exact hg.symm
  · injection hg with hg
    subst hg
    exact ⟨hW, hlt⟩

set_option maxRecDepth 100000 in
set_option maxHeartbeats 1000000 in
theorem rrep_star (W : World) (x : Array Value) (hx : NV x) : Calls Tryz.prog 154 #[.agg x, .int .u8 42] W (RepPost 4 [x] W) := by
  have H1 : Hid (At ((W.alloc (.cells x 112)).alloc (.cells Tryz.zeroCells112 112)) W.heap.size x 112) := Lib.hid ((At.new W _ _).alloc _)
  have HR : Hid (At ((W.alloc (.cells x 112)).alloc (.cells Tryz.zeroCells112 112)) (W.heap.size + 1) (nodeC 0 noF false nilS) 112) := Lib.hid (by rw [← zero_node]; exact at_two W _ _ _ _)
  have HB : Hid (Below W.heap.size W ((W.alloc (.cells x 112)).alloc (.cells Tryz.zeroCells112 112))) := Lib.hid (((Below.refl _ _).alloc (Nat.le_refl _) _).alloc (by show W.heap.size ≤ (W.heap.push _).size; simp) _)
  have HSI : Hid (((W.alloc (.cells x 112)).alloc (.cells Tryz.zeroCells112 112)).heap.size = W.heap.size + 2) := Lib.hid (two_lt W _ _)
  have HI := Lib.hid hx.info
  have HX := Lib.hid hx
  have HNV : Hid (∀ y ∈ ([x] : List (Array Value)), NV y) := Lib.hid (by intro y hy; rw [List.mem_singleton] at hy; subst hy; exact HX.out)
  clear hx
  go_enter Tryz.func154, Tryz.ntmps154
  go_upto_region 2 with fail
  generalize ((W.alloc (.cells x 112)).alloc (.cells Tryz.zeroCells112 112)) = w0 at *
  go_wp2_with (first | (refine wpList_load_at rfl 112 (.tmp 2) rfl W.heap.size rfl 112 x _ H1.out Tryz.underlying112 rfl HI.out ?_) | (refine wpList_nodes rfl _ _ rfl [x] HNV.out rfl (by decide) (by decide) ?hp ?_))
  intro w1 hw1
  have hs1 : w1.heap.size = W.heap.size + 3 := by rw [hw1.out]; show (w0.heap.push _).size = _; rw [Array.size_push, HSI.out]
  have HR1 : Hid (At w1 (W.heap.size + 1) (nodeC 0 noF false nilS) 112) := Lib.hid (by rw [hw1.out]; exact HR.out.alloc _)
  have HB1 : Hid (Below W.heap.size W w1) := Lib.hid (by rw [hw1.out]; exact HB.out.alloc HB.out.size _)
  have HW1 := hw1
  have HS1 := Lib.hid hs1
  clear hw1 hs1
  rw [HSI.out]
  go_wp2_with (refine wpList_store_at6 rfl 112 (.tmp 4) (.tmp 9) rfl (W.heap.size + 1) _ rfl rfl 112 _ HR1.out (by rw [built3]; exact size_nodeC _ _ _ _) (by rw [built3, nodeC_size, nodeC_size]) (by rw [built3]; exact nodeC_one _ _ _ _ rfl) ?_)
  intro w2 hw2
  have H6 : Hid (At w2 (W.heap.size + 1) (nodeC 4 noF false (.slice (some ⟨W.heap.size + 2, 0, none⟩) 1 1)) 112) := Lib.hid (by rw [hw2.out, built3]; exact HR1.out.row)
  have H7 : Hid (Below W.heap.size W w2) := Lib.hid (by rw [hw2.out]; exact below_row6 HB1.out _ _ (by omega))
  have hrow := rrow_lit (W := W) (w := w0) (xs := [x]) (by rw [HSI.out]; omega) HNV.out (by simp) w2 (fun k hk => by
    subst hk
    rw [hw2.out, setRow_other w1 _ _ _ (by rw [HSI.out]; omega), HW1.out]) (by rw [hw2.out, size_setRow, HS1.out, HSI.out]; omega)
  rw [HSI.out] at hrow
  have HROW := Lib.hid hrow
  clear hw2 hrow HW1
  go_wp2_with fail
  refine bodyPost_ret (v := .agg (nodeC 4 noF false (.slice (some ⟨W.heap.size + 2, 0, none⟩) 1 1))) (results_cell_row rfl _ _ (W.heap.size + 1) 112 _ (0, 0) _ rfl H6.out.out Tryz.underlying112 rfl (size_nodeC _ _ _ _)) rfl ⟨H7.out, _, rfl, HROW.out⟩

set_option maxRecDepth 100000 in
set_option maxHeartbeats 1000000 in
theorem rrep_plus (W : World) (x : Array Value) (hx : NV x) : Calls Tryz.prog 154 #[.agg x, .int .u8 43] W (RepPost 5 [x] W) := by
  have H1 : Hid (At ((W.alloc (.cells x 112)).alloc (.cells Tryz.zeroCells112 112)) W.heap.size x 112) := Lib.hid ((At.new W _ _).alloc _)
  have HR : Hid (At ((W.alloc (.cells x 112)).alloc (.cells Tryz.zeroCells112 112)) (W.heap.size + 1) (nodeC 0 noF false nilS) 112) := Lib.hid (by rw [← zero_node]; exact at_two W _ _ _ _)
  have HB : Hid (Below W.heap.size W ((W.alloc (.cells x 112)).alloc (.cells Tryz.zeroCells112 112))) := Lib.hid (((Below.refl _ _).alloc (Nat.le_refl _) _).alloc (by show W.heap.size ≤ (W.heap.push _).size; simp) _)
  have HSI : Hid (((W.alloc (.cells x 112)).alloc (.cells Tryz.zeroCells112 112)).heap.size = W.heap.size + 2) := Lib.hid (two_lt W _ _)
  have HI := Lib.hid hx.info
  have HX := Lib.hid hx
  have HNV : Hid (∀ y ∈ ([x] : List (Array Value)), NV y) := Lib.hid (by intro y hy; rw [List.mem_singleton] at hy; subst hy; exact HX.out)
  clear hx
  go_enter Tryz.func154, Tryz.ntmps154
  go_upto_region 4 with fail
  generalize ((W.alloc (.cells x 112)).alloc (.cells Tryz.zeroCells112 112)) = w0 at *
  go_wp2_with (first | (refine wpList_load_at rfl 112 (.tmp 2) rfl W.heap.size rfl 112 x _ H1.out Tryz.underlying112 rfl HI.out ?_) | (refine wpList_nodes rfl _ _ rfl [x] HNV.out rfl (by decide) (by decide) ?hp ?_))
  intro w1 hw1
  have hs1 : w1.heap.size = W.heap.size + 3 := by rw [hw1.out]; show (w0.heap.push _).size = _; rw [Array.size_push, HSI.out]
  have HR1 : Hid (At w1 (W.heap.size + 1) (nodeC 0 noF false nilS) 112) := Lib.hid (by rw [hw1.out]; exact HR.out.alloc _)
  have HB1 : Hid (Below W.heap.size W w1) := Lib.hid (by rw [hw1.out]; exact HB.out.alloc HB.out.size _)
  have HW1 := hw1
  have HS1 := Lib.hid hs1
  clear hw1 hs1
  rw [HSI.out]
  go_wp2_with (refine wpList_store_at6 rfl 112 (.tmp 4) (.tmp 14) rfl (W.heap.size + 1) _ rfl rfl 112 _ HR1.out (by rw [built3]; exact size_nodeC _ _ _ _) (by rw [built3, nodeC_size, nodeC_size]) (by rw [built3]; exact nodeC_one _ _ _ _ rfl) ?_)
  intro w2 hw2
  have H6 : Hid (At w2 (W.heap.size + 1) (nodeC 5 noF false (.slice (some ⟨W.heap.size + 2, 0, none⟩) 1 1)) 112) := Lib.hid (by rw [hw2.out, built3]; exact HR1.out.row)
  have H7 : Hid (Below W.heap.size W w2) := Lib.hid (by rw [hw2.out]; exact below_row6 HB1.out _ _ (by omega))
  have hrow := rrow_lit (W := W) (w := w0) (xs := [x]) (by rw [HSI.out]; omega) HNV.out (by simp) w2 (fun k hk => by
    subst hk
    rw [hw2.out, setRow_other w1 _ _ _ (by rw [HSI.out]; omega), HW1.out]) (by rw [hw2.out, size_setRow, HS1.out, HSI.out]; omega)
  rw [HSI.out] at hrow
  have HROW := Lib.hid hrow
  clear hw2 hrow HW1
  go_wp2_with fail
  refine bodyPost_ret (v := .agg (nodeC 5 noF false (.slice (some ⟨W.heap.size + 2, 0, none⟩) 1 1))) (results_cell_row rfl _ _ (W.heap.size + 1) 112 _ (0, 0) _ rfl H6.out.out Tryz.underlying112 rfl (size_nodeC _ _ _ _)) rfl ⟨H7.out, _, rfl, HROW.out⟩

set_option maxRecDepth 100000 in
set_option maxHeartbeats 1000000 in
theorem rrep_opt (W : World) (x : Array Value) (hx : NV x) : Calls Tryz.prog 154 #[.agg x, .int .u8 63] W (RepPost 3 [nodeC 2 noF false nilS, x] W) := by
  have H1 : Hid (At ((W.alloc (.cells x 112)).alloc (.cells Tryz.zeroCells112 112)) W.heap.size x 112) := Lib.hid ((At.new W _ _).alloc _)
  have HR : Hid (At ((W.alloc (.cells x 112)).alloc (.cells Tryz.zeroCells112 112)) (W.heap.size + 1) (nodeC 0 noF false nilS) 112) := Lib.hid (by rw [← zero_node]; exact at_two W _ _ _ _)
  have HB : Hid (Below W.heap.size W ((W.alloc (.cells x 112)).alloc (.cells Tryz.zeroCells112 112))) := Lib.hid (((Below.refl _ _).alloc (Nat.le_refl _) _).alloc (by show W.heap.size ≤ (W.heap.push _).size; simp) _)
  have HSI : Hid (((W.alloc (.cells x 112)).alloc (.cells Tryz.zeroCells112 112)).heap.size = W.heap.size + 2) := Lib.hid (two_lt W _ _)
  have HI := Lib.hid hx.info
  have HX := Lib.hid hx
  have HNV : Hid (∀ y ∈ ([nodeC 2 noF false nilS, x] : List (Array Value)), NV y) := Lib.hid (by intro y hy; simp only [List.mem_cons, List.not_mem_nil, or_false] at hy; rcases hy with rfl | rfl; exact NV.node _ _ _ _ rfl; exact HX.out)
  clear hx
  go_enter Tryz.func154, Tryz.ntmps154
  go_upto_region 5 with fail
  generalize ((W.alloc (.cells x 112)).alloc (.cells Tryz.zeroCells112 112)) = w0 at *
  go_wp2_with (first | (refine wpList_load_at rfl 112 (.tmp 2) rfl W.heap.size rfl 112 x _ H1.out Tryz.underlying112 rfl HI.out ?_) | (refine wpList_nodes rfl _ _ rfl [nodeC 2 noF false nilS, x] HNV.out rfl (by decide) (by decide) ?hp ?_))
  case hp => exact built4
  intro w1 hw1
  have hs1 : w1.heap.size = W.heap.size + 3 := by rw [hw1.out]; show (w0.heap.push _).size = _; rw [Array.size_push, HSI.out]
  have HR1 : Hid (At w1 (W.heap.size + 1) (nodeC 0 noF false nilS) 112) := Lib.hid (by rw [hw1.out]; exact HR.out.alloc _)
  have HB1 : Hid (Below W.heap.size W w1) := Lib.hid (by rw [hw1.out]; exact HB.out.alloc HB.out.size _)
  have HW1 := hw1
  have HS1 := Lib.hid hs1
  clear hw1 hs1
  rw [HSI.out]
  go_wp2_with (refine wpList_store_at6 rfl 112 (.tmp 4) (.tmp 18) rfl (W.heap.size + 1) _ rfl rfl 112 _ HR1.out (by rw [built3]; exact size_nodeC _ _ _ _) (by rw [built3, nodeC_size, nodeC_size]) (by rw [built3]; exact nodeC_one _ _ _ _ rfl) ?_)
  intro w2 hw2
  have H6 : Hid (At w2 (W.heap.size + 1) (nodeC 3 noF false (.slice (some ⟨W.heap.size + 2, 0, none⟩) 2 2)) 112) := Lib.hid (by rw [hw2.out, built3]; exact HR1.out.row)
  have H7 : Hid (Below W.heap.size W w2) := Lib.hid (by rw [hw2.out]; exact below_row6 HB1.out _ _ (by omega))
  have hrow := rrow_lit (W := W) (w := w0) (xs := [nodeC 2 noF false nilS, x]) (by rw [HSI.out]; omega) HNV.out (by simp) w2 (fun k hk => by
    subst hk
    rw [hw2.out, setRow_other w1 _ _ _ (by rw [HSI.out]; omega), HW1.out]) (by rw [hw2.out, size_setRow, HS1.out, HSI.out]; omega)
  rw [HSI.out] at hrow
  have HROW := Lib.hid hrow
  clear hw2 hrow HW1
  go_wp2_with fail
  refine bodyPost_ret (v := .agg (nodeC 3 noF false (.slice (some ⟨W.heap.size + 2, 0, none⟩) 2 2))) (results_cell_row rfl _ _ (W.heap.size + 1) 112 _ (0, 0) _ rfl H6.out.out Tryz.underlying112 rfl (size_nodeC _ _ _ _)) rfl ⟨H7.out, _, rfl, HROW.out⟩
end Go.Proofs.YthckgmbadmilfaaGreat
