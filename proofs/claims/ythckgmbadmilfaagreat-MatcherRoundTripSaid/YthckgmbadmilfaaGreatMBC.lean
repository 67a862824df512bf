/- Walks: comparisons of strings and of labels (the reference's, and cmp's). Walks: the order of matchers (the program's compare), and slices.SortFunc by it. Walks: slices.SortFunc over matchers that a call has laid. Walks: slices.Compact over matchers that a call has laid. -/
import Derived.Test.YthckgmbadmilfaaGreatMAI
import Derived.Test.YthckgmbadmilfaaGreatMBB
import Derived.Shelf.SlSortCmp.NoneTotal
import Derived.Test.YthckgmbadmilfaaGreatMAV
namespace Go.Proofs.YthckgmbadmilfaaGreat
open Go.RowKit

theorem cmpS_lt {a b : ByteArray} (h : Op.bytesLess a.toList b.toList = true) : cmpS a b = -1 := by unfold cmpS ltS; rw [if_pos h]
theorem cmpS_eq0 {a b : ByteArray} (h : Op.bytesLess a.toList b.toList = false) (h2 : (a.toList == b.toList) = true) : cmpS a b = 0 := by
  unfold cmpS ltS leS
  rw [h, h2]
  rfl
theorem cmpS_gt {a b : ByteArray} (h : Op.bytesLess a.toList b.toList = false) (h2 : (a.toList == b.toList) = false) : cmpS a b = 1 := by
  unfold cmpS ltS leS
  rw [h, h2]
  rfl
set_option maxHeartbeats 400000 in
theorem nanS_any (a : ByteArray) (w : World) : Calls Tryz.prog 122 #[.string a] w fun e w' => e = .returned (.bool false) ∧ w' = w := by
  go_enter Tryz.func122, Tryz.ntmps122
  go_wp2_with fail
  go_ret
  exact ⟨ret_bool (by simp), rfl⟩
set_option maxHeartbeats 400000 in
theorem nanI_any (a : Int) (w : World) : Calls Tryz.prog 123 #[.int .i64 a] w fun e w' => e = .returned (.bool false) ∧ w' = w := by
  go_enter Tryz.func123, Tryz.ntmps123
  go_wp2_with fail
  go_ret
  exact ⟨ret_bool (by simp), rfl⟩
set_option maxHeartbeats 400000 in
theorem cmpStr_any (a b : ByteArray) (w : World) : Calls Tryz.prog 82 #[.string a, .string b] w fun e w' => e = .returned (.int .i64 (cmpS a b)) ∧ w' = w := by
  rcases h : Op.bytesLess a.toList b.toList
  · rcases h2 : (a.toList == b.toList)
    · have HR := Lib.hid (cmpS_gt h h2)
      go_enter Tryz.func82, Tryz.ntmps82
      go_wp2_with (go_at_call 122; refine (nanS_any _ _).mono ?_; rintro e w' ⟨rfl, rfl⟩)
      go_ret
      exact ⟨ret_int HR.out.symm, rfl⟩
    · have HR := Lib.hid (cmpS_eq0 h h2)
      go_enter Tryz.func82, Tryz.ntmps82
      go_wp2_with (go_at_call 122; refine (nanS_any _ _).mono ?_; rintro e w' ⟨rfl, rfl⟩)
      go_ret
      exact ⟨ret_int HR.out.symm, rfl⟩
  · have HR := Lib.hid (cmpS_lt h)
    go_enter Tryz.func82, Tryz.ntmps82
    go_wp2_with (go_at_call 122; refine (nanS_any _ _).mono ?_; rintro e w' ⟨rfl, rfl⟩)
    go_ret
    exact ⟨ret_int HR.out.symm, rfl⟩
def cmpI (a b : Int) : Int := if a < b then -1 else if b < a then 1 else 0
set_option maxHeartbeats 400000 in
theorem cmpInt_any (a b : Int) (w : World) : Calls Tryz.prog 83 #[.int .i64 a, .int .i64 b] w fun e w' => e = .returned (.int .i64 (cmpI a b)) ∧ w' = w := by
  rcases Int.lt_trichotomy a b with h | h | h
  · have HR : Hid (cmpI a b = -1) := Lib.hid (by unfold cmpI; rw [if_pos h])
    go_enter Tryz.func83, Tryz.ntmps83
    go_wp2_with (go_at_call 123; refine (nanI_any _ _).mono ?_; rintro e w' ⟨rfl, rfl⟩)
    go_ret
    exact ⟨ret_int HR.out.symm, rfl⟩
  · subst h
    have HR : Hid (cmpI a a = 0) := Lib.hid (by unfold cmpI; rw [if_neg (by omega), if_neg (by omega)])
    go_enter Tryz.func83, Tryz.ntmps83
    go_wp2_with (go_at_call 123; refine (nanI_any _ _).mono ?_; rintro e w' ⟨rfl, rfl⟩)
    go_ret
    exact ⟨ret_int HR.out.symm, rfl⟩
  · have HR : Hid (cmpI a b = 1) := Lib.hid (by unfold cmpI; rw [if_neg (by omega), if_pos h])
    go_enter Tryz.func83, Tryz.ntmps83
    go_wp2_with (go_at_call 123; refine (nanI_any _ _).mono ?_; rintro e w' ⟨rfl, rfl⟩)
    go_ret
    exact ⟨ret_int HR.out.symm, rfl⟩

/-! ### cmp.Or of two numbers -/
def orI (a b : Int) : Int := if a = 0 then b else a
set_option maxHeartbeats 400000 in
theorem or2_any (b : Nat) (x y : Int) (w : World) (h : At w b #[.int .i64 x, .int .i64 y] 3) : Calls Tryz.prog 81 #[.slice (some ⟨b, 0, none⟩) 2 2] w fun e w' => e = .returned (.int .i64 (orI x y)) ∧ w' = w := by
  have c0 : w.cell? ⟨b, 0, none⟩ = some (.int .i64 x) := h.cell 0
  have c1 : w.cell? ⟨b, 1, none⟩ = some (.int .i64 y) := h.cell 1
  clear h
  by_cases hx : x = 0
  · have dx : (x != 0) = false := by simp [hx]
    by_cases hy : y = 0
    · have dy : (y != 0) = false := by simp [hy]
      have HR : Hid (orI x y = 0) := Lib.hid (by unfold orI; rw [if_pos hx, hy])
      clear hx hy
      go_enter Tryz.func81, Tryz.ntmps81
      go_wp2_with fail
      refine wp_loop_rounds 3 ?_
      rw [rounds_succ]
      go_wp2_with fail
      rw [rounds_succ]
      go_wp2_with fail
      rw [rounds_succ]
      go_wp2_with fail
      go_ret
      exact ⟨ret_int HR.out.symm, rfl⟩
    · have dy : (y != 0) = true := by simp [hy]
      have HR : Hid (orI x y = y) := Lib.hid (by unfold orI; rw [if_pos hx])
      clear hx hy
      go_enter Tryz.func81, Tryz.ntmps81
      go_wp2_with fail
      refine wp_loop_rounds 2 ?_
      rw [rounds_succ]
      go_wp2_with fail
      rw [rounds_succ]
      go_wp2_with fail
      go_ret
      exact ⟨ret_int HR.out.symm, rfl⟩
  · have dx : (x != 0) = true := by simp [hx]
    have HR : Hid (orI x y = x) := Lib.hid (by unfold orI; rw [if_neg hx])
    clear hx
    go_enter Tryz.func81, Tryz.ntmps81
    go_wp2_with fail
    refine wp_loop_rounds 1 ?_
    rw [rounds_succ]
    go_wp2_with fail
    go_ret
    exact ⟨ret_int HR.out.symm, rfl⟩
end Go.Proofs.YthckgmbadmilfaaGreat

namespace Go.Proofs.YthckgmbadmilfaaGreat
open Go.RowKit Go.Sort

theorem or3_any (b : Nat) (x y z : Int) (w : World) (h : At w b #[.int .i64 x, .int .i64 y, .int .i64 z] 3) : Calls Tryz.prog 81 #[.slice (some ⟨b, 0, none⟩) 3 3] w fun e w' => e = .returned (.int .i64 (orI x (orI y z))) ∧ w' = w := by
  have c0 : w.cell? ⟨b, 0, none⟩ = some (.int .i64 x) := h.cell 0
  have c1 : w.cell? ⟨b, 1, none⟩ = some (.int .i64 y) := h.cell 1
  have c2 : w.cell? ⟨b, 2, none⟩ = some (.int .i64 z) := h.cell 2
  clear h
  by_cases hx : x = 0
  · have dx : (x != 0) = false := by simp [hx]
    by_cases hy : y = 0
    · have dy : (y != 0) = false := by simp [hy]
      by_cases hz : z = 0
      · have dz : (z != 0) = false := by simp [hz]
        have HR : Hid (orI x (orI y z) = 0) := Lib.hid (by unfold orI; rw [if_pos hx, if_pos hy, hz])
        clear hx hy hz
        go_enter Tryz.func81, Tryz.ntmps81
        go_wp2_with fail
        refine wp_loop_rounds 4 ?_
        rw [rounds_succ]
        go_wp2_with fail
        rw [rounds_succ]
        go_wp2_with fail
        rw [rounds_succ]
        go_wp2_with fail
        rw [rounds_succ]
        go_wp2_with fail
        go_ret
        exact ⟨ret_int HR.out.symm, rfl⟩
      · have dz : (z != 0) = true := by simp [hz]
        have HR : Hid (orI x (orI y z) = z) := Lib.hid (by unfold orI; rw [if_pos hx, if_pos hy])
        clear hx hy hz
        go_enter Tryz.func81, Tryz.ntmps81
        go_wp2_with fail
        refine wp_loop_rounds 3 ?_
        rw [rounds_succ]
        go_wp2_with fail
        rw [rounds_succ]
        go_wp2_with fail
        rw [rounds_succ]
        go_wp2_with fail
        go_ret
        exact ⟨ret_int HR.out.symm, rfl⟩
    · have dy : (y != 0) = true := by simp [hy]
      have HR : Hid (orI x (orI y z) = y) := Lib.hid (by unfold orI; rw [if_pos hx, if_neg hy])
      clear hx hy
      go_enter Tryz.func81, Tryz.ntmps81
      go_wp2_with fail
      refine wp_loop_rounds 2 ?_
      rw [rounds_succ]
      go_wp2_with fail
      rw [rounds_succ]
      go_wp2_with fail
      go_ret
      exact ⟨ret_int HR.out.symm, rfl⟩
  · have dx : (x != 0) = true := by simp [hx]
    have HR : Hid (orI x (orI y z) = x) := Lib.hid (by unfold orI; rw [if_neg hx])
    clear hx
    go_enter Tryz.func81, Tryz.ntmps81
    go_wp2_with fail
    refine wp_loop_rounds 1 ?_
    rw [rounds_succ]
    go_wp2_with fail
    go_ret
    exact ⟨ret_int HR.out.symm, rfl⟩
theorem or_cmpM (x y : Mt) : orI (cmpS x.name y.name) (orI (cmpI x.kind y.kind) (cmpS x.value y.value)) = cmpM x y := by
  unfold cmpM orI cmpI
  by_cases h : cmpS x.name y.name = 0
  · rw [if_pos h, if_pos h]
    by_cases h1 : x.kind < y.kind
    · rw [if_pos h1, if_pos h1, if_neg (by omega)]
    · rw [if_neg h1, if_neg h1]
      by_cases h2 : y.kind < x.kind
      · rw [if_pos h2, if_pos h2, if_neg (by omega)]
      · rw [if_neg h2, if_neg h2, if_pos rfl]
  · rw [if_neg h, if_neg h]
theorem drew_eq (w : World) : w.drew = w.drewN 1 := rfl
set_option maxRecDepth 100000 in
set_option maxHeartbeats 2000000 in
theorem cmpM_any (x y : Mt) (w : World) : Calls Tryz.prog 49 #[.agg #[.int .i64 x.kind, .string x.name, .string x.value], .agg #[.int .i64 y.kind, .string y.name, .string y.value]] w fun e w' => e = .returned (.int .i64 (cmpM x y)) ∧ ∃ q os, w' = grow (w.drewN q) os := by
  have HX := Lib.hid ((At.new w #[.int .i64 x.kind, .string x.name, .string x.value] 39).alloc (.cells #[.int .i64 y.kind, .string y.name, .string y.value] 39))
  have HY0 := At.new (w.alloc (.cells #[.int .i64 x.kind, .string x.name, .string x.value] 39)) #[.int .i64 y.kind, .string y.name, .string y.value] 39
  rw [show (w.alloc (.cells #[.int .i64 x.kind, .string x.name, .string x.value] 39)).heap.size = w.heap.size + 1 by simp] at HY0
  have HY := Lib.hid HY0
  have HG : Hid (∃ os, (w.alloc (.cells #[.int .i64 x.kind, .string x.name, .string x.value] 39)).alloc (.cells #[.int .i64 y.kind, .string y.name, .string y.value] 39) = grow w os) := Lib.hid ⟨_, by rw [alloc_eq_grow, alloc_eq_grow, grow_grow]⟩
  have HO := Lib.hid (or_cmpM x y)
  clear HY0
  go_enter Tryz.func49, Tryz.ntmps49
  go_upto_region 1 with fail
  generalize (w.alloc (.cells #[.int .i64 x.kind, .string x.name, .string x.value] 39)).alloc (.cells #[.int .i64 y.kind, .string y.name, .string y.value] 39) = w0 at *
  have HX0 := Lib.hid HX.out.drew
  have HY0 := Lib.hid HY.out.drew
  refine wp_region_still_tail 15 (by kernel_rfl) (by kernel_rfl) ?_
  change wpStill _ _ w0.drew (fun a' => wpList _ _ _ _ a' w0.drew) _ _
  have hdr : Hid (w0.drew = w0.drewN 1) := Lib.hid rfl
  generalize w0.drew = w1 at *
  have c0 := HX0.out.cell 0
  have c1 := HX0.out.cell 1
  have c2 := HX0.out.cell 2
  have d0 := HY0.out.cell 0
  have d1 := HY0.out.cell 1
  have d2 := HY0.out.cell 2
  simp only [List.take_succ_cons, List.take_zero, List.drop_succ_cons, List.drop_zero]
  still_step
  still_step
  still_step
  still_step
  still_call (cmpStr_any x.name y.name w1)
  still_step
  still_step
  still_step
  still_step
  still_call (cmpInt_any x.kind y.kind w1)
  still_step
  still_step
  still_step
  still_step
  still_call (cmpStr_any x.value y.value w1)
  refine wpStill_nil ?_
  generalize cmpS x.name y.name = a1 at *
  generalize cmpI x.kind y.kind = a2 at *
  generalize cmpS x.value y.value = a3 at *
  go_wp2_with fail
  refine (or3_any w1.heap.size a1 a2 a3 _ (At.new w1 _ _)).mono ?_
  rintro e w2 ⟨rfl, rfl⟩
  go_wp2_with fail
  go_ret
  refine ⟨ret_int HO.out, ?_⟩
  obtain ⟨os, hos⟩ := HG.out
  refine ⟨1, os ++ #[.cells #[.int .i64 a1, .int .i64 a2, .int .i64 a3] 3], ?_⟩
  rw [alloc_eq_grow, hdr.out, hos]
  show grow (grow (w.drewN 1) os) _ = _
  rw [grow_grow]
end Go.Proofs.YthckgmbadmilfaaGreat

namespace Go.Proofs.YthckgmbadmilfaaGreat
open Go.RowKit Go.Sort

def sortM (ms : List Mt) : List Mt := ms.mergeSort fun x y => !ltOf cmpM y x
theorem ltOf_iff {x y : Mt} : ltOf cmpM x y = true ↔ LtM x y := by
  unfold ltOf
  rw [decide_eq_true_eq, cmpM_lt]
theorem ltOf_not {x y : Mt} (h : ltOf cmpM x y = false) : ¬ LtM x y := fun h2 => by rw [ltOf_iff.2 h2] at h; cases h
theorem swoM : SWO (ltOf cmpM) where
  irrefl x := by
    cases h : ltOf cmpM x x
    · rfl
    · exact absurd (ltOf_iff.1 h) (LtM.irrefl x)
  trans x y z h1 h2 := ltOf_iff.2 ((ltOf_iff.1 h1).trans (ltOf_iff.1 h2))
  ntrans x y z h1 h2 := by
    cases h : ltOf cmpM x z
    · rfl
    · have hx := ltOf_iff.1 h
      rcases LtM.total x y with h3 | h3 | h3
      · exact absurd h3 (ltOf_not h1)
      · subst h3
        exact absurd hx (ltOf_not h2)
      · exact absurd (h3.trans hx) (ltOf_not h2)
theorem totM (x y : Mt) (h1 : ltOf cmpM x y = false) (h2 : ltOf cmpM y x = false) : x = y := by
  rcases LtM.total x y with h3 | h3 | h3
  · exact absurd h3 (ltOf_not h1)
  · exact h3
  · exact absurd h3 (ltOf_not h2)
theorem sortM_mem {ms : List Mt} {x : Mt} : x ∈ sortM ms ↔ x ∈ ms := (List.mergeSort_perm ms _).mem_iff
theorem sortM_len (ms : List Mt) : (sortM ms).length = ms.length := (List.mergeSort_perm ms _).length_eq
theorem sortM_ord (ms : List Mt) : (sortM ms).Pairwise fun x y => ¬ LtM y x := by
  have h := List.pairwise_mergeSort (le := fun x y => !ltOf cmpM y x) (fun a b c h1 h2 => by
    simp only [Bool.not_eq_true'] at h1 h2 ⊢
    exact swoM.ntrans c b a h2 h1) (fun a b => by
    simp only [Bool.or_eq_true, Bool.not_eq_true']
    cases h : ltOf cmpM b a
    · exact .inl rfl
    · right
      cases h2 : ltOf cmpM a b
      · rfl
      · exact absurd (ltOf_iff.1 h2) (ltOf_iff.1 h).asymm) ms
  exact h.imp fun {a b} hab => ltOf_not (by simpa using hab)

theorem flat_eq (ms : List Mt) : flatK encM 3 ms.toArray = (flatS (ms.map Mt.cells)).toArray := by
  have hs : ∀ x ∈ ms.map Mt.cells, x.size = 3 := fun x hx => by
    obtain ⟨y, _, rfl⟩ := List.mem_map.1 hx
    rfl
  have hl := flatS_len hs
  rw [List.length_map] at hl
  refine ext_get! (by rw [size_flatK]; simp [hl]) fun t ht => ?_
  rw [size_flatK] at ht
  have ht3 : t < ms.length * 3 := by simpa using ht
  rw [get_flatK _ _ _ _ ht]
  have hi : t / 3 < ms.length := by omega
  have e1 : ms.toArray[t / 3]! = ms[t / 3] := by rw [getElem!_pos _ _ (by simpa using hi)]; simp
  have h2 := flatS_get hs (t / 3) (t % 3) (ms[t / 3].cells) (by rw [List.getElem?_map, List.getElem?_eq_getElem hi]; rfl) (by omega)
  have e2 : t / 3 * 3 + t % 3 = t := by omega
  rw [e2] at h2
  rw [e1]
  generalize ms[t / 3] = m at *
  have e3 : (flatS (ms.map Mt.cells)).toArray[t]! = (flatS (ms.map Mt.cells))[t]'(by omega) := by rw [getElem!_pos _ _ (by simp; omega)]; simp
  rw [e3]
  rw [List.getElem?_eq_getElem (by omega)] at h2
  have hc : t % 3 = 0 ∨ t % 3 = 1 ∨ t % 3 = 2 := by omega
  rcases hc with hc | hc | hc <;> rw [hc] at h2 ⊢ <;> simp [Mt.cells] at h2 <;> rw [h2] <;> simp [encM]
theorem sortWorld_heap (enc : Mt → List Value) (w : World) (blk n : Nat) (d : Array Mt) (os : Array Obj) (k : Nat) (hk : k < w.heap.size) :
    (sortWorldK enc 3 w blk 0 n d os).heap[k]? = if k = blk then (w.heap[k]?).map (onCells (putCells id 0 (flatK enc 3 d))) else w.heap[k]? := by
  unfold sortWorldK grow putRowK putRow mapBlock Go.Sort.ahead
  simp only
  rw [Array.getElem?_append_left (by simpa using hk), Array.getElem?_modify]
  by_cases h : blk = k
  · rw [if_pos h, if_pos h.symm]
  · rw [if_neg h, if_neg (fun e => h e.symm)]
theorem sortWorld_size (enc : Mt → List Value) (w : World) (blk n : Nat) (d : Array Mt) (os : Array Obj) : w.heap.size ≤ (sortWorldK enc 3 w blk 0 n d os).heap.size := by
  unfold sortWorldK grow putRowK putRow mapBlock Go.Sort.ahead
  simp
theorem putCells_take (F cur : Array Value) (h : F.size ≤ cur.size) : (putCells id 0 F cur).toList.take F.size = F.toList ∧ (putCells id 0 F cur).size = cur.size := by
  have hs : (putCells id 0 F cur).size = cur.size := by unfold putCells; simp
  refine ⟨?_, hs⟩
  refine List.ext_getElem? fun t => ?_
  by_cases ht : t < F.size
  · rw [List.getElem?_take_of_lt ht]
    unfold putCells
    rw [Array.getElem?_toList, Array.getElem?_mapIdx, Array.getElem?_eq_getElem (by omega)]
    simp [ht]
  · rw [List.getElem?_eq_none (by simp; omega), List.getElem?_eq_none (by simp; omega)]
theorem encM_one (x : Mt) : ∀ v ∈ encM x, v.oneCell' = true := by
  intro v hv
  simp [encM] at hv
  rcases hv with rfl | rfl | rfl <;> rfl
theorem cmpLaysM (blk off size : Nat) (w : World) : CmpLays Tryz.prog 49 #[] encM 3 cmpM blk off size w := fun _ _ _ _ x y => cmpM_any x y _
set_option maxRecDepth 100000 in
set_option maxHeartbeats 1000000 in
theorem sortM_any {W w : World} {A : Option Addr} {n c : Nat} {ms : List Mt} (h : SR W 39 3 A n c (ms.map Mt.cells) w) (hl : n ≤ 100000) :
    Calls Tryz.prog 48 #[.slice A n c, .func (.func 49) #[] #[]] w fun e w' => e = .returned (.tuple #[]) ∧ SR W 39 3 A n c ((sortM ms).map Mt.cells) w' := by
  have hn : ms.length = n := by have := h.len; rwa [List.length_map] at this
  rcases h.row.2 with ⟨e, h0⟩ | ⟨g, cap, cur, e, hg, hb, hnc, hcm, hcs, htk⟩
  · subst h0
    have : ms = [] := List.eq_nil_of_length_eq_zero hn
    subst this
    refine (AnyF.slices_SortFunc_none Tryz.sortM A c _ w).mono ?_
    rintro e w' ⟨rfl, rfl⟩
    have e0 : sortM [] = [] := by unfold sortM; simp
    rw [e0]
    exact ⟨rfl, h⟩
  · injection e with e1 e2 e3
    subst e1 e3
    have hlen : (flatS (ms.map Mt.cells)).length = n * 3 := h.row.1
    have hfl := flat_eq ms
    have hFs : (flatK encM 3 ms.toArray).size = n * 3 := by rw [hfl]; simpa using hlen
    have hH : HoldsK encM 3 w g 0 ms.toArray := by
      intro j hj
      rw [hFs] at hj
      have hat : At w g cur 39 := ⟨hb⟩
      rw [Nat.zero_add]
      refine ⟨?_, hat.free j⟩
      rw [hat.cell j, hfl]
      have h1 : cur.toList[j]? = (flatS (ms.map Mt.cells))[j]? := by
        rw [← htk, List.getElem?_take_of_lt hj]
      rw [Array.getElem?_toList] at h1
      rw [h1, List.getElem?_eq_getElem (by omega)]
      rw [getElem!_pos _ _ (by simp; omega)]
      simp
    have eg : ∀ args w, (callFunc 49 args).run Tryz.prog w = .ok (.enter 49 args) w := enters_of Tryz.func49 (by kernel_rfl) rfl
    have hcon := AnyQ.slices_SortFunc_total Tryz.sortM 3 aggM sizM encM (fun _ => rfl) encM_one cmpM swoM 49 #[] g 0 c ms.toArray w eg (cmpLaysM g 0 _ w) hH (Array.getElem?_eq_some_iff.1 hb).1 (by simp; omega) totM
    have hsz : ms.toArray.size = n := by simpa using hn
    rw [hsz] at hcon
    change Calls Tryz.prog 48 _ _ _ at hcon
    refine hcon.mono ?_
    rintro e w' ⟨rfl, m, os, hw⟩
    refine ⟨rfl, ?_⟩
    have hd : (ms.toArray.toList.mergeSort fun x y => !ltOf cmpM y x).toArray = (sortM ms).toArray := rfl
    rw [hd] at hw
    have hfs : (flatK encM 3 (sortM ms).toArray).size = n * 3 := by rw [size_flatK]; simp [sortM_len, hn]
    have hpc := putCells_take (flatK encM 3 (sortM ms).toArray) cur (by rw [hfs, hcs]; exact Nat.mul_le_mul_right _ hnc)
    have hbk : w'.heap[g]? = some (.cells (putCells id 0 (flatK encM 3 (sortM ms).toArray) cur) 39 (0, 0)) := by
      rw [hw, sortWorld_heap _ _ _ _ _ _ _ (Array.getElem?_eq_some_iff.1 hb).1, if_pos rfl, hb]
      rfl
    have hgr : w.grownBy w' (some g) := by
      refine ⟨by rw [hw]; rfl, by rw [hw]; rfl, by rw [hw]; rfl, by rw [hw]; exact sortWorld_size _ _ _ _ _ _, fun k hk hne => ?_⟩
      rw [hw, sortWorld_heap _ _ _ _ _ _ _ hk, if_neg (fun e => hne (by rw [e]))]
    have hfl2 := flat_eq (sortM ms)
    refine ⟨by rw [List.length_map, sortM_len]; exact hn, fun x hx => ?_, ⟨?_, .inr ⟨g, c, _, rfl, hg, hbk, hnc, hcm, by rw [hpc.2]; exact hcs, ?_⟩⟩, h.below.grown hgr h.below.size (fun k e => by cases e; exact hg)⟩
    · obtain ⟨y, _, rfl⟩ := List.mem_map.1 hx
      rfl
    · have := congrArg Array.size hfl2
      rw [hfs] at this
      simpa using this.symm
    · rw [← hfs, hpc.1, hfl2]
end Go.Proofs.YthckgmbadmilfaaGreat

namespace Go.Proofs.YthckgmbadmilfaaGreat
open Go.RowKit

/-- The first n elements without repetitions side by side. -/
def ddN (L : List Mt) : Nat → List Mt
  | 0 => []
  | i + 1 => if 0 < i ∧ L[i]? = L[i - 1]? then ddN L i else ddN L i ++ (L[i]?).toList
def ddM (L : List Mt) : List Mt := ddN L L.length
theorem ddN_eq {L : List Mt} {i : Nat} (h0 : 0 < i) (h : L[i]? = L[i - 1]?) : ddN L (i + 1) = ddN L i := by
  show (if _ then _ else _) = _
  rw [if_pos ⟨h0, h⟩]
theorem ddN_ne {L : List Mt} {i : Nat} (hi : i < L.length) (h : ¬ (0 < i ∧ L[i]? = L[i - 1]?)) : ddN L (i + 1) = ddN L i ++ [L[i]] := by
  show (if _ then _ else _) = _
  rw [if_neg h, List.getElem?_eq_getElem hi]
  rfl
theorem ddN_le (L : List Mt) : ∀ i, (ddN L i).length ≤ i
  | 0 => Nat.le_refl _
  | i + 1 => by
    have ih := ddN_le L i
    show (if _ then _ else _ : List Mt).length ≤ _
    split
    · omega
    · rw [List.length_append]
      have : (L[i]?).toList.length ≤ 1 := by cases L[i]? <;> simp
      omega
theorem ddN_take {L : List Mt} : ∀ k, k ≤ L.length → (∀ j, 0 < j → j < k → L[j]? ≠ L[j - 1]?) → ddN L k = L.take k
  | 0, _, _ => by simp [ddN]
  | k + 1, hk, h => by
    rw [ddN_ne (show k < L.length by omega) (fun h2 => h k h2.1 (by omega) h2.2), ddN_take k (by omega) fun j h1 h2 => h j h1 (by omega), List.take_succ_eq_append_getElem (show k < L.length by omega)]
theorem ddN_mem {L : List Mt} {x : Mt} : ∀ {n : Nat}, n ≤ L.length → (x ∈ ddN L n ↔ x ∈ L.take n)
  | 0, _ => by simp [ddN]
  | n + 1, hn => by
    have ih := ddN_mem (L := L) (x := x) (n := n) (by omega)
    rw [List.take_succ_eq_append_getElem (show n < L.length by omega), List.mem_append, List.mem_singleton]
    by_cases h : 0 < n ∧ L[n]? = L[n - 1]?
    · rw [ddN_eq h.1 h.2, ih]
      refine ⟨.inl, fun h2 => ?_⟩
      rcases h2 with h2 | rfl
      · exact h2
      · have e := h.2
        rw [List.getElem?_eq_getElem (by omega), List.getElem?_eq_getElem (by omega)] at e
        injection e with e
        rw [e, List.mem_take_iff_getElem]
        exact ⟨n - 1, by omega, rfl⟩
    · rw [ddN_ne (by omega) h, List.mem_append, List.mem_singleton, ih]
theorem ddN_ord {L : List Mt} (ho : L.Pairwise fun x y => ¬ LtM y x) : ∀ {n : Nat}, n ≤ L.length → OrdM (ddN L n) ∧ ∀ x ∈ ddN L n, ∀ h : n < L.length, 0 < n → L[n]? ≠ L[n - 1]? → LtM x L[n]
  | 0, _ => ⟨List.Pairwise.nil, fun x hx => by simp [ddN] at hx⟩
  | n + 1, hn => by
    obtain ⟨h1, h2⟩ := ddN_ord ho (n := n) (by omega)
    have hmem := fun x => ddN_mem (L := L) (x := x) (n := n + 1) hn
    have hle : ∀ x ∈ ddN L (n + 1), ∀ h : n + 1 < L.length, L[n + 1]? ≠ L[n]? → LtM x L[n + 1] := by
      intro x hx h hne
      rw [hmem, List.mem_take_iff_getElem] at hx
      obtain ⟨j, hj, rfl⟩ := hx
      have hp := List.pairwise_iff_getElem.1 ho
      have hn1 : ¬ LtM L[n + 1] L[n] := hp n (n + 1) (by omega) h (by omega)
      have hlt : LtM L[n] L[n + 1] := by
        rcases LtM.total L[n] L[n + 1] with h3 | h3 | h3
        · exact h3
        · rw [List.getElem?_eq_getElem h, List.getElem?_eq_getElem (by omega), h3] at hne
          exact absurd rfl hne
        · exact absurd h3 hn1
      by_cases hjn : j = n
      · subst hjn; exact hlt
      · have hj2 : ¬ LtM L[n] L[j] := hp j n (by omega) (by omega) (by omega)
        rcases LtM.total L[j] L[n] with h3 | h3 | h3
        · exact h3.trans hlt
        · rw [h3]; exact hlt
        · exact absurd h3 hj2
    refine ⟨?_, fun x hx h _ hne => hle x hx h hne⟩
    by_cases h : 0 < n ∧ L[n]? = L[n - 1]?
    · rw [ddN_eq h.1 h.2]; exact h1
    · rw [ddN_ne (by omega) h]
      refine List.pairwise_append.2 ⟨h1, List.pairwise_singleton _ _, fun x hx y hy => ?_⟩
      rw [List.mem_singleton.1 hy]
      by_cases h0 : 0 < n
      · exact h2 x hx (by omega) h0 fun e => h ⟨h0, e⟩
      · have : n = 0 := by omega
        subst this
        simp [ddN] at hx
/-- What SortFunc and Compact make of a list. -/
theorem dd_sort (l : List Mt) : ddM (sortM l) = setM l := by
  refine ord_uniq (ddN_ord (sortM_ord l) (Nat.le_refl _)).1 (ord_set l) fun x => ?_
  unfold ddM
  rw [ddN_mem (Nat.le_refl _), List.take_length, sortM_mem, mem_set]

/-! ### The row -/
structure RowF (w : World) (g n : Nat) (R : Nat → Mt) : Prop where
  c0 : ∀ i, i < n → w.cell? ⟨g, i * 3, none⟩ = some (.int .i64 (R i).kind)
  c1 : ∀ i, i < n → w.cell? ⟨g, i * 3 + 1, none⟩ = some (.string (R i).name)
  c2 : ∀ i, i < n → w.cell? ⟨g, i * 3 + 2, none⟩ = some (.string (R i).value)
  free : ∀ j, w.frozen? ⟨g, j, none⟩ = false
theorem frozen_setCells (g : Nat) : ∀ (vs : List Value) (o : Nat) (w : World) (x : Addr), (w.setCells g o vs).frozen? x = w.frozen? x
  | [], _, _, _ => rfl
  | v :: r, o, w, x => by
    show ((w.setCell ⟨g, o, none⟩ v).setCells g (o + 1) r).frozen? x = _
    rw [frozen_setCells g r, World.frozen?_setCell]
theorem keep_setCells {g : Nat} : ∀ (vs : List Value) (o : Nat) (w : World), Keep g w (w.setCells g o vs)
  | [], _, w => Keep.refl g w
  | v :: r, o, w => ((Keep.refl g w).set o v).trans (keep_setCells r (o + 1) _)
theorem RowF.set {w : World} {g n k : Nat} {R : Nat → Mt} (h : RowF w g n R) (hk : k < n) (x : Mt) : RowF (w.setCells g (k * 3) [.int .i64 x.kind, .string x.name, .string x.value]) g n (fun i => if i = k then x else R i) := by
  have hs : ∀ j, j < 3 → (w.cell? ⟨g, k * 3 + j, none⟩).isSome = true := fun j hj => by
    have : j = 0 ∨ j = 1 ∨ j = 2 := by omega
    rcases this with rfl | rfl | rfl
    · have := h.c0 k hk
      rw [Nat.add_zero, this]; rfl
    · rw [h.c1 k hk]; rfl
    · rw [h.c2 k hk]; rfl
  have hin := World.cell?_setCells_in g [.int .i64 x.kind, .string x.name, .string x.value] (k * 3) w hs
  have hout : ∀ i j, j < 3 → i ≠ k → (w.setCells g (k * 3) [.int .i64 x.kind, .string x.name, .string x.value]).cell? ⟨g, i * 3 + j, none⟩ = w.cell? ⟨g, i * 3 + j, none⟩ := fun i j hj hne => by
    refine World.cell?_setCells_out g _ _ _ _ fun _ _ => ?_
    show i * 3 + j < k * 3 ∨ k * 3 + 3 ≤ i * 3 + j
    omega
  refine ⟨fun i hi => ?_, fun i hi => ?_, fun i hi => ?_, fun j => by rw [frozen_setCells]; exact h.free j⟩
  · by_cases e : i = k
    · subst e
      simp only [if_pos]
      exact hin 0 (by simp)
    · simp only [if_neg e]
      rw [← h.c0 i hi]
      exact hout i 0 (by omega) e
  · by_cases e : i = k
    · subst e
      simp only [if_pos]
      exact hin 1 (by simp)
    · simp only [if_neg e]
      rw [← h.c1 i hi]
      exact hout i 1 (by omega) e
  · by_cases e : i = k
    · subst e
      simp only [if_pos]
      exact hin 2 (by simp)
    · simp only [if_neg e]
      rw [← h.c2 i hi]
      exact hout i 2 (by omega) e
theorem SR.rowF {W w : World} {g n c : Nat} {ms : List Mt} (h : SR W 39 3 (some ⟨g, 0, none⟩) n c (ms.map Mt.cells) w) : RowF w g n (fun i => ms.getD i Mt.zero) := by
  have hn : ms.length = n := by have := h.len; rwa [List.length_map] at this
  rcases h.row.2 with ⟨e, h0⟩ | ⟨q, cap, cur, e, hg, hb, hnc, hcm, hcs, htk⟩
  · cases e
  · injection e with e1 e2 e3
    injection e1 with e1
    injection e1 with e1 _ _
    subst e1
    have hat : At w g cur 39 := ⟨hb⟩
    have hm : MtsIn w.heap.size w (some ⟨g, 0, none⟩) ms := h.rd
    have hc : ∀ i (hi : i < n), ∃ (x : Mt), ms.getD i Mt.zero = x ∧ w.cell? ⟨g, i * 3, none⟩ = some (.int .i64 x.kind) ∧ w.cell? ⟨g, i * 3 + 1, none⟩ = some (.string x.name) ∧ w.cell? ⟨g, i * 3 + 2, none⟩ = some (.string x.value) := fun i hi => by
      obtain ⟨b, o, e, _, c0, c1, c2⟩ := hm.at_ i (by omega)
      injection e with e
      injection e with e1 e2 _
      subst e1 e2
      rw [Nat.zero_add] at c0 c1 c2
      exact ⟨ms[i], by rw [List.getD_eq_getElem?_getD, List.getElem?_eq_getElem (by omega)]; rfl, c0, c1, c2⟩
    refine ⟨fun i hi => ?_, fun i hi => ?_, fun i hi => ?_, fun j => hat.free j⟩
    all_goals
      obtain ⟨x, hx, h0, h1, h2⟩ := hc i hi
      rw [hx]
      assumption
theorem RowF.drewN {w : World} {g n : Nat} {R : Nat → Mt} (h : RowF w g n R) (k : Nat) : RowF (w.drewN k) g n R := ⟨h.c0, h.c1, h.c2, h.free⟩
end Go.Proofs.YthckgmbadmilfaaGreat
