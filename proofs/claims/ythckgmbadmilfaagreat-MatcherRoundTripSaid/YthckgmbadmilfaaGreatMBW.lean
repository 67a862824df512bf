/- The arguments of matchers and labels, opened. Walks: the law MatcherSame. -/
import Derived.Test.YthckgmbadmilfaaGreatMAG
import Derived.Deep.Slices
import Derived.OpenShut
import Derived.ChangeArms
import Derived.SizedLaws
import Derived.DataReads
import Derived.WideShapes
import Derived.Test.YthckgmbadmilfaaGreatMBQ
import Derived.Test.YthckgmbadmilfaaGreatMBV
namespace Go.Proofs.YthckgmbadmilfaaGreat
open Go.RowKit Go.WideShapes
open Go.Deep (open_slice)

theorem list_of {α : Type} {p : Nat → α → Prop} : ∀ {n : Nat}, (∀ i, i < n → ∃ a, p i a) → ∃ l : List α, l.length = n ∧ ∀ i (h : i < l.length), p i l[i]
  | 0, _ => ⟨[], rfl, fun i h => absurd h (by simp)⟩
  | n + 1, h => by
    obtain ⟨l, h1, h2⟩ := list_of (n := n) fun i hi => h i (by omega)
    obtain ⟨a, ha⟩ := h n (by omega)
    refine ⟨l ++ [a], by simp [h1], fun i hi => ?_⟩
    by_cases hin : i < l.length
    · rw [List.getElem_append_left hin]
      exact h2 i hin
    · have hi2 : i = l.length := by
        rw [List.length_append, List.length_singleton] at hi
        omega
      subst hi2
      have e : (l ++ [a])[l.length] = a := by simp
      rw [e, h1]
      exact ha
theorem cell_spot {w : World} {a : Addr} {v : Value} (h : w.cell? a = some v) : a.spot = none := by
  unfold World.cell? at h
  split at h
  · split at h
    · simp at h
    · rename_i hs
      simpa using hs
  · simp at h
theorem addr_add (b o n : Nat) : (Addr.mk b o none).add n = ⟨b, o + n, none⟩ := by
  unfold Addr.add
  split <;> simp_all
theorem rd_of {w : World} {base sz : Nat} {a : Addr} {l : List (Array Value)} (hs : 0 < sz) (h : ∀ i (hi : i < l.length), w.cells? base (a.add (i * sz)) sz = some l[i].toList) : RdIn w.heap.size w sz (some a) l := fun k hk => by
  obtain ⟨b, o, s⟩ := a
  have hsp : s = none := by
    have h0 := h 0 (by omega)
    obtain ⟨_, e0, c0⟩ := World.cells?_some h0
    have h00 := c0 0 hs
    rw [List.getElem?_eq_getElem (by omega)] at h00
    have := cell_spot h00
    simpa [Addr.add] using this
  subst hsp
  obtain ⟨_, e0, c0⟩ := World.cells?_some (h k hk)
  have hc : ∀ j, j < sz → w.cell? ⟨b, o + k * sz + j, none⟩ = (l[k])[j]? := fun j hj => by
    have := c0 j hj
    rw [addr_add, addr_add] at this
    rw [this, Array.getElem?_toList]
  refine ⟨b, o, rfl, ?_, hc⟩
  have h0 := hc 0 hs
  rw [Array.length_toList] at e0
  rw [Array.getElem?_eq_getElem (by omega)] at h0
  exact World.block_lt_of_cell? w _ h0
theorem weightsAll_mem {H : Type} {P : Program} {e : TypeId} : ∀ {ds : List (DataW H)} {d : DataW H}, d ∈ ds → ∀ n ∈ d.weights P e, n ∈ DataW.weightsAll P e ds
  | x :: r, d, hd, n, hn => by
    simp only [DataW.weightsAll, List.mem_append]
    rcases List.mem_cons.1 hd with rfl | hd
    · exact Or.inl hn
    · exact Or.inr (weightsAll_mem hd n hn)
theorem weights_elem {H : Type} {P : Program} {t e : TypeId} (hu : P.underlying t = some (.slice e)) {elems spare : List (DataW H)} {d : DataW H} (hd : d ∈ elems) {n : Nat} (hn : n ∈ d.weights P e) : n ∈ (DataW.slice elems spare).weights P t := by
  simp only [DataW.weights, hu, List.mem_cons, List.mem_append]
  exact Or.inr (Or.inl (weightsAll_mem hd n hn))

theorem len2 {α : Type} : ∀ {l : List α}, l.length = 2 → ∃ a0 a1, l = [a0, a1]
  | [a0, a1], _ => ⟨a0, a1, rfl⟩
theorem len4 {α : Type} : ∀ {l : List α}, l.length = 4 → ∃ a0 a1 a2 a3, l = [a0, a1, a2, a3]
  | [a0, a1, a2, a3], _ => ⟨a0, a1, a2, a3, rfl⟩
theorem len3 {α : Type} : ∀ {l : List α}, l.length = 3 → ∃ a0 a1 a2, l = [a0, a1, a2]
  | [a0, a1, a2], _ => ⟨a0, a1, a2, rfl⟩
theorem ce_string : Tryz.prog.cellsOf 9 = 1 := by kernel_rfl
theorem ce_int : Tryz.prog.cellsOf 3 = 1 := by kernel_rfl
theorem ce_lab : Tryz.prog.cellsOf 51 = 2 := by kernel_rfl
theorem ce_labs : Tryz.prog.cellsOf 31 = 1 := by kernel_rfl
theorem ce_matcher : Tryz.prog.cellsOf 39 = 3 := by kernel_rfl
theorem ce_matchers : Tryz.prog.cellsOf 22 = 1 := by kernel_rfl

section
variable {H : Type} {enc : TypeId × Value → H} {w : World} {base n : Nat} {sp : Nat → Bool} {held : Bool} {cs : List Value} {x : DataW H × List MemPlace}
theorem open_label (h : DataW.trod enc Tryz.prog w base sp held n 51 cs = some x) : ∃ l : Lab, cs = l.cells.toList ∧ l.name.size ∈ x.1.weights Tryz.prog 51 := by
  obtain ⟨ys, m, _, rfl, hl, hy, hf⟩ := DataW.trod_struct Tryz.underlying51 h
  rw [ce_lab] at hl
  obtain ⟨y0, y1, rfl⟩ := len2 hy
  obtain ⟨c0, c1, rfl⟩ := len2 hl
  have h0 := hf 0 _ rfl
  have h1 := hf 1 _ rfl
  simp [ce_string] at h0 h1
  obtain ⟨a, e0, rfl, _⟩ := DataW.trod_string Tryz.underlying9 h0
  obtain ⟨b, e1, rfl, _⟩ := DataW.trod_string Tryz.underlying9 h1
  simp at e0 e1
  subst e0 e1
  exact ⟨⟨a, b⟩, rfl, by simp [DataW.weights, DataW.weightsEach, Tryz.underlying51]⟩
theorem open_labels (h : DataW.trod enc Tryz.prog w base sp held n 31 cs = some x) : ∃ (A : Option Addr) (c : Nat) (ls : List Lab), cs = [.slice A ls.length c] ∧ LabsIn w.heap.size w A ls ∧ ls.length ≤ c ∧ ls.length ≤ maxLen ∧ ∀ y ∈ ls, y.name.size ∈ x.1.weights Tryz.prog 31 := by
  rcases open_slice Tryz.underlying31 h with ⟨rfl, rfl⟩ | ⟨a, len, cap, m, n', D, Pl, rfl, _, hl, hm, hmm, rfl, hx⟩
  · exact ⟨none, 0, [], rfl, LabsIn.nil _ _ _, Nat.le_refl _, Nat.zero_le _, fun y hy => absurd hy (by simp)⟩
  · rw [ce_lab] at hx
    have hlm : len ≤ m := by rw [hmm]; split <;> omega
    obtain ⟨ls, e1, e2⟩ := list_of (n := len) (p := fun i (y : Lab) => w.cells? base (a.add (i * 2)) 2 = some y.cells.toList ∧ y.name.size ∈ (D i).weights Tryz.prog 51) fun i hi => by
      obtain ⟨cs', h1, h2⟩ := hx i (by omega)
      obtain ⟨y, e, hy⟩ := open_label h2
      exact ⟨y, by rw [h1, e], hy⟩
    refine ⟨some a, cap, ls, by rw [e1], rd_of (base := base) (by omega) fun i hi => ?_, by omega, by omega, fun y hy => ?_⟩
    · rw [List.length_map] at hi
      rw [List.getElem_map]
      exact (e2 i hi).1
    · obtain ⟨i, hi, rfl⟩ := List.getElem_of_mem hy
      exact weights_elem Tryz.underlying31 (List.mem_map.2 ⟨i, by rw [List.mem_range]; omega, rfl⟩) (e2 i hi).2
theorem open_mt (h : DataW.trod enc Tryz.prog w base sp held n 39 cs = some x) : ∃ m : Mt, cs = m.cells.toList ∧ m.name.size ∈ x.1.weights Tryz.prog 39 ∧ m.value.size ∈ x.1.weights Tryz.prog 39 := by
  obtain ⟨ys, m, _, rfl, hl, hy, hf⟩ := DataW.trod_struct Tryz.underlying39 h
  rw [ce_matcher] at hl
  obtain ⟨y0, y1, y2, rfl⟩ := len3 hy
  obtain ⟨c0, c1, c2, rfl⟩ := len3 hl
  have h0 := hf 0 _ rfl
  have h1 := hf 1 _ rfl
  have h2 := hf 2 _ rfl
  simp [ce_string, ce_int] at h0 h1 h2
  obtain ⟨k, e0, g0, _⟩ := DataW.trod_int Tryz.underlying3 h0
  obtain ⟨a, e1, rfl, _⟩ := DataW.trod_string Tryz.underlying9 h1
  obtain ⟨b, e2, rfl, _⟩ := DataW.trod_string Tryz.underlying9 h2
  simp at e0 e1 e2
  subst e0 e1 e2
  refine ⟨⟨k, a, b⟩, rfl, ?_, ?_⟩
  all_goals simp [DataW.weights, DataW.weightsEach, Tryz.underlying39]
theorem open_mts (h : DataW.trod enc Tryz.prog w base sp held n 22 cs = some x) : ∃ (A : Option Addr) (c : Nat) (ms : List Mt), cs = [.slice A ms.length c] ∧ MtsIn w.heap.size w A ms ∧ ms.length ≤ c ∧ ms.length ≤ maxLen ∧ ∀ y ∈ ms, y.name.size ∈ x.1.weights Tryz.prog 22 ∧ y.value.size ∈ x.1.weights Tryz.prog 22 := by
  rcases open_slice Tryz.underlying22 h with ⟨rfl, rfl⟩ | ⟨a, len, cap, m, n', D, Pl, rfl, _, hl, hm, hmm, rfl, hx⟩
  · exact ⟨none, 0, [], rfl, MtsIn.nil _ _ _, Nat.le_refl _, Nat.zero_le _, fun y hy => absurd hy (by simp)⟩
  · rw [ce_matcher] at hx
    have hlm : len ≤ m := by rw [hmm]; split <;> omega
    obtain ⟨ls, e1, e2⟩ := list_of (n := len) (p := fun i (y : Mt) => w.cells? base (a.add (i * 3)) 3 = some y.cells.toList ∧ y.name.size ∈ (D i).weights Tryz.prog 39 ∧ y.value.size ∈ (D i).weights Tryz.prog 39) fun i hi => by
      obtain ⟨cs', h1, h2⟩ := hx i (by omega)
      obtain ⟨y, e, hy⟩ := open_mt h2
      exact ⟨y, by rw [h1, e], hy⟩
    refine ⟨some a, cap, ls, by rw [e1], rd_of (base := base) (by omega) fun i hi => ?_, by omega, by omega, fun y hy => ?_⟩
    · rw [List.length_map] at hi
      rw [List.getElem_map]
      exact (e2 i hi).1
    · obtain ⟨i, hi, rfl⟩ := List.getElem_of_mem hy
      have hm : D i ∈ List.map D (List.range len) := List.mem_map.2 ⟨i, by rw [List.mem_range]; omega, rfl⟩
      exact ⟨weights_elem Tryz.underlying22 hm (e2 i hi).2.1, weights_elem Tryz.underlying22 hm (e2 i hi).2.2⟩
end

/-! ### As a row asks it -/
/-- What the row knows of an argument that is a list of labels. -/
structure LabsOk (w : World) (ls : List Lab) (A : Option Addr) (c : Nat) : Prop where
  rd : LabsIn w.heap.size w A ls
  cap : ls.length ≤ c
  len : ls.length ≤ 9223372036854775807
  name : ∀ y ∈ ls, y.name.size ≤ 140737488351232
/-- What the row knows of an argument that is a list of matchers. -/
structure MtsOk (w : World) (ms : List Mt) (A : Option Addr) (c : Nat) : Prop where
  rd : MtsIn w.heap.size w A ms
  cap : ms.length ≤ c
  len : ms.length ≤ 9223372036854775807
  name : ∀ y ∈ ms, y.name.size ≤ 140737488351232 ∧ y.value.size ≤ 140737488351232
structure MtOk (m : Mt) : Prop where
  name : m.name.size ≤ 140737488351232
  value : m.value.size ≤ 140737488351232
section
variable {H : Type} {enc : TypeId × Value → H} {w : World} {base k : Nat} {sp : Nat → Bool} {held : Bool} {r : Reach} {v : Value} {d : DataW H} {ps : List MemPlace}
set_option maxRecDepth 100000 in
theorem arg_labels (hval : Value.okWide Tryz.prog w r k 31 v) (h : DataW.Trod enc Tryz.prog w base sp held 31 v d ps) (hs : ∀ n ∈ d.weights Tryz.prog 31, n ≤ 140737488351232) : ∃ (ls : List Lab) (A : Option Addr) (c : Nat), v = .slice A ls.length c ∧ LabsOk w ls A c := by
  obtain ⟨a, len, cap, rfl⟩ := okWide_slice Tryz.underlying31 hval
  obtain ⟨n, h⟩ := h
  obtain ⟨A, c, ls, e, g1, g2, g3, g4⟩ := open_labels h
  simp [Value.cells] at e
  obtain ⟨rfl, rfl, rfl⟩ := e
  exact ⟨ls, a, cap, rfl, g1, g2, g3, fun y hy => hs _ (g4 y hy)⟩
set_option maxRecDepth 100000 in
theorem arg_mts (hval : Value.okWide Tryz.prog w r k 22 v) (h : DataW.Trod enc Tryz.prog w base sp held 22 v d ps) (hs : ∀ n ∈ d.weights Tryz.prog 22, n ≤ 140737488351232) : ∃ (ms : List Mt) (A : Option Addr) (c : Nat), v = .slice A ms.length c ∧ MtsOk w ms A c := by
  obtain ⟨a, len, cap, rfl⟩ := okWide_slice Tryz.underlying22 hval
  obtain ⟨n, h⟩ := h
  obtain ⟨A, c, ls, e, g1, g2, g3, g4⟩ := open_mts h
  simp [Value.cells] at e
  obtain ⟨rfl, rfl, rfl⟩ := e
  exact ⟨ls, a, cap, rfl, g1, g2, g3, fun y hy => ⟨hs _ (g4 y hy).1, hs _ (g4 y hy).2⟩⟩
set_option maxRecDepth 100000 in
theorem arg_mt (hval : Value.okWide Tryz.prog w r k 39 v) (h : DataW.Trod enc Tryz.prog w base sp held 39 v d ps) (hs : ∀ n ∈ d.weights Tryz.prog 39, n ≤ 140737488351232) : ∃ m : Mt, v = .agg m.cells ∧ MtOk m := by
  obtain ⟨cs, rfl, hcs⟩ := okWide_struct Tryz.underlying39 hval
  obtain ⟨n, h⟩ := h
  obtain ⟨m, e, g1, g2⟩ := open_mt h
  have e2 : Value.cells (.agg cs) = cs := rfl
  rw [e2] at e
  exact ⟨m, by rw [show cs = m.cells from Array.toList_inj.1 e], hs _ g1, hs _ g2⟩
end
end Go.Proofs.YthckgmbadmilfaaGreat

namespace Go.Proofs.YthckgmbadmilfaaGreat
open Go.RowKit

/-- What a test of size lets through. -/
theorem greatM_names {ms : List Mt} (h : greatM ms = false) : ms.length ≤ 17 ∧ ∀ x ∈ ms, x.name.size ≤ 61 ∧ x.value.size ≤ 201 := by
  rw [greatM_eq, Bool.or_eq_false_iff] at h
  refine ⟨by have := of_decide_eq_false h.2; omega, fun x hx => ?_⟩
  have h1 := List.any_eq_false.1 h.1 x hx
  unfold gr1 at h1
  simp only [Bool.or_eq_true, Bool.and_eq_true, decide_eq_true_eq, not_or] at h1
  omega
theorem greatL_vals {ls : List Lab} (h : greatL ls = false) : ls.length ≤ 17 ∧ ∀ x ∈ ls, x.value.size ≤ 201 := by
  unfold greatL at h
  rw [Bool.or_eq_false_iff] at h
  refine ⟨by have := of_decide_eq_false h.2; omega, fun x hx => ?_⟩
  have h1 := List.any_eq_false.1 h.1 x hx
  simp only [Bool.or_eq_true, decide_eq_true_eq, not_or] at h1
  omega
theorem sim_false {l : List Mt} (h : (simM l).2 = false) : (simM l).1 = [] := by
  unfold simM at h ⊢
  split
  · rename_i h1
    rw [if_pos h1] at h
    split
    · rfl
    · rename_i h2
      rw [if_neg h2] at h
      cases h
  · rfl
theorem sim_len7 {l : List Mt} (h : chkMs l = 0) : (simM l).1.length ≤ 16 := (chkMs_iff.1 (sim_chk h)).1
theorem mat_sim {l : List Mt} (h : chkMs l = 0) (ls : List Lab) : if (simM l).2 = true then matM (simM l).1 ls = matM l ls else matM l ls = false := by
  have h1 := sim_fits h ls
  unfold matM
  rw [sim_chk h, h]
  split
  · rename_i h2; rw [if_pos h2] at h1; rw [h1]
  · rename_i h2; rw [if_neg h2] at h1; rw [h1]; rfl
set_option maxRecDepth 100000 in
set_option maxHeartbeats 8000000 in
theorem law_same (A A2 : Option Addr) (c c2 : Nat) (ms : List Mt) (ls : List Lab) (w : World) (hm : MtsOk w ms A c) (hl : LabsOk w ls A2 c2) :
    Calls Tryz.prog 4 #[.slice A ms.length c, .slice A2 ls.length c2] w fun e w' => e = .returned (.bool true) ∧ Below w.heap.size w w' := by
  have HAW := Lib.hid awakeM_any
  have HM := Lib.hid hm.rd
  have HL := Lib.hid hl.rd
  have HLL := Lib.hid hl.len
  have HLC := Lib.hid hl.cap
  have HMN := Lib.hid (fun y hy => (hm.name y hy).1)
  have hX : (w.alloc (.cells #[.slice A ms.length c] 22)).cell? ⟨w.heap.size, 0, none⟩ = some (.slice A ms.length c) := (At.new w #[.slice A ms.length c] 22).cell 0
  have hal : Below w.heap.size w (w.alloc (.cells #[.slice A ms.length c] 22)) := (Below.refl _ _).alloc (Nat.le_refl _) _
  have HG := Lib.hid (great1_any w.heap.size A c ms (w.alloc (.cells #[.slice A ms.length c] 22)) hX (hm.rd.up hal hal.size) hm.len)
  have HB0 := Lib.hid hal
  clear hal hX hm hl
  go_enter Tryz.func4, Tryz.ntmps4
  go_wp2_with fail
  refine HG.out.mono ?_
  rintro e w1 ⟨rfl, q, hw1⟩
  have HB1 : Hid (Below w.heap.size w w1) := Lib.hid (by rw [hw1]; exact bN HB0.out q)
  clear hw1 HG
  rcases hg : greatM ms with _ | _
  · obtain ⟨hln, hnm⟩ := greatM_names hg
    clear hg
    have HGL := Lib.hid (great05_any A2 c2 ls w1.heap.size w1 ((HL.out.below HB1.out).mono HB1.out.size) HLC.out HLL.out)
    rcases hgl : greatL ls with _ | _
    · obtain ⟨hll, hlv⟩ := greatL_vals hgl
      rw [hgl] at HGL
      have HLV : Hid (∀ x ∈ ls, x.value.size ≤ 40000) := Lib.hid (fun x hx => by have := hlv x hx; omega)
      clear hgl hlv hnm
      have HCH := Lib.hid (checkMsR_any A c ms w1 (HM.out.up HB1.out HB1.out.size) HMN.out)
      by_cases hck : chkMs ms = 0
      · rw [hck] at HCH
        have HCK := Lib.hid hck
        clear hck
        go_wp2_with fail
        refine HGL.out.mono ?_
        rintro e w1' ⟨rfl, rfl⟩
        go_wp2_with fail
        refine HCH.out.mono ?_
        rintro e w2 ⟨rfl, hb2⟩
        have HB2 := Lib.hid (HB1.out.trans (hb2.mono HB1.out.size))
        clear hb2 HCH HGL
        have HSI := Lib.hid (simplify_any A c ms w2 (HM.out.up HB2.out HB2.out.size))
        go_wp2_with fail
        refine HSI.out.mono ?_
        rintro e w3 ⟨⟨A3, n3, c3, rfl, rfl, hm3⟩, hb3⟩
        have HB3 := Lib.hid (HB2.out.trans (hb3.mono HB2.out.size))
        have HM3 := Lib.hid hm3
        clear hm3 hb3 HSI
        rcases hs : (simM ms).2 with _ | _
        · have HN : Hid ((simM ms).1 = []) := Lib.hid (sim_false hs)
          have HMF : Hid (matM ms ls = false) := Lib.hid (by have := mat_sim HCK.out ls; rwa [if_neg (by rw [hs]; simp)] at this)
          have HMA := Lib.hid (mmatches_any A A2 c c2 ms ls w3 (HM.out.up HB3.out HB3.out.size) ((HL.out.below HB3.out).mono HB3.out.size) HLL.out HLV.out)
          rw [HMF.out] at HMA
          rw [HN.out]
          clear hs
          go_wp2_with fail
          refine HMA.out.mono ?_
          rintro e w4 ⟨rfl, hb4⟩
          have HB4 := Lib.hid (HB3.out.trans (hb4.mono HB3.out.size))
          clear hb4 HMA
          go_wp2_with fail
          refine (HAW.out w4).mono ?_
          rintro e w5 ⟨rfl, hb5⟩
          go_wp2_with fail
          go_ret
          exact ⟨rfl, HB4.out.trans (hb5.mono HB4.out.size)⟩
        · have HSL := Lib.hid (sim_len7 HCK.out)
          have HAG : Hid (simM (simM ms).1 = ((simM ms).1, true)) := Lib.hid (sim_again HCK.out hs)
          have HMF : Hid (matM (simM ms).1 ls = matM ms ls) := Lib.hid (by have := mat_sim HCK.out ls; rwa [if_pos hs] at this)
          have HSI2 := Lib.hid (simplify_any A3 c3 (simM ms).1 w3 HM3.out)
          rw [HAG.out] at HSI2
          clear hs
          generalize (simM ms).1 = r at *
          go_wp2_with fail
          refine HSI2.out.mono ?_
          rintro e w4 ⟨⟨A4, n4, c4, rfl, rfl, hm4⟩, hb4⟩
          have HB4 := Lib.hid (HB3.out.trans (hb4.mono HB3.out.size))
          have HM34 := Lib.hid (HM3.out.up hb4 hb4.size)
          have HM4 : Hid (MtsIn w4.heap.size w4 A4 r) := Lib.hid hm4
          clear hm4 hb4 HSI2
          have HMA := Lib.hid (mmatches_any A3 A2 c3 c2 r ls w4 HM34.out ((HL.out.below HB4.out).mono HB4.out.size) HLL.out HLV.out)
          rw [HMF.out] at HMA
          go_wp2_with fail
          refine HMA.out.mono ?_
          rintro e w5 ⟨rfl, hb5⟩
          have HB5 := Lib.hid (HB4.out.trans (hb5.mono HB4.out.size))
          have HM35 := Lib.hid (HM34.out.up hb5 hb5.size)
          have HM45 := Lib.hid (HM4.out.up hb5 hb5.size)
          clear hb5 HMA
          have HMA := Lib.hid (mmatches_any A A2 c c2 ms ls w5 (HM.out.up HB5.out HB5.out.size) ((HL.out.below HB5.out).mono HB5.out.size) HLL.out HLV.out)
          generalize matM ms ls = mv at *
          go_wp2_with fail
          refine HMA.out.mono ?_
          rintro e w6 ⟨rfl, hb6⟩
          have HB6 := Lib.hid (HB5.out.trans (hb6.mono HB5.out.size))
          have HSA := Lib.hid (sameMs_any A4 A3 c4 c3 r r w6 (HM45.out.up hb6 hb6.size) (HM35.out.up hb6 hb6.size) (by have := HSL.out; omega))
          rw [decide_eq_true (rfl : r = r)] at HSA
          clear hb6 HMA
          have hmv : (mv == mv) = true := by simp
          go_wp2_with fail
          refine HSA.out.mono ?_
          rintro e w7 ⟨rfl, n7, hw7⟩
          have HB7 : Hid (Below w.heap.size w w7) := Lib.hid (by rw [hw7]; exact bN HB6.out n7)
          clear hw7 HSA
          go_wp2_with fail
          refine (HAW.out w7).mono ?_
          rintro e w8 ⟨rfl, hb8⟩
          go_wp2_with fail
          go_ret
          exact ⟨rfl, HB7.out.trans (hb8.mono HB7.out.size)⟩
      · obtain ⟨r, hr⟩ : ∃ r, chkMs ms = r := ⟨_, rfl⟩
        rw [hr] at HCH hck
        have hrb : (r != (0 : Int)) = true := by simp [hck]
        clear hr hck
        go_wp2_with fail
        refine HGL.out.mono ?_
        rintro e w1' ⟨rfl, rfl⟩
        go_wp2_with fail
        refine HCH.out.mono ?_
        rintro e w2 ⟨rfl, hb2⟩
        have HB2 := Lib.hid (HB1.out.trans (hb2.mono HB1.out.size))
        clear hb2 HCH HGL
        go_wp2_with fail
        refine (HAW.out w2).mono ?_
        rintro e w3 ⟨rfl, hb3⟩
        go_wp2_with fail
        go_ret
        exact ⟨rfl, HB2.out.trans (hb3.mono HB2.out.size)⟩
    · rw [hgl] at HGL
      clear hgl
      go_wp2_with fail
      refine HGL.out.mono ?_
      rintro e w1' ⟨rfl, rfl⟩
      go_wp2_with fail
      refine (HAW.out _).mono ?_
      rintro e w3 ⟨rfl, hb3⟩
      go_wp2_with fail
      go_ret
      exact ⟨rfl, HB1.out.trans (hb3.mono HB1.out.size)⟩
  · clear hg
    go_wp2_with fail
    refine (HAW.out w1).mono ?_
    rintro e w3 ⟨rfl, hb3⟩
    go_wp2_with fail
    go_ret
    exact ⟨rfl, HB1.out.trans (hb3.mono HB1.out.size)⟩
/-- As the row asks it. -/
theorem wkSame (ms : List Mt) (A : Option Addr) (c : Nat) (ls : List Lab) (A2 : Option Addr) (c2 : Nat) (w : World) (hm : MtsOk w ms A c) (hl : LabsOk w ls A2 c2) :
    Calls Tryz.prog 4 #[.slice A ms.length c, .slice A2 ls.length c2] w fun e w' => e = .returned (.bool true) ∧ Below w.heap.size w w' := law_same A A2 c c2 ms ls w hm hl
end Go.Proofs.YthckgmbadmilfaaGreat
