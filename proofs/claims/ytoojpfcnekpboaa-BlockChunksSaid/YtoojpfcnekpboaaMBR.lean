/- The argument api.Block, opened. The law BlockEncode, as its row asks. -/
import Derived.Test.YtoojpfcnekpboaaMBQ
import Derived.Deep.Slices
import Derived.OpenShut
import Derived.ChangeArms
import Derived.SizedLaws
import Derived.DataReads
import Derived.WideShapes
namespace Go.Proofs.Ytoojpfcnekpboaa
open Go.RowKit Go.WideShapes
open Go.Deep (open_slice)

theorem list_of {α : Type} {p : Nat → α → Prop} : ∀ {n : Nat}, (∀ i, i < n → ∃ a, p i a) → ∃ l : List α, l.length = n ∧ ∀ i (h : i < l.length), p i l[i]
  | 0, _ => ⟨[], rfl, fun i h => absurd h (by simp)⟩
  | n + 1, h => by
    obtain ⟨l, h1, h2⟩ := list_of (n := n) fun i hi => h i (by omega)
    obtain ⟨a, ha⟩ := h n (by omega)
    refine ⟨l ++ [a], by simp [h1], fun i hi => ?_⟩
    by_cases hin : i < l.length
    · rw [List.getElem_append_left hin]
      exact h2 i hin
    · have hi2 : i = l.length := by
        rw [List.length_append, List.length_singleton] at hi
        omega
      subst hi2
      have e : (l ++ [a])[l.length] = a := by simp
      rw [e, h1]
      exact ha
theorem cell_spot {w : World} {a : Addr} {v : Value} (h : w.cell? a = some v) : a.spot = none := by
  unfold World.cell? at h
  split at h
  · split at h
    · simp at h
    · rename_i hs
      simpa using hs
  · simp at h
theorem addr_add (b o n : Nat) : (Addr.mk b o none).add n = ⟨b, o + n, none⟩ := by
  unfold Addr.add
  split <;> simp_all
theorem rd_of {w : World} {base sz : Nat} {a : Addr} {l : List (Array Value)} (hs : 0 < sz) (h : ∀ i (hi : i < l.length), w.cells? base (a.add (i * sz)) sz = some l[i].toList) : RdIn w.heap.size w sz (some a) l := fun k hk => by
  obtain ⟨b, o, s⟩ := a
  have hsp : s = none := by
    have h0 := h 0 (by omega)
    obtain ⟨_, e0, c0⟩ := World.cells?_some h0
    have h00 := c0 0 hs
    rw [List.getElem?_eq_getElem (by omega)] at h00
    have := cell_spot h00
    simpa [Addr.add] using this
  subst hsp
  obtain ⟨_, e0, c0⟩ := World.cells?_some (h k hk)
  have hc : ∀ j, j < sz → w.cell? ⟨b, o + k * sz + j, none⟩ = (l[k])[j]? := fun j hj => by
    have := c0 j hj
    rw [addr_add, addr_add] at this
    rw [this, Array.getElem?_toList]
  refine ⟨b, o, rfl, ?_, hc⟩
  have h0 := hc 0 hs
  rw [Array.length_toList] at e0
  rw [Array.getElem?_eq_getElem (by omega)] at h0
  exact World.block_lt_of_cell? w _ h0
theorem weightsAll_mem {H : Type} {P : Program} {e : TypeId} : ∀ {ds : List (DataW H)} {d : DataW H}, d ∈ ds → ∀ n ∈ d.weights P e, n ∈ DataW.weightsAll P e ds
  | x :: r, d, hd, n, hn => by
    simp only [DataW.weightsAll, List.mem_append]
    rcases List.mem_cons.1 hd with rfl | hd
    · exact Or.inl hn
    · exact Or.inr (weightsAll_mem hd n hn)
theorem weights_elem {H : Type} {P : Program} {t e : TypeId} (hu : P.underlying t = some (.slice e)) {elems spare : List (DataW H)} {d : DataW H} (hd : d ∈ elems) {n : Nat} (hn : n ∈ d.weights P e) : n ∈ (DataW.slice elems spare).weights P t := by
  simp only [DataW.weights, hu, List.mem_cons, List.mem_append]
  exact Or.inr (Or.inl (weightsAll_mem hd n hn))

theorem len2 {α : Type} : ∀ {l : List α}, l.length = 2 → ∃ a0 a1, l = [a0, a1]
  | [a0, a1], _ => ⟨a0, a1, rfl⟩
theorem len4 {α : Type} : ∀ {l : List α}, l.length = 4 → ∃ a0 a1 a2 a3, l = [a0, a1, a2, a3]
  | [a0, a1, a2, a3], _ => ⟨a0, a1, a2, a3, rfl⟩
theorem len6 {α : Type} : ∀ {l : List α}, l.length = 6 → ∃ a0 a1 a2 a3 a4 a5, l = [a0, a1, a2, a3, a4, a5]
  | [a0, a1, a2, a3, a4, a5], _ => ⟨a0, a1, a2, a3, a4, a5, rfl⟩
theorem len8 {α : Type} : ∀ {l : List α}, l.length = 8 → ∃ a0 a1 a2 a3 a4 a5 a6 a7, l = [a0, a1, a2, a3, a4, a5, a6, a7]
  | [a0, a1, a2, a3, a4, a5, a6, a7], _ => ⟨a0, a1, a2, a3, a4, a5, a6, a7, rfl⟩
theorem len13 {α : Type} : ∀ {l : List α}, l.length = 13 → ∃ a0 a1 a2 a3 a4 a5 a6 a7 a8 a9 a10 a11 a12, l = [a0, a1, a2, a3, a4, a5, a6, a7, a8, a9, a10, a11, a12]
  | [a0, a1, a2, a3, a4, a5, a6, a7, a8, a9, a10, a11, a12], _ => ⟨a0, a1, a2, a3, a4, a5, a6, a7, a8, a9, a10, a11, a12, rfl⟩
theorem len16 {α : Type} : ∀ {l : List α}, l.length = 16 → ∃ a0 a1 a2 a3 a4 a5 a6 a7 a8 a9 a10 a11 a12 a13 a14 a15, l = [a0, a1, a2, a3, a4, a5, a6, a7, a8, a9, a10, a11, a12, a13, a14, a15]
  | [a0, a1, a2, a3, a4, a5, a6, a7, a8, a9, a10, a11, a12, a13, a14, a15], _ => ⟨a0, a1, a2, a3, a4, a5, a6, a7, a8, a9, a10, a11, a12, a13, a14, a15, rfl⟩
theorem ce_string : Try.prog.cellsOf 9 = 1 := by kernel_rfl
theorem ce_int : Try.prog.cellsOf 3 = 1 := by kernel_rfl
theorem ce_u32 : Try.prog.cellsOf 31 = 1 := by kernel_rfl
theorem ce_lab : Try.prog.cellsOf 57 = 2 := by kernel_rfl
theorem ce_labs : Try.prog.cellsOf 41 = 1 := by kernel_rfl
theorem ce_arr8 : Try.prog.cellsOf 42 = 8 := by kernel_rfl
theorem ce_zone : Try.prog.cellsOf 44 = 13 := by kernel_rfl
theorem ce_chunk : Try.prog.cellsOf 49 = 16 := by kernel_rfl
theorem ce_chunks : Try.prog.cellsOf 22 = 1 := by kernel_rfl
theorem ce_block : Try.prog.cellsOf 24 = 4 := by kernel_rfl
theorem u32_wf {n : Int} (h : (Lit.int .u32 n).wf = true) : 0 ≤ n ∧ n < 4294967296 := by
  change (decide (0 ≤ n) && decide (n ≤ 4294967295)) = true at h
  simp at h
  omega

section
variable {H : Type} {enc : TypeId × Value → H} {w : World} {base n : Nat} {sp : Nat → Bool} {held : Bool} {cs : List Value} {x : DataW H × List MemPlace}
theorem open_label (h : DataW.trod enc Try.prog w base sp held n 57 cs = some x) : ∃ l : Lab, cs = l.cells.toList ∧ l.name.size ∈ x.1.weights Try.prog 57 := by
  obtain ⟨ys, m, _, rfl, hl, hy, hf⟩ := DataW.trod_struct Try.underlying57 h
  rw [ce_lab] at hl
  obtain ⟨y0, y1, rfl⟩ := len2 hy
  obtain ⟨c0, c1, rfl⟩ := len2 hl
  have h0 := hf 0 _ rfl
  have h1 := hf 1 _ rfl
  simp [ce_string] at h0 h1
  obtain ⟨a, e0, rfl, _⟩ := DataW.trod_string Try.underlying9 h0
  obtain ⟨b, e1, rfl, _⟩ := DataW.trod_string Try.underlying9 h1
  simp at e0 e1
  subst e0 e1
  exact ⟨⟨a, b⟩, rfl, by simp [DataW.weights, DataW.weightsEach, Try.underlying57]⟩
theorem open_labels (h : DataW.trod enc Try.prog w base sp held n 41 cs = some x) : ∃ (A : Option Addr) (c : Nat) (ls : List Lab), cs = [.slice A ls.length c] ∧ LabsIn w.heap.size w A ls ∧ ls.length ≤ c ∧ ls.length ≤ maxLen ∧ ∀ y ∈ ls, y.name.size ∈ x.1.weights Try.prog 41 := by
  rcases open_slice Try.underlying41 h with ⟨rfl, rfl⟩ | ⟨a, len, cap, m, n', D, Pl, rfl, _, hl, hm, hmm, rfl, hx⟩
  · exact ⟨none, 0, [], rfl, LabsIn.nil _ _ _, Nat.le_refl _, Nat.zero_le _, fun y hy => absurd hy (by simp)⟩
  · rw [ce_lab] at hx
    have hlm : len ≤ m := by rw [hmm]; split <;> omega
    obtain ⟨ls, e1, e2⟩ := list_of (n := len) (p := fun i (y : Lab) => w.cells? base (a.add (i * 2)) 2 = some y.cells.toList ∧ y.name.size ∈ (D i).weights Try.prog 57) fun i hi => by
      obtain ⟨cs', h1, h2⟩ := hx i (by omega)
      obtain ⟨y, e, hy⟩ := open_label h2
      exact ⟨y, by rw [h1, e], hy⟩
    refine ⟨some a, cap, ls, by rw [e1], rd_of (base := base) (by omega) fun i hi => ?_, by omega, by omega, fun y hy => ?_⟩
    · rw [List.length_map] at hi
      rw [List.getElem_map]
      exact (e2 i hi).1
    · obtain ⟨i, hi, rfl⟩ := List.getElem_of_mem hy
      exact weights_elem Try.underlying41 (List.mem_map.2 ⟨i, by rw [List.mem_range]; omega, rfl⟩) (e2 i hi).2
theorem open_arr8 (h : DataW.trod enc Try.prog w base sp held n 42 cs = some x) : ∃ b0 b1 b2 b3 b4 b5 b6 b7 : Int, cs = [.int .u32 b0, .int .u32 b1, .int .u32 b2, .int .u32 b3, .int .u32 b4, .int .u32 b5, .int .u32 b6, .int .u32 b7] ∧ ∀ v ∈ [b0, b1, b2, b3, b4, b5, b6, b7], 0 ≤ v ∧ v < 4294967296 := by
  obtain ⟨ys, m, _, rfl, hl, hy, hf⟩ := DataW.trod_array Try.underlying42 h
  rw [ce_arr8] at hl
  obtain ⟨y0, y1, y2, y3, y4, y5, y6, y7, rfl⟩ := len8 hy
  obtain ⟨c0, c1, c2, c3, c4, c5, c6, c7, rfl⟩ := len8 hl
  have h0 := hf 0 (by omega)
  have h1 := hf 1 (by omega)
  have h2 := hf 2 (by omega)
  have h3 := hf 3 (by omega)
  have h4 := hf 4 (by omega)
  have h5 := hf 5 (by omega)
  have h6 := hf 6 (by omega)
  have h7 := hf 7 (by omega)
  simp [ce_u32] at h0 h1 h2 h3 h4 h5 h6 h7
  obtain ⟨b0, e0, _, k0⟩ := DataW.trod_int Try.underlying31 h0
  obtain ⟨b1, e1, _, k1⟩ := DataW.trod_int Try.underlying31 h1
  obtain ⟨b2, e2, _, k2⟩ := DataW.trod_int Try.underlying31 h2
  obtain ⟨b3, e3, _, k3⟩ := DataW.trod_int Try.underlying31 h3
  obtain ⟨b4, e4, _, k4⟩ := DataW.trod_int Try.underlying31 h4
  obtain ⟨b5, e5, _, k5⟩ := DataW.trod_int Try.underlying31 h5
  obtain ⟨b6, e6, _, k6⟩ := DataW.trod_int Try.underlying31 h6
  obtain ⟨b7, e7, _, k7⟩ := DataW.trod_int Try.underlying31 h7
  simp at e0 e1 e2 e3 e4 e5 e6 e7
  subst e0 e1 e2 e3 e4 e5 e6 e7
  refine ⟨b0, b1, b2, b3, b4, b5, b6, b7, rfl, fun v hv => ?_⟩
  simp only [List.mem_cons, List.not_mem_nil, or_false] at hv
  rcases hv with rfl | rfl | rfl | rfl | rfl | rfl | rfl | rfl
  all_goals (apply u32_wf; assumption)
theorem open_zone (h : DataW.trod enc Try.prog w base sp held n 44 cs = some x) : ∃ z : Zn, cs = z.cells.toList ∧ ZW z := by
  obtain ⟨ys, m, _, rfl, hl, hy, hf⟩ := DataW.trod_struct Try.underlying44 h
  rw [ce_zone] at hl
  obtain ⟨y0, y1, y2, y3, y4, y5, rfl⟩ := len6 hy
  obtain ⟨c0, c1, c2, c3, c4, c5, c6, c7, c8, c9, c10, c11, c12, rfl⟩ := len13 hl
  have h0 := hf 0 _ rfl
  have h1 := hf 1 _ rfl
  have h2 := hf 2 _ rfl
  have h3 := hf 3 _ rfl
  have h4 := hf 4 _ rfl
  have h5 := hf 5 _ rfl
  simp [ce_int, ce_arr8] at h0 h1 h2 h3 h4 h5
  obtain ⟨b0, e0, _, _⟩ := DataW.trod_int Try.underlying3 h0
  obtain ⟨b1, e1, _, _⟩ := DataW.trod_int Try.underlying3 h1
  obtain ⟨b2, e2, _, _⟩ := DataW.trod_int Try.underlying3 h2
  obtain ⟨b3, e3, _, _⟩ := DataW.trod_int Try.underlying3 h3
  obtain ⟨b4, e4, _, _⟩ := DataW.trod_int Try.underlying3 h4
  obtain ⟨d0, d1, d2, d3, d4, d5, d6, d7, e5, hd⟩ := open_arr8 h5
  simp at e0 e1 e2 e3 e4 e5
  obtain ⟨f0, f1, f2, f3, f4, f5, f6, f7⟩ := e5
  subst e0 e1 e2 e3 e4 f0 f1 f2 f3 f4 f5 f6 f7
  refine ⟨⟨b0, b1, b2, b3, b4, d0, d1, d2, d3, d4, d5, d6, d7⟩, rfl, fun i hi => ?_⟩
  have hi2 : i < (Zn.words ⟨b0, b1, b2, b3, b4, d0, d1, d2, d3, d4, d5, d6, d7⟩).length := hi
  rw [List.getD, List.getElem?_eq_getElem hi2]
  exact hd _ (List.getElem_mem hi2)
theorem open_chunk (h : DataW.trod enc Try.prog w base sp held n 49 cs = some x) : ∃ (y : Chk) (A : Option Addr) (c : Nat), cs = (chC y.sig A y.labs.length c y.zone y.data).toList ∧ LabsIn w.heap.size w A y.labs ∧ y.labs.length ≤ c ∧ y.labs.length ≤ maxLen ∧ ZW y.zone ∧ ∀ z ∈ y.labs, z.name.size ∈ x.1.weights Try.prog 49 := by
  obtain ⟨ys, m, _, rfl, hl, hy, hf⟩ := DataW.trod_struct Try.underlying49 h
  rw [ce_chunk] at hl
  obtain ⟨y0, y1, y2, y3, rfl⟩ := len4 hy
  obtain ⟨c0, c1, c2, c3, c4, c5, c6, c7, c8, c9, c10, c11, c12, c13, c14, c15, rfl⟩ := len16 hl
  have h0 := hf 0 _ rfl
  have h1 := hf 1 _ rfl
  have h2 := hf 2 _ rfl
  have h3 := hf 3 _ rfl
  simp [ce_int, ce_labs, ce_zone, ce_string] at h0 h1 h2 h3
  obtain ⟨s, e0, _, _⟩ := DataW.trod_int Try.underlying3 h0
  obtain ⟨A, c, ls, e1, g1, g2, g3, g4⟩ := open_labels h1
  obtain ⟨z, e2, g5⟩ := open_zone h2
  obtain ⟨d, e3, _, _⟩ := DataW.trod_string Try.underlying9 h3
  simp at e0 e1 e3
  simp [Zn.cells] at e2
  obtain ⟨f0, f1, f2, f3, f4, f5, f6, f7, f8, f9, f10, f11, f12⟩ := e2
  subst e0 e1 e3 f0 f1 f2 f3 f4 f5 f6 f7 f8 f9 f10 f11 f12
  refine ⟨⟨s, ls, z, d⟩, A, c, rfl, g1, g2, g3, g5, fun y hy => ?_⟩
  have hw := g4 y hy
  simp only [DataW.weights, Try.underlying49, List.map_cons, List.map_nil, DataW.weightsEach, List.mem_append]
  exact Or.inr (Or.inl hw)
theorem open_chunks (h : DataW.trod enc Try.prog w base sp held n 22 cs = some x) : ∃ (A : Option Addr) (c : Nat) (xs : List Chk), cs = [.slice A xs.length c] ∧ ChksIn w.heap.size w A xs ∧ xs.length ≤ c ∧ xs.length ≤ maxLen ∧ (∀ y ∈ xs, y.labs.length ≤ maxLen ∧ ∀ z ∈ y.labs, z.name.size ∈ x.1.weights Try.prog 22) ∧ ∀ y ∈ xs, ZW y.zone := by
  rcases open_slice Try.underlying22 h with ⟨rfl, rfl⟩ | ⟨a, len, cap, m, n', D, Pl, rfl, _, hl, hm, hmm, rfl, hx⟩
  · exact ⟨none, 0, [], rfl, ChksIn.nil _ _ _, Nat.le_refl _, Nat.zero_le _, fun y hy => absurd hy (by simp), fun y hy => absurd hy (by simp)⟩
  · rw [ce_chunk] at hx
    have hlm : len ≤ m := by rw [hmm]; split <;> omega
    obtain ⟨ls, e1, e2⟩ := list_of (n := len) (p := fun i (q : Chk × Array Value) => w.cells? base (a.add (i * 16)) 16 = some q.2.toList ∧ ChkV w.heap.size w q.2 q.1 ∧ q.1.labs.length ≤ maxLen ∧ ZW q.1.zone ∧ ∀ z ∈ q.1.labs, z.name.size ∈ (D i).weights Try.prog 49) fun i hi => by
      obtain ⟨cs', h1, h2⟩ := hx i (by omega)
      obtain ⟨y, A, c, e, g1, g2, g3, g4, g5⟩ := open_chunk h2
      exact ⟨(y, chC y.sig A y.labs.length c y.zone y.data), by rw [h1, e], ⟨A, c, rfl, g1, g2⟩, g3, g4, g5⟩
    refine ⟨some a, cap, ls.map (·.1), by rw [List.length_map, e1], ⟨ls.map (·.2), by rw [List.length_map, List.length_map], rd_of (base := base) (by omega) fun i hi => ?_, fun k hk hk' => ?_⟩, by rw [List.length_map]; omega, by rw [List.length_map]; omega, fun y hy => ?_, fun y hy => ?_⟩
    · rw [List.length_map] at hi
      rw [List.getElem_map]
      exact (e2 i hi).1
    · rw [List.length_map] at hk
      rw [List.getElem_map, List.getElem_map]
      exact (e2 k hk).2.1
    · obtain ⟨q, hq, rfl⟩ := List.mem_map.1 hy
      obtain ⟨i, hi, rfl⟩ := List.getElem_of_mem hq
      refine ⟨(e2 i hi).2.2.1, fun z hz => weights_elem Try.underlying22 (List.mem_map.2 ⟨i, by rw [List.mem_range]; omega, rfl⟩) ((e2 i hi).2.2.2.2 z hz)⟩
    · obtain ⟨q, hq, rfl⟩ := List.mem_map.1 hy
      obtain ⟨i, hi, rfl⟩ := List.getElem_of_mem hq
      exact (e2 i hi).2.2.2.1
set_option maxRecDepth 100000 in
theorem open_blk {r : Reach} {k : Nat} {v : Value} {d : DataW H} {ps : List MemPlace} (hval : Value.okWide Try.prog w r k 24 v) (h : DataW.Trod enc Try.prog w base sp held 24 v d ps) : ∃ (b : Blk) (A : Option Addr) (c : Nat), v = .agg (blC b A c) ∧ ChksIn w.heap.size w A b.chunks ∧ b.chunks.length ≤ c ∧ b.chunks.length ≤ maxLen ∧ (∀ y ∈ b.chunks, y.labs.length ≤ maxLen ∧ ∀ z ∈ y.labs, z.name.size ∈ d.weights Try.prog 24) ∧ ∀ y ∈ b.chunks, ZW y.zone := by
  obtain ⟨cs, rfl, hcs⟩ := okWide_struct Try.underlying24 hval
  obtain ⟨n, h⟩ := h
  obtain ⟨ys, m, _, hx, hl, hy, hf⟩ := DataW.trod_struct Try.underlying24 h
  simp only [Prod.mk.injEq] at hx
  obtain ⟨rfl, _⟩ := hx
  have e : Value.cells (.agg cs) = cs := rfl
  rw [e] at hf
  rw [ce_block] at hcs
  obtain ⟨cl⟩ := cs
  have hcl : cl.length = 4 := hcs
  obtain ⟨y0, y1, y2, y3, rfl⟩ := len4 hy
  obtain ⟨c0, c1, c2, c3, rfl⟩ := len4 hcl
  have h0 := hf 0 _ rfl
  have h1 := hf 1 _ rfl
  have h2 := hf 2 _ rfl
  have h3 := hf 3 _ rfl
  simp [ce_int, ce_chunks] at h0 h1 h2 h3
  obtain ⟨b0, e0, _, _⟩ := DataW.trod_int Try.underlying3 h0
  obtain ⟨b1, e1, _, _⟩ := DataW.trod_int Try.underlying3 h1
  obtain ⟨b2, e2, _, _⟩ := DataW.trod_int Try.underlying3 h2
  obtain ⟨A, c, xs, e3, g1, g2, g3, g4, g5⟩ := open_chunks h3
  simp at e0 e1 e2 e3
  subst e0 e1 e2 e3
  refine ⟨⟨b0, b1, b2, xs⟩, A, c, rfl, g1, g2, g3, fun y hy => ⟨(g4 y hy).1, fun z hz => ?_⟩, g5⟩
  have hw := (g4 y hy).2 z hz
  simp only [DataW.weights, Try.underlying24, List.map_cons, List.map_nil, DataW.weightsEach, List.mem_append]
  exact Or.inr (Or.inr (Or.inr (Or.inl hw)))
end
end Go.Proofs.Ytoojpfcnekpboaa

namespace Go.Proofs.Ytoojpfcnekpboaa
open Go.RowKit

/-- What the row knows of an argument that is a block. -/
structure BlkOk (w : World) (b : Blk) (A : Option Addr) (c : Nat) : Prop where
  rd : ChksIn w.heap.size w A b.chunks
  cap : b.chunks.length ≤ c
  len : b.chunks.length ≤ 9223372036854775807
  labs : ∀ y ∈ b.chunks, y.labs.length ≤ 9223372036854775807 ∧ ∀ z ∈ y.labs, z.name.size ≤ 140737488351232
  zone : ∀ y ∈ b.chunks, ZW y.zone
set_option maxRecDepth 100000 in
theorem open_arg {H : Type} {enc : TypeId × Value → H} {w : World} {base : Nat} {sp : Nat → Bool} {held : Bool} {r : Reach} {k : Nat} {v : Value} {d : DataW H} {ps : List MemPlace} (hval : Value.okWide Try.prog w r k 24 v) (h : DataW.Trod enc Try.prog w base sp held 24 v d ps) (hs : ∀ n ∈ d.weights Try.prog 24, n ≤ 140737488351232) : ∃ (b : Blk) (A : Option Addr) (c : Nat), v = .agg (blC b A c) ∧ BlkOk w b A c := by
  obtain ⟨b, A, c, e, g1, g2, g3, g4, g5⟩ := open_blk hval h
  exact ⟨b, A, c, e, g1, g2, g3, fun y hy => ⟨(g4 y hy).1, fun z hz => hs _ ((g4 y hy).2 z hz)⟩, g5⟩
theorem wkEncode (b : Blk) (A : Option Addr) (c : Nat) (w : World) (h : BlkOk w b A c) : Calls Try.prog 3 #[.agg (blC b A c)] w fun e w' => e = .returned (.bool true) ∧ Below w.heap.size w w' :=
  lawEncode_any b A c w h.rd h.cap h.labs h.zone h.len
end Go.Proofs.Ytoojpfcnekpboaa
