/- Walks: the items of a block (the reference's). Walks: the chunks with their offsets (an iterator of the program). -/
import Derived.Test.YtoojpfcnekpboaaMAS
import Derived.Test.YtoojpfcnekpboaaMAL
namespace Go.Proofs.Ytoojpfcnekpboaa
open Go.RowKit

/-! ### Cells of items -/
def itC (s : Int) (A : Option Addr) (n c : Nat) (z : Zn) (o q : Int) : Array Value := #[.int .i64 s, .slice A n c, .int .i64 z.count, .int .i64 z.minT, .int .i64 z.maxT, .int .i64 z.minV, .int .i64 z.maxV, .int .u32 z.b0, .int .u32 z.b1, .int .u32 z.b2, .int .u32 z.b3, .int .u32 z.b4, .int .u32 z.b5, .int .u32 z.b6, .int .u32 z.b7, .int .i64 o, .int .i64 q]
theorem itC_size (s : Int) (A : Option Addr) (n c : Nat) (z : Zn) (o q : Int) : (itC s A n c z o q).size = 17 := rfl
theorem itC_one (s : Int) (A : Option Addr) (n c : Nat) (z : Zn) (o q : Int) : ((itC s A n c z o q).all fun x => x.oneCell') = true := by simp [itC, Value.oneCell']
theorem size_item : (Try.prog.info? 46).map (·.size) = some 17 := by kernel_rfl
def ItmV (B : Nat) (w : World) (cs : Array Value) (x : Itm) : Prop := ∃ (A : Option Addr) (c : Nat), cs = itC x.sig A x.labs.length c x.zone x.off x.size ∧ LabsIn B w A x.labs ∧ x.labs.length ≤ c
theorem ItmV.same {B : Nat} {w w' : World} {cs : Array Value} {x : Itm} (h : ItmV B w cs x) (hc : ∀ b, b < B → w'.heap[b]? = w.heap[b]?) : ItmV B w' cs x := by
  obtain ⟨A, c, h1, h2, h3⟩ := h
  exact ⟨A, c, h1, h2.same hc, h3⟩
theorem ItmV.mono {B B' : Nat} {w : World} {cs : Array Value} {x : Itm} (h : ItmV B w cs x) (hB : B ≤ B') : ItmV B' w cs x := by
  obtain ⟨A, c, h1, h2, h3⟩ := h
  exact ⟨A, c, h1, h2.mono hB, h3⟩
/-- Rows that are items. -/
def ItmVs (B : Nat) (w : World) (vs : List (Array Value)) (xs : List Itm) : Prop := ∀ k (h : k < vs.length) (h' : k < xs.length), ItmV B w vs[k] xs[k]
def ItmsIn (B : Nat) (w : World) (A : Option Addr) (xs : List Itm) : Prop := ∃ vs : List (Array Value), vs.length = xs.length ∧ RdIn B w 17 A vs ∧ ItmVs B w vs xs
section
variable {B B' : Nat} {w w' : World} {A : Option Addr} {xs : List Itm}
theorem ItmsIn.same (h : ItmsIn B w A xs) (hc : ∀ b, b < B → w'.heap[b]? = w.heap[b]?) : ItmsIn B w' A xs := by
  obtain ⟨vs, h1, h2, h3⟩ := h
  exact ⟨vs, h1, h2.same hc, fun k a b => (h3 k a b).same hc⟩
theorem ItmsIn.below (h : ItmsIn B w A xs) (hb : Below B w w') : ItmsIn B w' A xs := h.same fun b hlt => hb.block b hlt
theorem ItmsIn.mono (h : ItmsIn B w A xs) (hB : B ≤ B') : ItmsIn B' w A xs := by
  obtain ⟨vs, h1, h2, h3⟩ := h
  exact ⟨vs, h1, h2.mono hB, fun k a b => (h3 k a b).mono hB⟩
theorem ItmsIn.get (h : ItmsIn B w A xs) (k : Nat) (hk : k < xs.length) : ∃ b o A' c', A = some ⟨b, o, none⟩ ∧ b < B ∧ Hid (w.rangeAt b (o + k * 17) (itC (xs[k]).sig A' (xs[k]).labs.length c' (xs[k]).zone (xs[k]).off (xs[k]).size).toList) ∧ Hid (LabsIn B w A' (xs[k]).labs) ∧ Hid ((xs[k]).labs.length ≤ c') := by
  obtain ⟨vs, h1, h2, h3⟩ := h
  obtain ⟨b, o, e, hb, hc⟩ := h2 k (by omega)
  obtain ⟨A', c', e2, h4, h5⟩ := h3 k (by omega) hk
  refine ⟨b, o, A', c', e, hb, Lib.hid fun j v hj => ?_, Lib.hid h4, Lib.hid h5⟩
  have hj' : j < 17 := by
    have := (List.getElem?_eq_some_iff.1 hj).1
    rw [Array.length_toList, itC_size] at this
    exact this
  rw [hc j hj', e2]
  simpa using hj
end
theorem itmFrom_get : ∀ (a : Int) (xs : List Chk) (k : Nat) (h : k < xs.length), (itmFrom a xs)[k]? = some ⟨(xs[k]).sig, (xs[k]).labs, (xs[k]).zone, a + (offAt xs k : Int), (xs[k]).data.size + 4⟩
  | _, [], k, h => by simp at h
  | a, x :: r, 0, h => by unfold itmFrom offAt; simp
  | a, x :: r, k + 1, h => by
    have ih := itmFrom_get (a + (x.data.size + 4)) r k (by simpa using h)
    unfold itmFrom
    rw [List.getElem?_cons_succ, ih]
    unfold offAt
    simp only [List.getElem_cons_succ, List.take_succ_cons, List.map_cons, List.sum_cons]
    congr 2
    omega
theorem offAt_step {xs : List Chk} {k : Nat} (h : k < xs.length) : offAt xs (k + 1) = offAt xs k + ((xs[k]).data.size + 4) := by
  unfold offAt
  rw [List.take_succ_eq_append_getElem h, List.map_append, List.sum_append]
  simp
theorem offAt_leM {xs : List Chk} (h : ∀ x ∈ xs, x.data.size ≤ 71400) : ∀ k, offAt xs k ≤ 71404 * k := by
  intro k
  induction k with
  | zero => simp [offAt]
  | succ k ih =>
    by_cases hk : k < xs.length
    · rw [offAt_step hk]
      have := h _ (List.getElem_mem hk)
      omega
    · have e : offAt xs (k + 1) = offAt xs k := by unfold offAt; rw [List.take_of_length_le (by omega), List.take_of_length_le (by omega)]
      omega
theorem offAt_le {xs : List Chk} (h : ∀ x ∈ xs, x.data.size ≤ 600) : ∀ k, offAt xs k ≤ 604 * k := by
  intro k
  induction k with
  | zero => simp [offAt]
  | succ k ih =>
    by_cases hk : k < xs.length
    · rw [offAt_step hk]
      have := h _ (List.getElem_mem hk)
      omega
    · have e : offAt xs (k + 1) = offAt xs k := by unfold offAt; rw [List.take_of_length_le (by omega), List.take_of_length_le (by omega)]
      omega
theorem ItmVs.snoc {B : Nat} {w : World} {vs : List (Array Value)} {xs : List Itm} {v : Array Value} {y : Itm} (h : ItmVs B w vs xs) (hy : xs[vs.length]? = some y) (hv : ItmV B w v y) : ItmVs B w (vs ++ [v]) xs := fun k h1 h2 => by
  by_cases hk : k < vs.length
  · rw [List.getElem_append_left hk]
    exact h k hk h2
  · have : k = vs.length := by rw [List.length_append] at h1; simp at h1; omega
    subst this
    rw [List.getElem_append_right (Nat.le_refl _)]
    have e : xs[vs.length] = y := by rw [List.getElem?_eq_getElem h2] at hy; exact Option.some.inj hy
    simp only [Nat.sub_self, List.getElem_cons_zero]
    rw [e]
    exact hv
theorem info_itemS : (Try.prog.info? 46).map (fun i => (i.zero, i.size, i.bytes)) = some (some (.agg (itC 0 none 0 0 Zn.zero 0 0)), 17, 120) := by kernel_rfl
theorem zero_itemS : (Value.agg (itC 0 none 0 0 Zn.zero 0 0)).cells.size = 17 := rfl

set_option maxRecDepth 100000 in
set_option maxHeartbeats 8000000 in
theorem items_any (b : Blk) (A : Option Addr) (c : Nat) (w : World) (hl : ChksIn w.heap.size w A b.chunks) (hc : b.chunks.length ≤ c) (hf : Fine b) :
    Calls Try.prog 28 #[.agg (blC b A c)] w fun e w' => (∃ A' c', e = .returned (.slice A' b.chunks.length c') ∧ b.chunks.length ≤ c' ∧ ItmsIn w'.heap.size w' A' (itmFrom 0 b.chunks)) ∧ Below w.heap.size w w' := by
  have hat := At.new w (blC b A c) 24
  have hb : Below w.heap.size w (w.alloc (.cells (blC b A c) 24)) := (Below.refl _ _).alloc (Nat.le_refl _) _
  have HB := Lib.hid hb
  have HAT := Lib.hid hat
  have HL := Lib.hid hl
  have HC := Lib.hid hc
  have HF := Lib.hid hf
  have hfew := hf.few
  clear hat hl hc hb hf
  go_enter Try.func28, Try.ntmps28
  go_upto_region 1 with fail
  generalize w.alloc (.cells (blC b A c) 24) = w0 at *
  have HSR : Hid (SR w0 46 17 (some ⟨w0.heap.size, 0, none⟩) 0 0 [] (w0.alloc (.cells #[] 46))) := Lib.hid (SR.empty _ _ (Below.refl _ _))
  have HI0 : Hid (ItmVs w.heap.size w0 [] (itmFrom 0 b.chunks)) := Lib.hid fun k h => absurd h (by simp)
  have hlt0 : w.heap.size < w0.heap.size := HAT.out.lt
  obtain ⟨i0, hi, hz0, hz1, hz2⟩ := info_parts info_itemS
  go_wp2_with fail
  go_loopw [3, 4, 5] (fun l a i wr => ∃ (k : Nat) (A' : Option Addr) (n' c' : Nat) (vs : List (Array Value)), k ≤ b.chunks.length ∧ l = .slice A' n' c' ∧ a = .int .i64 (offAt b.chunks k) ∧ i = .int .i64 k ∧ Hid (SR w0 46 17 A' n' c' vs wr) ∧ Hid (vs.length = k) ∧ Hid (ItmVs w.heap.size w0 vs (itmFrom 0 b.chunks))) (fun _ _ i _ => b.chunks.length - (intOf i).toNat)
  case atStart => exact ⟨0, _, _, _, _, Nat.zero_le _, rfl, rfl, rfl, HSR, Lib.hid rfl, HI0⟩
  case round =>
    obtain ⟨k, A', n', c', vs, hk, rfl, rfl, rfl, HS, HV, HI⟩ := hrel
    have HBW := Lib.hid (HB.out.trans (HS.out.below.mono HB.out.size))
    have hsz : w0.heap.size ≤ wr.heap.size := HS.out.below.size
    have c3 : wr.cell? ⟨w.heap.size, 3, none⟩ = some (.slice A b.chunks.length c) := (HAT.out.below HS.out.below).cell 3
    have hoff : offAt b.chunks k ≤ 604 * k := offAt_le HF.out.data k
    by_cases hlt : k < b.chunks.length
    · obtain ⟨g, o, A2, c2, rfl, hg, HRG, HLB, HCL⟩ := (HL.out.below HBW.out).get k hlt
      have HSTP := Lib.hid (offAt_step hlt)
      have HGT := Lib.hid (itmFrom_get 0 b.chunks k hlt)
      have hds := HF.out.data _ (List.getElem_mem hlt)
      obtain ⟨HLW0, HCW0⟩ : Hid (LabsIn w.heap.size w0 A2 (b.chunks[k]).labs) ∧ True := by
        obtain ⟨g2, o2, A3, c3, e3, _, hr3, hl3, _⟩ := (HL.out.below HB.out).get k hlt
        cases e3
        have e4 : A3 = A2 := by
          have h1 := hr3.out 1 _ rfl
          have h2 := HRG.out 1 _ rfl
          have h3 := (HS.out.below.cell (p := ⟨g, o + k * 16 + 1, none⟩) (show g < w0.heap.size by omega)).trans h1
          rw [h3] at h2
          injection h2 with h2
          injection h2
        exact ⟨Lib.hid (e4 ▸ hl3.out), trivial⟩
      obtain ⟨x, hx⟩ : ∃ x, b.chunks[k] = x := ⟨_, rfl⟩
      rw [hx] at HRG HLB HCL HSTP HGT hds HLW0
      clear hx
      go_wp2_with (first | (refine wpList_load_mid rfl 49 (.tmp 19) rfl g (o + k * 16) rfl (chC x.sig A2 x.labs.length c2 x.zone x.data).toList _ HRG.out Try.underlying49 rfl size_chunk ?_) | (refine wpList_store_at rfl 49 (.tmp 6) (.tmp 20) rfl wr.heap.size (chC x.sig A2 x.labs.length c2 x.zone x.data) rfl rfl 49 _ (At.new _ _ _) size_chunk rfl (chC_one _ _ _ _ _ _) ?_))
      intro w1 HW1
      have HX1 : Hid (At w1 wr.heap.size (chC x.sig A2 x.labs.length c2 x.zone x.data) 49) := Lib.hid (by rw [HW1.out]; exact (At.new _ _ _).row)
      have HRR : Hid (Below wr.heap.size wr w1) := Lib.hid (by rw [HW1.out]; exact below_row ((Below.refl _ _).alloc (Nat.le_refl _) _) _ _ (Nat.le_refl _))
      have HS1 : Hid (SR w0 46 17 A' n' c' vs w1) := Lib.hid (HS.out.later HRR.out)
      have e0 : w1.cell? ⟨wr.heap.size, 0, none⟩ = some (.int .i64 x.sig) := HX1.out.cell 0
      have e1 : w1.cell? ⟨wr.heap.size, 1, none⟩ = some (.slice A2 x.labs.length c2) := HX1.out.cell 1
      have e15 : w1.cell? ⟨wr.heap.size, 15, none⟩ = some (.string x.data) := HX1.out.cell 15
      have hz := zone_range (range_at HX1.out)
      rw [Nat.zero_add] at hz
      have HZ : Hid (w1.rangeAt wr.heap.size 2 [.int .i64 x.zone.count, .int .i64 x.zone.minT, .int .i64 x.zone.maxT, .int .i64 x.zone.minV, .int .i64 x.zone.maxV, .int .u32 x.zone.b0, .int .u32 x.zone.b1, .int .u32 x.zone.b2, .int .u32 x.zone.b3, .int .u32 x.zone.b4, .int .u32 x.zone.b5, .int .u32 x.zone.b6, .int .u32 x.zone.b7]) := Lib.hid hz
      have hn : n' = k := by rw [← HS1.out.len]; exact HV.out
      subst hn
      clear HW1 hz c3
      go_wp2_with (first | (refine wpList_load_mid rfl 44 (.tmp 30) rfl wr.heap.size 2 rfl _ _ HZ.out Try.underlying44 rfl size_zone ?_) | (at_builtin; (refine wpList_elem rfl (.tmp 25) (.tmp 35) 37 46 i0 _ 17 120 Try.underlying37 hi hz0 hz1 hz2 zero_itemS (by decide) rfl HS1.out (itC x.sig A2 x.labs.length c2 x.zone (offAt b.chunks n') (x.data.size + 4)) rfl (itC_one _ _ _ _ _ _ _) rfl rfl (by omega) (by decide) ?_)))
      intro A3 n3 c3 l3 w3 HE3 hS3 hG3
      have HS3 := Lib.hid hS3
      have HN3 : Hid (n3 = n' + 1 ∧ ItmVs w.heap.size w0 l3 (itmFrom 0 b.chunks)) := Lib.hid ⟨by rw [← hS3.len, HE3.out, List.length_append, HV.out]; rfl, by
        rw [HE3.out]
        refine HI.out.snoc (by rw [HV.out]; exact HGT.out) ⟨A2, c2, ?_, HLW0.out, HCL.out⟩
        simp only [Int.zero_add]⟩
      obtain ⟨rfl, hI3⟩ := HN3.out
      have HI3 := Lib.hid hI3
      clear HN3 hS3 hG3 hI3 e0 e1 e15 HX1 HZ
      go_wp2_with fail
      go_roundw
      case rel => exact ⟨n' + 1, A3, n' + 1, c3, l3, hlt, rfl, by rw [HSTP.out]; go_num, by go_num, HS3, Lib.hid HS3.out.len, HI3⟩
      case measure => simp [intOf]; omega
    · have hke : k = b.chunks.length := by omega
      subst hke
      have hn : n' = b.chunks.length := by rw [← HS.out.len]; exact HV.out
      subst hn
      go_wp2_with fail
      go_ret
      refine ⟨⟨A', c', rfl, HS.out.cap, vs, by rw [HV.out, itmFrom_len], HS.out.rd, fun j h1 h2 => ?_⟩, HBW.out⟩
      exact ((HI.out j h1 h2).same (fun q hq => HS.out.below.block q (by omega))).mono (by omega)
end Go.Proofs.Ytoojpfcnekpboaa

namespace Go.Proofs.Ytoojpfcnekpboaa
open Go.RowKit Go.Shelf
attribute [local go_sem] Oper.semAt_some

def offEnc (xs : List Chk) (f : Fin xs.length → Option Addr × Nat) (k : Fin xs.length) : Array Value := #[.int .i64 (offAt xs k.1), .agg (chC (xs[k]).sig (f k).1 (xs[k]).labs.length (f k).2 (xs[k]).zone (xs[k]).data)]
theorem finTake_succ {n k : Nat} (h : k < n) : (List.finRange n).take (k + 1) = (List.finRange n).take k ++ [⟨k, h⟩] := by
  rw [List.take_succ_eq_append_getElem (by simpa using h)]
  simp
theorem finTake_len {n k : Nat} (h : k ≤ n) : ((List.finRange n).take k).length = k := by simp; omega
theorem grown_new {A : World} {o : Obj} {c : Array Value} : A.grownBy ((A.alloc o).setRow A.heap.size c) none :=
  ⟨rfl, rfl, rfl, by simp, fun k hk _ => by rw [setRow_other _ _ _ _ (by omega)]; exact Below.heap_alloc A o k hk⟩

set_option maxRecDepth 100000 in
set_option maxHeartbeats 2000000 in
theorem offsets_in (n : Nat) (hn : 1 ≤ n) (l Bs n₀ b : Nat) (A : Option Addr) (c : Nat) (xs : List Chk) (f : Fin xs.length → Option Addr × Nat) (J Jx : List (Fin xs.length) → World → Prop) (W : World)
    (hJ : AbidesFrom W.heap.size J)
    (hY : ∀ pre x W1, J pre W1 → pre.length < xs.length → YieldAt Fence.wide (n - 1) Try.prog l (offEnc xs f x) W1 fun e W' =>
      (e = .returned (.bool true) ∧ J (pre ++ [x]) W' ∧ KC n₀ b W1 W') ∨ (e = .returned (.bool false) ∧ Jx (pre ++ [x]) W'))
    (h0 : J [] W) (hBs : At W Bs #[.slice A xs.length c] 22) (hb : b < W.heap.size) (hnb : n₀ ≤ W.heap.size) (hck : CK n₀ W A xs f) (hd : ∀ x ∈ xs, x.data.size ≤ 71400) (hl : xs.length ≤ 4000) :
    CallsIn Fence.wide n Try.prog 37 #[.func (.yield l) #[] #[], .pointer (some ⟨Bs, 0, none⟩)] W fun e W' => (∃ v, e = .returned v) ∧
      ((∃ ys, ys = List.finRange xs.length ∧ J ys W') ∨ (∃ pre, (∃ k, k ≤ xs.length ∧ pre = (List.finRange xs.length).take k) ∧ Jx pre W')) := by
  have HBS := Lib.hid hBs
  have HCK := Lib.hid hck
  have HD := Lib.hid hd
  have HY := Lib.hid hY
  have c0 : W.cell? ⟨Bs, 0, none⟩ = some (.slice A xs.length c) := hBs.cell 0
  have HBL := Lib.hid hBs.lt
  clear hBs hck hd hY
  refine callsIn_of_wp Try.func37 rfl trivial ?_ rfl
  simp only [Try.ntmps37, List.size_toArray, List.length_cons, List.length_nil, Nat.reduceAdd, Nat.reduceSub, Array.replicate_succ, Array.replicate_zero, List.push_toArray, List.append_toArray, List.nil_append, List.cons_append]
  gi_wp2
  gi_loopw [3, 8] (fun a i wr => ∃ k : Nat, k ≤ xs.length ∧ a = .int .i64 (offAt xs k) ∧ i = .int .i64 k ∧ J ((List.finRange xs.length).take k) wr ∧ Hid (KC n₀ b W wr) ∧ Hid (W.heap.size ≤ wr.heap.size))
    (fun _ i _ => xs.length - (intOf i).toNat)
  case atStart => exact ⟨0, Nat.zero_le _, rfl, rfl, h0, Lib.hid (KC.refl _ _ _), Lib.hid (Nat.le_refl _)⟩
  case round =>
    obtain ⟨k, hk, rfl, rfl, hJs, HK, HS⟩ := hrel
    have hoff : offAt xs k ≤ 71404 * k := offAt_leM HD.out k
    by_cases hlt : k < xs.length
    · obtain ⟨g, o, rfl, hg, hrg, _, _⟩ := (HCK.out.below HK.out.below) ⟨k, hlt⟩
      have HRG : Hid (wr.rangeAt g (o + k * 16) (chC (xs[k]).sig (f ⟨k, hlt⟩).1 (xs[k]).labs.length (f ⟨k, hlt⟩).2 (xs[k]).zone (xs[k]).data).toList) := Lib.hid hrg
      have hds := HD.out _ (List.getElem_mem hlt)
      have HSTP := Lib.hid (offAt_step hlt)
      have hsz := HS.out
      clear hrg
      have hYk := fun W1 h => HY.out ((List.finRange xs.length).take k) ⟨k, hlt⟩ W1 h (by rw [finTake_len hk]; exact hlt)
      have HYK := Lib.hid hYk
      clear hYk
      have hEnc : offEnc xs f ⟨k, hlt⟩ = #[.int .i64 (offAt xs k), .agg (chC (xs[k]).sig (f ⟨k, hlt⟩).1 (xs[k]).labs.length (f ⟨k, hlt⟩).2 (xs[k]).zone (xs[k]).data)] := rfl
      rw [hEnc] at HYK
      clear hEnc
      generalize (f ⟨k, hlt⟩).1 = A' at *
      generalize (f ⟨k, hlt⟩).2 = c' at *
      obtain ⟨x, hx⟩ : ∃ x, xs[k] = x := ⟨_, rfl⟩
      rw [hx] at HRG hds HSTP HYK
      clear hx
      gi_wp2_with (first | (refine wpListIn_load_mid rfl 49 (.tmp 10) rfl g (o + k * 16) rfl (chC x.sig A' x.labs.length c' x.zone x.data).toList _ HRG.out Try.underlying49 rfl size_chunk ?_) | (refine wpListIn_store_at rfl 49 (.tmp 5) (.tmp 11) rfl wr.heap.size (chC x.sig A' x.labs.length c' x.zone x.data) rfl rfl 49 _ (At.new _ _ _) size_chunk rfl (chC_one _ _ _ _ _ _) ?_))
      intro w1 HW1
      have hg1 : wr.grownBy w1 none := by rw [HW1.out]; exact grown_new
      have hJ1 : J ((List.finRange xs.length).take k) w1 := hJ _ wr w1 none hJs hg1 (fun r e => by cases e)
      have HX1 : Hid (At w1 wr.heap.size (chC x.sig A' x.labs.length c' x.zone x.data) 49) := Lib.hid (by rw [HW1.out]; exact (At.new _ _ _).row)
      have hbw : Below wr.heap.size wr w1 := ⟨hg1.os, hg1.tape, hg1.output, hg1.size, fun q hq => hg1.block q hq (by simp)⟩
      have HK1 : Hid (KC n₀ b W w1) := Lib.hid (HK.out.trans (KC.ofBelow hbw (by omega)))
      have HS1 : Hid (W.heap.size ≤ w1.heap.size) := Lib.hid (Nat.le_trans HS.out hbw.size)
      obtain ⟨fn, tmps, assign, body, hy, hR⟩ := HYK.out w1 hJ1
      clear HW1 hg1 hbw HYK
      gi_wp2_with (refine wpListIn_load_mid rfl 49 (.tmp 5) rfl wr.heap.size 0 rfl (chC x.sig A' x.labs.length c' x.zone x.data).toList _ (range_at HX1.out) Try.underlying49 rfl size_chunk ?_)
      refine hR.mono ?_
      rintro e W3 (⟨rfl, hJ3, hk3⟩ | ⟨rfl, hJx3⟩)
      · have HK3 := Lib.hid (HK1.out.trans hk3)
        have HX3 := Lib.hid (HX1.out.kc hk3 (by omega) (by decide))
        have HS3 : Hid (W.heap.size ≤ W3.heap.size) := Lib.hid (by have := HX3.out.lt; omega)
        have e15 : W3.cell? ⟨wr.heap.size, 15, none⟩ = some (.string x.data) := HX3.out.cell 15
        have HTK : Hid ((List.finRange xs.length).take k ++ [⟨k, hlt⟩] = (List.finRange xs.length).take (k + 1)) := Lib.hid (finTake_succ hlt).symm
        clear hy hR hk3
        gi_wp2
        go_roundw
        case rel => exact ⟨k + 1, hlt, by rw [HSTP.out]; go_num, by go_num, by rw [← HTK.out]; exact hJ3, HK3, HS3⟩
        case measure => simp [intOf]; omega
      · clear hy hR
        gi_wp2
        refine bodyPost_ret (results_none rfl _ _ _) rfl ?_
        exact ⟨⟨_, rfl⟩, .inr ⟨_, ⟨k + 1, by omega, (finTake_succ hlt).symm⟩, hJx3⟩⟩
    · have hke : k = xs.length := by omega
      subst hke
      gi_wp2
      go_end0
      refine ⟨⟨_, rfl⟩, .inl ⟨_, rfl, ?_⟩⟩
      rw [List.take_of_length_le (by simp)] at hJs
      exact hJs
/-- The iterator's contract. -/
theorem offsets_stops (n : Nat) (hn : 1 ≤ n) (Bs n₀ b : Nat) (A : Option Addr) (c : Nat) (xs : List Chk) (f : Fin xs.length → Option Addr × Nat) (w : World)
    (hBs : At w Bs #[.slice A xs.length c] 22) (hb : b < w.heap.size) (hnb : n₀ ≤ w.heap.size) (hck : CK n₀ w A xs f) (hd : ∀ x ∈ xs, x.data.size ≤ 71400) (hl : xs.length ≤ 4000) :
    SeqStopsK Fence.wide n Try.prog 37 #[.pointer (some ⟨Bs, 0, none⟩)] (offEnc xs f) (KC n₀ b) (fun l => l = List.finRange xs.length) (fun pre => ∃ k, k ≤ xs.length ∧ pre = (List.finRange xs.length).take k) xs.length w := fun l J Jx W hW hJ _ hY h0 =>
  offsets_in n hn l Bs n₀ b A c xs f J Jx W hJ hY h0 (hBs.below hW) (Nat.lt_of_lt_of_le hb hW.size) (Nat.le_trans hnb hW.size) (hck.below (hW.mono hnb)) hd hl
set_option maxHeartbeats 400000 in
/-- 'offsets' itself: a box for the list, and the iterator. -/
theorem offsets_any (A : Option Addr) (k c : Nat) (w : World) :
    Calls Try.prog 20 #[.slice A k c] w fun e w' => e = .returned (.func (.func 37) #[] #[.pointer (some ⟨w.heap.size, 0, none⟩)]) ∧ w' = w.alloc (.cells #[.slice A k c] 22) := by
  go_enter Try.func20, Try.ntmps20
  go_wp2_with fail
  go_ret
  exact ⟨rfl, rfl⟩
theorem ownFrom_kc {β : Type} {n₀ b B : Nat} {w₀ : World} (hn : n₀ ≤ w₀.heap.size) (hB : n₀ ≤ B) : OwnFrom B (fun (_ : β) W => KC n₀ b w₀ W) := fun _ _ _ _ hs hg hr =>
  ⟨hs.below.grown hg (Nat.le_trans hn hs.below.size) (fun k e => Nat.le_trans hB (hr k e).1), fun k c t fz h1 h2 h3 => by
    have h4 := hs.keep k c t fz h1 h2 h3
    rw [hg.block k (Array.getElem?_eq_some_iff.1 h4).1 (fun e => by
      obtain ⟨_, o, h5, h6⟩ := hr k e.symm
      rw [h4] at h5
      injection h5 with h5
      rw [← h5] at h6
      cases h6)]
    exact h4⟩
theorem own_at {β : Type} (b : β → Nat) (t : TypeId) (f : β → Array Value) : Own (fun s W => At W (b s) (f s) t) := fun s _ _ _ hs hg hr =>
  hs.grown hg (fun e => by obtain ⟨o, ho, hc⟩ := hr (b s) e; rw [hs.out] at ho; injection ho with ho; rw [← ho] at hc; cases hc)
def chZ : Array Value := chC 0 none 0 0 Zn.zero ⟨#[]⟩
/-- 'for at, c := range offsets(l)', the body walked once. -/
theorem range_chunks {g : Operand} {ps : Array Tmp} {assign body : Code} {Q : Exit → Act → World → Prop} {a : Act} {w : World} (n₀ b Bs : Nat) (A : Option Addr) (c : Nat) (xs : List Chk) (f : Fin xs.length → Option Addr × Nat)
    (hg : a.eval g = .func (.func 37) #[] #[.pointer (some ⟨Bs, 0, none⟩)]) (hps : ps.size = 2)
    (hBs : At w Bs #[.slice A xs.length c] 22) (hb : b < w.heap.size) (hnb : n₀ ≤ w.heap.size) (hck : CK n₀ w A xs f) (hd : ∀ x ∈ xs, x.data.size ≤ 71400) (hl : xs.length ≤ 4000)
    (G : Fin xs.length → Nat → Array Value → Array Value) (I : List (Fin xs.length) → World → Prop) (hI : OwnFrom w.heap.size I) (hIs : ∀ pre W, I pre W → w.heap.size ≤ W.heap.size) (h0 : I [] w)
    (hassign : ∀ (l : Nat) (x : Fin xs.length) (W : World) (K : Act → World → Prop),
      (∀ W', Hid (W' = (W.alloc (.cells chZ 49)).setRow W.heap.size (chC (xs[x]).sig (f x).1 (xs[x]).labs.length (f x).2 (xs[x]).zone (xs[x]).data)) → K { tmps := G x W.heap.size a.tmps, defers := [] } W') →
      assign.wpIn (Fence.wide.inRound l) 7 Try.prog (Exit.then K (fun _ _ _ => False)) { tmps := (ps.zip (offEnc xs f x)).foldl (fun t (p, v) => t.setIfInBounds p v) a.tmps, defers := [] } W)
    (hbody : ∀ (l : Nat) (pre : List (Fin xs.length)) (x : Fin xs.length) (Bx : Nat) (W : World), I pre W → w.heap.size ≤ Bx → At W Bx (chC (xs[x]).sig (f x).1 (xs[x]).labs.length (f x).2 (xs[x]).zone (xs[x]).data) 49 → pre.length < xs.length →
      body.wpIn (Fence.wide.inRound l) 7 Try.prog (ownPostG w.heap.size (KC n₀ b) I (fun _ _ _ => False) (pre ++ [x]) W) { tmps := G x Bx a.tmps, defers := [] } W)
    (hdone : ∀ (D : Nat) (W : World), w.heap.size ≤ D → I (List.finRange xs.length) W → W.heap[D]? = some (.deferred (some [])) → Q .normal { a with defers := { target := .collected D, args := #[] } :: a.defers } W) :
    (Code.rangeFunc g ps assign body).wp Try.prog Q a w := by
  refine (wpIn_wide (n := 9)).1 ?_
  refine wpIn_rangeFunc_ownH rfl (by decide) (gf := 37) (lb := #[.pointer (some ⟨Bs, 0, none⟩)]) hg trivial (enters_of Try.func37 (by kernel_rfl) rfl)
    (offsets_stops 8 (by decide) Bs n₀ b A c xs f w hBs hb hnb hck hd hl) KC.trans (fun W l o o' hle h hc _ => KC.putObj W l o o' (Nat.le_trans hnb hle) h hc) (Below.refl _ _) (fun _ => by rw [hps]; rfl)
    I (fun _ _ _ => False) hI (fun _ _ _ _ _ h _ _ => h) h0 (fun x a' W => ∃ Bx, w.heap.size ≤ Bx ∧ At W Bx (chC (xs[x]).sig (f x).1 (xs[x]).labs.length (f x).2 (xs[x]).zone (xs[x]).data) 49 ∧ a' = { tmps := G x Bx a.tmps, defers := [] })
    (fun x a' _ X Y row hs hg hr => ?_) ?assign ?body ?done ?stop
  · obtain ⟨Bx, h1, h2, h3⟩ := hs
    exact ⟨Bx, h1, (own_at (β := Unit) (fun _ => Bx) 49 (fun _ => chC (xs[x]).sig (f x).1 (xs[x]).labs.length (f x).2 (xs[x]).zone (xs[x]).data)).from w.heap.size () X Y row h2 hg hr, h3⟩
  case assign =>
    intro l pre x W K hi hK
    refine hassign l x W K fun W' hW' => ?_
    have hgr : W.grownBy W' none := by rw [hW'.out]; exact grown_new
    have hbw : Below W.heap.size W W' := ⟨hgr.os, hgr.tape, hgr.output, hgr.size, fun q hq => hgr.block q hq (by simp)⟩
    have hs := hIs pre W hi
    refine hK _ _ (keeps_of_below hbw) (KC.ofBelow hbw (Nat.le_trans hnb hs)) (hI pre W W' none hi hgr (fun r e => by cases e)) ⟨W.heap.size, hs, ?_, rfl⟩
    rw [hW'.out]
    exact (At.new _ _ _).row
  case body =>
    rintro l pre x a' W _ _ hi ⟨Bx, h1, h2, rfl⟩ hlen
    exact hbody l pre x Bx W hi h1 h2 hlen
  case done =>
    rintro D ys W hD rfl hi hK
    exact hdone D W hD hi hK
  case stop => exact fun _ _ _ _ _ _ h _ => h.elim
end Go.Proofs.Ytoojpfcnekpboaa
