/- Walks: small functions of both packages. Rows of structures that a call makes: how they grow. Walks: the items of a block (the reference's). -/
import Derived.Test.YtoojpfcnekpboaaGreatZAN
import Derived.Test.YtoojpfcnekpboaaGreatZAP
import Derived.Test.YtoojpfcnekpboaaGreatZAQ
import Derived.Test.YtoojpfcnekpboaaGreatZAD
import Derived.Deep.MidRow
namespace Go.Proofs.YtoojpfcnekpboaaGreat
open Go.RowKit

theorem put_any (s : ByteArray) (n : Int) (w : World) (hs : s.size ≤ 1000000000) (h0 : 0 ≤ n) (h1 : n ≤ 1152921504606846976) :
    Calls Tryz.prog 133 #[.string s, .int .i64 n] w fun e w' => e = .returned (.string (s ++ str (vE n.toNat))) ∧ Below w.heap.size w w' := by
  have HP : Hid (pairV (appR s n) = .tuple #[.string (s ++ str (vE n.toNat)), .int .i64 0]) := Lib.hid (by unfold pairV appR; rw [if_neg (by unfold maxI; omega)])
  have HA := Lib.hid (append01_any s n w hs)
  clear hs h0 h1
  go_enter Tryz.func133, Tryz.ntmps133
  go_wp2_with fail
  refine HA.out.mono ?_
  rintro e w' ⟨rfl, hb⟩
  have HB := Lib.hid hb
  clear hb
  rw [HP.out]
  go_wp2_with fail
  go_ret
  exact ⟨rfl, HB.out⟩

theorem four_str (n : Int) : strOfNums [n % 256, n / 256 % 256, n / 65536 % 256, n / 16777216 % 256] = str (four4 n) := rfl
set_option maxRecDepth 100000 in
set_option maxHeartbeats 1000000 in
theorem four_any (n : Int) (w : World) (h0 : 0 ≤ n) (h1 : n < 4294967296) :
    Calls Tryz.prog 65 #[.int .i64 n] w fun e w' => e = .returned (.string (str (four4 n))) ∧ Below w.heap.size w w' := by
  have hcv := CR.conv4 (n % 256) (n / 256 % 256) (n / 65536 % 256) (n / 16777216 % 256) w
  rw [four_str, show n / 16777216 % 256 = n / 16777216 by omega] at hcv
  go_enter Tryz.func65, Tryz.ntmps65
  go_wp2_with fail
  go_ret
  exact ⟨rfl, (Below.refl _ _).alloc (Nat.le_refl _) _⟩

/-! ### Great -/
theorem chunk_cells {w : World} {b o : Nat} {s : Int} {A : Option Addr} {n c : Nat} {z : Zn} {d : ByteArray} (h : w.rangeAt b o (chC s A n c z d).toList) :
    w.cell? ⟨b, o, none⟩ = some (.int .i64 s) ∧ w.cell? ⟨b, o + 1, none⟩ = some (.slice A n c) ∧ w.cell? ⟨b, o + 15, none⟩ = some (.string d) := ⟨h 0 _ rfl, h 1 _ rfl, h 15 _ rfl⟩
end Go.Proofs.YtoojpfcnekpboaaGreat

namespace Go.Proofs.YtoojpfcnekpboaaGreat
open Go.RowKit

def flatS (xs : List (Array Value)) : List Value := xs.flatMap (·.toList)
theorem flatS_snoc (xs : List (Array Value)) (x : Array Value) : flatS (xs ++ [x]) = flatS xs ++ x.toList := by simp [flatS]
theorem flatS_len {s : Nat} : ∀ {xs : List (Array Value)}, (∀ x ∈ xs, x.size = s) → (flatS xs).length = xs.length * s
  | [], _ => by simp [flatS]
  | x :: xs, h => by
    have h1 := h x (by simp)
    have h2 := flatS_len (xs := xs) fun y hy => h y (by simp [hy])
    unfold flatS at h2 ⊢
    rw [List.flatMap_cons, List.length_append, List.length_cons, h2, Array.length_toList, h1, Nat.add_mul, Nat.one_mul, Nat.add_comm]
theorem flatS_get {s : Nat} : ∀ {xs : List (Array Value)}, (∀ x ∈ xs, x.size = s) → ∀ (i j : Nat) (x : Array Value), xs[i]? = some x → j < s → (flatS xs)[i * s + j]? = x[j]?
  | [], _, i, j, x, hx, _ => by simp at hx
  | y :: xs, h, 0, j, x, hx, hj => by
    simp at hx
    subst hx
    unfold flatS
    rw [List.flatMap_cons, Nat.zero_mul, Nat.zero_add, List.getElem?_append_left (by rw [Array.length_toList, h y (by simp)]; exact hj)]
    simp
  | y :: xs, h, i + 1, j, x, hx, hj => by
    have hs := h y (by simp)
    have ih := flatS_get (xs := xs) (fun z hz => h z (by simp [hz])) i j x (by simpa using hx) hj
    unfold flatS at ih ⊢
    have e : (i + 1) * s + j = s + (i * s + j) := by rw [Nat.add_mul, Nat.one_mul]; omega
    rw [List.flatMap_cons, e, List.getElem?_append_right (by rw [Array.length_toList, hs]; omega), Array.length_toList, hs, Nat.add_sub_cancel_left]
    exact ih
/-- A row of structures of the call's own. -/
structure SR (W : World) (E s : Nat) (A : Option Addr) (n c : Nat) (xs : List (Array Value)) (w : World) : Prop where
  len : xs.length = n
  size : ∀ x ∈ xs, x.size = s
  row : w.ownsRow W.heap.size E s (.slice A n c) n (flatS xs)
  below : Below W.heap.size W w
section
variable {W w : World} {E s : Nat} {A : Option Addr} {n c : Nat} {xs : List (Array Value)}
theorem SR.nil {W w : World} (E s : Nat) (h : Below W.heap.size W w) : SR W E s none 0 0 [] w := ⟨rfl, fun x hx => by simp at hx, World.ownsRow_nil _ _ _ _, h⟩
theorem SR.empty {W w : World} (E s : Nat) (h : Below W.heap.size W w) : SR W E s (some ⟨w.heap.size, 0, none⟩) 0 0 [] (w.alloc (.cells #[] E)) := by
  refine ⟨rfl, fun x hx => by simp at hx, ?_, h.alloc h.size _⟩
  have := World.ownsRow_lit (base := W.heap.size) (e := E) (size := s) w #[] 0 h.size (by unfold maxLen; omega) (by simp)
  exact this
theorem SR.lt (h : SR W E s A n c xs w) : ∀ k, A.map (·.block) = some k → W.heap.size ≤ k ∧ k < w.heap.size := fun k hk => h.row.lt k (by rw [own_slice]; exact hk)
theorem SR.le (h : SR W E s A n c xs w) : ∀ k, A.map (·.block) = some k → W.heap.size ≤ k := fun k hk => (h.lt k hk).1
theorem SR.later (h : SR W E s A n c xs w) {w' : World} (hb : Below w.heap.size w w') : SR W E s A n c xs w' := by
  refine ⟨h.len, h.size, ?_, h.below.trans (hb.mono h.below.size)⟩
  exact h.row.kept (row := none) ⟨hb.os, hb.tape, hb.output, hb.size, fun k hk _ => hb.block k hk⟩ (by
    rcases hq : (Value.slice A n c).ownBlock with _ | k
    · exact .inl rfl
    · exact .inr (by simp))
theorem SR.alloc (h : SR W E s A n c xs w) (o : Obj) : SR W E s A n c xs (w.alloc o) := h.later ((Below.refl _ _).alloc (Nat.le_refl _) _)
theorem SR.drewN (h : SR W E s A n c xs w) (k : Nat) : SR W E s A n c xs (w.drewN k) := h.later (bN (Below.refl _ _) k)
theorem SR.cap (h : SR W E s A n c xs w) : n ≤ c := by
  rcases h.row.2 with ⟨e, h0⟩ | ⟨g, cap, cur, e, _, _, hc, _⟩
  · injection e with _ _ e; omega
  · injection e with _ _ e; omega
/-- The row read. -/
theorem SR.rd (h : SR W E s A n c xs w) : RdIn w.heap.size w s A xs := by
  intro k hk
  rcases h.row.2 with ⟨_, h0⟩ | ⟨g, cap, cur, e, hg, hb, hnc, _, hcs, htk⟩
  · have := h.len; omega
  · injection e with e1 _ _
    refine ⟨g, 0, e1, (Array.getElem?_eq_some_iff.1 hb).1, fun j hj => ?_⟩
    rw [Nat.zero_add]
    have h3 := flatS_get h.size k j xs[k] (List.getElem?_eq_getElem hk) hj
    have h4 := h.row.cells (g := g) (by rw [own_slice, e1]; rfl) (k * s + j)
    rcases hx : (xs[k])[j]? with _ | u
    · rw [Array.getElem?_eq_none_iff, h.size _ (List.getElem_mem hk)] at hx
      omega
    · rw [hx] at h3
      have h5 := h4 u h3
      rw [Addr.add_mid] at h5
      simpa using h5
end
/-- append of one structure that was just laid. -/
theorem wpList_elem {ops : Array Oper} {rest : List Oper} {o : Oper} {a : Act} {Q : Exit → Act → World → Prop} {W w0 : World} {A : Option Addr} {n c : Nat} {xs : List (Array Value)} (hgd : o.guard = none) (y x : Operand)
    (T E : TypeId) (i0 : TypeInfo) (z : Value) (s bytes : Nat) (hT : Tryz.prog.underlying T = some (.slice E)) (hi : Tryz.prog.info? E = some i0) (hz0 : i0.zero = some z) (hz1 : i0.size = s) (hz2 : i0.bytes = bytes) (hz3 : z.cells.size = s) (hs0 : 0 < s)
    (ho : o.op = .call { callee := .builtin .append, args := #[y, x], argTypes := #[T, T] }) (h : SR W E s A n c xs w0) (v : Array Value) (hv : v.size = s) (hv1 : v.all (·.oneCell') = true)
    (hs : a.eval y = .slice A n c) (hx : a.eval x = .slice (some ⟨w0.heap.size, 0, none⟩) 1 1) (hl : n + 1 ≤ 1000000) (hby : bytes ≤ 100000)
    (K : ∀ A' n' c' l' w', Hid (l' = xs ++ [v]) → SR W E s A' n' c' l' w' → Gro w0 w' A A' → wpList Tryz.prog ops Q rest (a.put o.dst (.slice A' n' c')) w') :
    wpList Tryz.prog ops Q (o :: rest) a (w0.alloc (.cells v E)) := by
  have hB : W.heap.size ≤ (w0.alloc (.cells v E)).heap.size := by have := h.below.size; simp; omega
  have hb2 : (n + 1) * bytes ≤ 140737488355328 := by
    have := Nat.mul_le_mul hl hby
    omega
  refine wpList_append_own_at _ hgd y x T ho W.heap.size E i0 z s bytes hT hi hz0 hz1 hz2 hz3 hs0 (.slice A n c) n (flatS xs) hs (h.row.alloc _) ⟨w0.heap.size, 0, none⟩ 1 1 v.toList hx (by rw [Array.length_toList, hv, Nat.one_mul])
      (World.news_of_block (cs := v) (t := E) (fr := (0, 0)) (heap_alloc_new _ _)) (fun u hu => (Array.all_eq_true_iff_forall_mem.1 hv1) u (by simpa using hu)) (by unfold maxLen; omega) hb2 hB ?_
  intro v' w' hr hg _ hw
  rw [← flatS_snoc] at hr
  have hr0 := hr
  have hbl : Below W.heap.size W w' := (h.below.alloc h.below.size _).grown hg hB (fun k hk => h.le k (by rw [own_slice] at hk; exact hk))
  rcases hr.2 with ⟨_, h0⟩ | ⟨g, cap, cur, rfl, _⟩
  · omega
  · refine K (some ⟨g, 0, none⟩) (n + 1) cap _ w' (Lib.hid rfl) ⟨by rw [List.length_append, h.len]; rfl, fun q hq => ?_, hr0, hbl⟩ (Gro.ofAlloc ⟨by rw [own_slice] at hg; exact hg, ?_⟩)
    · rcases List.mem_append.1 hq with hq | hq
      · exact h.size q hq
      · rw [List.mem_singleton] at hq; rw [hq]; exact hv
    · rw [own_slice, own_slice] at hw
      rcases hw with hw | hw
      · exact .inl hw
      · exact .inr ⟨_, hw, Nat.le_refl _⟩
end Go.Proofs.YtoojpfcnekpboaaGreat

namespace Go.Proofs.YtoojpfcnekpboaaGreat
open Go.RowKit

/-! ### Cells of items -/
def itC (s : Int) (A : Option Addr) (n c : Nat) (z : Zn) (o q : Int) : Array Value := #[.int .i64 s, .slice A n c, .int .i64 z.count, .int .i64 z.minT, .int .i64 z.maxT, .int .i64 z.minV, .int .i64 z.maxV, .int .u32 z.b0, .int .u32 z.b1, .int .u32 z.b2, .int .u32 z.b3, .int .u32 z.b4, .int .u32 z.b5, .int .u32 z.b6, .int .u32 z.b7, .int .i64 o, .int .i64 q]
theorem itC_size (s : Int) (A : Option Addr) (n c : Nat) (z : Zn) (o q : Int) : (itC s A n c z o q).size = 17 := rfl
theorem itC_one (s : Int) (A : Option Addr) (n c : Nat) (z : Zn) (o q : Int) : ((itC s A n c z o q).all fun x => x.oneCell') = true := by simp [itC, Value.oneCell']
theorem size_item : (Tryz.prog.info? 52).map (·.size) = some 17 := by kernel_rfl
def ItmV (B : Nat) (w : World) (cs : Array Value) (x : Itm) : Prop := ∃ (A : Option Addr) (c : Nat), cs = itC x.sig A x.labs.length c x.zone x.off x.size ∧ LabsIn B w A x.labs ∧ x.labs.length ≤ c
theorem ItmV.same {B : Nat} {w w' : World} {cs : Array Value} {x : Itm} (h : ItmV B w cs x) (hc : ∀ b, b < B → w'.heap[b]? = w.heap[b]?) : ItmV B w' cs x := by
  obtain ⟨A, c, h1, h2, h3⟩ := h
  exact ⟨A, c, h1, h2.same hc, h3⟩
theorem ItmV.mono {B B' : Nat} {w : World} {cs : Array Value} {x : Itm} (h : ItmV B w cs x) (hB : B ≤ B') : ItmV B' w cs x := by
  obtain ⟨A, c, h1, h2, h3⟩ := h
  exact ⟨A, c, h1, h2.mono hB, h3⟩
/-- Rows that are items. -/
def ItmVs (B : Nat) (w : World) (vs : List (Array Value)) (xs : List Itm) : Prop := ∀ k (h : k < vs.length) (h' : k < xs.length), ItmV B w vs[k] xs[k]
def ItmsIn (B : Nat) (w : World) (A : Option Addr) (xs : List Itm) : Prop := ∃ vs : List (Array Value), vs.length = xs.length ∧ RdIn B w 17 A vs ∧ ItmVs B w vs xs
section
variable {B B' : Nat} {w w' : World} {A : Option Addr} {xs : List Itm}
theorem ItmsIn.same (h : ItmsIn B w A xs) (hc : ∀ b, b < B → w'.heap[b]? = w.heap[b]?) : ItmsIn B w' A xs := by
  obtain ⟨vs, h1, h2, h3⟩ := h
  exact ⟨vs, h1, h2.same hc, fun k a b => (h3 k a b).same hc⟩
theorem ItmsIn.below (h : ItmsIn B w A xs) (hb : Below B w w') : ItmsIn B w' A xs := h.same fun b hlt => hb.block b hlt
theorem ItmsIn.mono (h : ItmsIn B w A xs) (hB : B ≤ B') : ItmsIn B' w A xs := by
  obtain ⟨vs, h1, h2, h3⟩ := h
  exact ⟨vs, h1, h2.mono hB, fun k a b => (h3 k a b).mono hB⟩
theorem ItmsIn.get (h : ItmsIn B w A xs) (k : Nat) (hk : k < xs.length) : ∃ b o A' c', A = some ⟨b, o, none⟩ ∧ b < B ∧ Hid (w.rangeAt b (o + k * 17) (itC (xs[k]).sig A' (xs[k]).labs.length c' (xs[k]).zone (xs[k]).off (xs[k]).size).toList) ∧ Hid (LabsIn B w A' (xs[k]).labs) ∧ Hid ((xs[k]).labs.length ≤ c') := by
  obtain ⟨vs, h1, h2, h3⟩ := h
  obtain ⟨b, o, e, hb, hc⟩ := h2 k (by omega)
  obtain ⟨A', c', e2, h4, h5⟩ := h3 k (by omega) hk
  refine ⟨b, o, A', c', e, hb, Lib.hid fun j v hj => ?_, Lib.hid h4, Lib.hid h5⟩
  have hj' : j < 17 := by
    have := (List.getElem?_eq_some_iff.1 hj).1
    rw [Array.length_toList, itC_size] at this
    exact this
  rw [hc j hj', e2]
  simpa using hj
end
theorem itmFrom_get : ∀ (a : Int) (xs : List Chk) (k : Nat) (h : k < xs.length), (itmFrom a xs)[k]? = some ⟨(xs[k]).sig, (xs[k]).labs, (xs[k]).zone, a + (offAt xs k : Int), (xs[k]).data.size + 4⟩
  | _, [], k, h => by simp at h
  | a, x :: r, 0, h => by unfold itmFrom offAt; simp
  | a, x :: r, k + 1, h => by
    have ih := itmFrom_get (a + (x.data.size + 4)) r k (by simpa using h)
    unfold itmFrom
    rw [List.getElem?_cons_succ, ih]
    unfold offAt
    simp only [List.getElem_cons_succ, List.take_succ_cons, List.map_cons, List.sum_cons]
    congr 2
    omega
theorem offAt_step {xs : List Chk} {k : Nat} (h : k < xs.length) : offAt xs (k + 1) = offAt xs k + ((xs[k]).data.size + 4) := by
  unfold offAt
  rw [List.take_succ_eq_append_getElem h, List.map_append, List.sum_append]
  simp
theorem offAt_leM {xs : List Chk} (h : ∀ x ∈ xs, x.data.size ≤ 71400) : ∀ k, offAt xs k ≤ 71404 * k := by
  intro k
  induction k with
  | zero => simp [offAt]
  | succ k ih =>
    by_cases hk : k < xs.length
    · rw [offAt_step hk]
      have := h _ (List.getElem_mem hk)
      omega
    · have e : offAt xs (k + 1) = offAt xs k := by unfold offAt; rw [List.take_of_length_le (by omega), List.take_of_length_le (by omega)]
      omega
theorem offAt_le {xs : List Chk} (h : ∀ x ∈ xs, x.data.size ≤ 600) : ∀ k, offAt xs k ≤ 604 * k := by
  intro k
  induction k with
  | zero => simp [offAt]
  | succ k ih =>
    by_cases hk : k < xs.length
    · rw [offAt_step hk]
      have := h _ (List.getElem_mem hk)
      omega
    · have e : offAt xs (k + 1) = offAt xs k := by unfold offAt; rw [List.take_of_length_le (by omega), List.take_of_length_le (by omega)]
      omega
theorem ItmVs.snoc {B : Nat} {w : World} {vs : List (Array Value)} {xs : List Itm} {v : Array Value} {y : Itm} (h : ItmVs B w vs xs) (hy : xs[vs.length]? = some y) (hv : ItmV B w v y) : ItmVs B w (vs ++ [v]) xs := fun k h1 h2 => by
  by_cases hk : k < vs.length
  · rw [List.getElem_append_left hk]
    exact h k hk h2
  · have : k = vs.length := by rw [List.length_append] at h1; simp at h1; omega
    subst this
    rw [List.getElem_append_right (Nat.le_refl _)]
    have e : xs[vs.length] = y := by rw [List.getElem?_eq_getElem h2] at hy; exact Option.some.inj hy
    simp only [Nat.sub_self, List.getElem_cons_zero]
    rw [e]
    exact hv
theorem info_itemS : (Tryz.prog.info? 52).map (fun i => (i.zero, i.size, i.bytes)) = some (some (.agg (itC 0 none 0 0 Zn.zero 0 0)), 17, 120) := by kernel_rfl
theorem zero_itemS : (Value.agg (itC 0 none 0 0 Zn.zero 0 0)).cells.size = 17 := rfl

end Go.Proofs.YtoojpfcnekpboaaGreat
