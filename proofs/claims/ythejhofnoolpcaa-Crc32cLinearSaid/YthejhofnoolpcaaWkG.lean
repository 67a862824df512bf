/- Whole arrays in memory: the words of the walks that load and store them. -/
import Derived.Test.YthejhofnoolpcaaWkF
namespace Go.Proofs.Ythejhofnoolpcaa
open Go.RowKit Crc

/-- Block b holds these cells of an array of type t. -/
structure At (W : World) (b : Nat) (c : Array Value) (t : TypeId) : Prop where mk :: (out : W.heap[b]? = some (.cells c t (0, 0)))
theorem At.lt {W : World} {b : Nat} {c : Array Value} {t : TypeId} (h : At W b c t) : b < W.heap.size := (Array.getElem?_eq_some_iff.1 h.out).1
theorem At.cell {W : World} {b : Nat} {c : Array Value} {t : TypeId} (h : At W b c t) (i : Nat) : W.cell? ⟨b, i, none⟩ = c[i]? := cell_of_row W b i c t (0, 0) h.out
theorem At.free {W : World} {b : Nat} {c : Array Value} {t : TypeId} (h : At W b c t) (i : Nat) : W.frozen? ⟨b, i, none⟩ = false := by simp [World.frozen?, h.out]
theorem At.new (W : World) (c : Array Value) (t : TypeId) : At (W.alloc (.cells c t)) W.heap.size c t := ⟨heap_alloc_new _ _⟩
theorem At.alloc {W : World} {b : Nat} {c : Array Value} {t : TypeId} (h : At W b c t) (o : Obj) : At (W.alloc o) b c t := ⟨by rw [Below.heap_alloc _ _ _ h.lt]; exact h.out⟩
theorem At.below {W W1 : World} {b : Nat} {c : Array Value} {t : TypeId} (h : At W b c t) (hb : Below W.heap.size W W1) : At W1 b c t := ⟨by rw [hb.block b h.lt]; exact h.out⟩
theorem At.set {W : World} {b : Nat} {c : Array Value} {t : TypeId} (h : At W b c t) (i : Nat) (v : Value) : At (W.setCell ⟨b, i, none⟩ v) b (c.setIfInBounds i v) t := ⟨heap_setCell_same W b i c t v h.out⟩
theorem At.other {W : World} {b : Nat} {c : Array Value} {t : TypeId} (h : At W b c t) {a : Addr} (v : Value) (hne : b ≠ a.block) : At (W.setCell a v) b c t := ⟨by rw [heap_setCell_other W a b v hne]; exact h.out⟩
theorem setRow_other (W : World) (g k : Nat) (c : Array Value) (h : k ≠ g) : (W.setRow g c).heap[k]? = W.heap[k]? := by
  simp only [World.setRow]
  rw [Array.getElem?_modify, if_neg (Ne.symm h)]
theorem At.row {W : World} {b : Nat} {c : Array Value} {t : TypeId} (h : At W b c t) (c' : Array Value) : At (W.setRow b c') b c' t := ⟨setRow_heap W b c c' t (0, 0) h.out⟩
theorem At.rowOther {W : World} {b : Nat} {c : Array Value} {t : TypeId} (h : At W b c t) {g : Nat} (c' : Array Value) (hne : b ≠ g) : At (W.setRow g c') b c t := ⟨by rw [setRow_other W g b c' hne]; exact h.out⟩
theorem below_row {B : Nat} {w W : World} (h : Below B w W) {g : Nat} (hg : B ≤ g) (c : Array Value) : Below B w (W.setRow g c) :=
  ⟨h.os, h.tape, h.output, by rw [setRow_size]; exact h.size, fun k hk => by rw [setRow_other W g k c (by omega)]; exact h.block k hk⟩

/-- Every cell of an array of registers is one cell. -/
theorem tab_one (n : Nat) (f : Nat → BitVec 32) (k : Nat) : (tab n f k).all (·.oneCell') = true := by
  rw [Array.all_eq_true]
  intro i hi
  have h := tab_get n f k i (by rw [tab_size] at hi; exact hi)
  rw [Array.getElem?_eq_getElem hi] at h
  rw [Option.some.inj h]
  rfl
theorem tab_congr (n : Nat) (f g : Nat → BitVec 32) (k : Nat) (h : ∀ i, i < n → f i = g i) : tab n f k = tab n g k := by
  apply Array.ext_getElem?
  intro i
  by_cases hi : i < n
  · rw [tab_get n f k i hi, tab_get n g k i hi, h i hi]
  · rw [Array.getElem?_eq_none (by rw [tab_size]; omega), Array.getElem?_eq_none (by rw [tab_size]; omega)]

theorem info46 : (Try.prog.info? 46).map (·.size) = some 32 := by kernel_rfl
theorem info45 : (Try.prog.info? 45).map (·.size) = some 32 := by kernel_rfl

section
variable {ops : Array Oper} {rest : List Oper} {o : Oper} {a : Act} {W : World} {Q : Exit → Act → World → Prop}
/-- The operation that writes slot N: a whole array is loaded. -/
theorem arm_load (N : Tmp) (_hN : o.dst = some N) (hgd : o.guard = none) (ty : TypeId) (x : Operand) (ho : o.op = .load ty x) (g : Nat) (hx : a.eval x = .pointer (some ⟨g, 0, none⟩)) {c : Array Value} {t : TypeId} (h : At W g c t)
    (n : Nat) (e : TypeId) (hu : Try.prog.underlying ty = some (.array n e)) (hi : (Try.prog.info? ty).map (·.size) = some c.size)
    (hk : wpList Try.prog ops Q rest (a.put o.dst (.agg c)) W) : wpList Try.prog ops Q (o :: rest) a W :=
  wpList_load_row hgd ty x ho g hx t c (0, 0) _ h.out hu rfl hi hk
/-- A whole array is stored. -/
theorem arm_store (p : Tmp) (v : Operand) (ty : TypeId) (ho : o.op = .store ty (.tmp p) v) (hgd : o.guard = none) (g : Nat) (hx : a.eval (.tmp p) = .pointer (some ⟨g, 0, none⟩)) {c old : Array Value} {t : TypeId} (hy : a.eval v = .agg c)
    (h : At W g old t) (hi : (Try.prog.info? ty).map (·.size) = some c.size) (hs : old.size = c.size) (h1 : c.all (·.oneCell') = true)
    (hk : wpList Try.prog ops Q rest (a.put o.dst undef) (W.setRow g c)) : wpList Try.prog ops Q (o :: rest) a W :=
  wpList_store_row hgd ty (.tmp p) v ho g c hx hy t old h.out hi hs h1 hk
end

section
theorem size32 (f : Nat → BitVec 32) (k : Nat) : (Try.prog.info? 46).map (·.size) = some (tab 32 f k).size := by rw [tab_size]; exact info46
theorem size32R (f : Nat → BitVec 32) (k : Nat) : (Try.prog.info? 45).map (·.size) = some (tab 32 f k).size := by rw [tab_size]; exact info45
theorem zero32 (f : Nat → BitVec 32) : tab 32 f 0 = #[.int .u32 0, .int .u32 0, .int .u32 0, .int .u32 0, .int .u32 0, .int .u32 0, .int .u32 0, .int .u32 0, .int .u32 0, .int .u32 0, .int .u32 0, .int .u32 0, .int .u32 0, .int .u32 0, .int .u32 0, .int .u32 0,
    .int .u32 0, .int .u32 0, .int .u32 0, .int .u32 0, .int .u32 0, .int .u32 0, .int .u32 0, .int .u32 0, .int .u32 0, .int .u32 0, .int .u32 0, .int .u32 0, .int .u32 0, .int .u32 0, .int .u32 0, .int .u32 0] := (tab_zero 32 f).trans rfl
end

theorem run_index46 (f : Nat → BitVec 32) (k : Nat) (h : k < 32) (W : World) : (Instr.index 46 (.agg (tab 32 f 32)) (.int .i64 (k : Int))).run Try.prog W = .ok (.int .u32 (u (f k))) W := by
  have g1 := tab_get 32 f 32 k h
  rw [if_pos h] at g1
  have hs : ∀ w, (sizeOf 22).run Try.prog w = .ok 1 w := fun w => by kernel_rfl
  have ha : ∀ w, (isAgg 22).run Try.prog w = .ok false w := fun w => by kernel_rfl
  unfold Instr.index
  simp [Sem.run_bind, asIntOf, run_underlying Try.underlying46, hs, part, ha, g1]
  omega
/-- What squared has in memory behind k rounds. -/
structure Sq (B : Nat) (f : Nat → BitVec 32) (k : Nat) (w W : World) : Prop where
  a : At W B (tab 32 f 32) 46
  b : At W (B + 1) (tab 32 f 0) 46
  c : At W (B + 1 + 1) (tab 32 (fun i => app f 32 (f i)) k) 46
  h : Below B w W

set_option maxHeartbeats 400000 in
theorem squared_any (f : Nat → BitVec 32) (w : World) :
    Calls Try.prog 29 #[.agg (tab 32 f 32)] w fun e w' => e = .returned (.agg (tab 32 (fun i => app f 32 (f i)) 32)) ∧ Below w.heap.size w w' := by
  go_enter Try.func29, Try.ntmps29
  go_wp2_with ((with_reducible refine arm_load 6 rfl rfl 46 (.tmp 1) rfl w.heap.size rfl (c := tab 32 f 32) (t := 46) ?c1 32 22 Try.underlying46 (size32 f 32) ?_); (case c1 => exact ((At.new _ _ _).alloc _).alloc _))
  go_loopw [7] (fun i wr => ∃ k : Nat, k ≤ 32 ∧ i = .int .i64 k ∧ Sq w.heap.size f k w wr) (fun i _ => 32 - (intOf i).toNat)
  case atStart => 
    refine ⟨0, Nat.zero_le _, rfl, ⟨((At.new _ _ _).alloc _).alloc _, ?_, ?_, (((Below.refl _ _).alloc (Nat.le_refl _) _).alloc (by simp) _).alloc (by simp; omega) _⟩⟩
    · have := (At.new (w.alloc (.cells (tab 32 f 32) 46)) (tab 32 f 0) 46).alloc (.cells (tab 32 f 0) 46)
      rw [zero32] at this ⊢
      simpa using this
    · have := (At.new ((w.alloc (.cells (tab 32 f 32) 46)).alloc (.cells (tab 32 f 0) 46)) (tab 32 (fun i => app f 32 (f i)) 0) 46)
      rw [zero32, zero32] at this 
      rw [zero32]
      simpa using this
  case round =>
    obtain ⟨k, hk, rfl, hsq⟩ := hrel
    by_cases hlt : k < 32
    · have hix := run_index46 f k hlt
      have g3 := tab_get 32 (fun i => app f 32 (f i)) k k hlt
      have H := Lib.hid (tab_set 32 (fun i => app f 32 (f i)) k hlt)
      go_wp2_with (first | (with_reducible refine arm_load 12 rfl rfl 46 (.tmp 1) rfl w.heap.size rfl (c := tab 32 f 32) (t := 46) hsq.a 32 22 Try.underlying46 (size32 f 32) ?_) | (go_at_call 28; refine (applied_any f (f k) wr).mono ?_; rintro e w1 ⟨rfl, hb⟩; (have c1 := (hsq.c.below hb).cell k); (have c2 := (hsq.c.below hb).free k); rw [g3] at c1))
      refine ⟨⟨k + 1, by omega, by go_num, ⟨(hsq.a.below hb).other _ (by show w.heap.size ≠ w.heap.size + 1 + 1; omega), (hsq.b.below hb).other _ (by show w.heap.size + 1 ≠ w.heap.size + 1 + 1; omega), ?_, (hsq.h.trans (hb.mono (by have := hsq.a.lt; omega))).setCell (by show w.heap.size ≤ w.heap.size + 1 + 1; omega) _⟩⟩, by simp [intOf]; omega⟩
      have h1 := (hsq.c.below hb).set k (.int .u32 (u (app f 32 (f k))))
      rw [H.out] at h1
      exact h1
    · obtain rfl : k = 32 := by omega
      go_wp2_with (first | (with_reducible refine arm_load 17 rfl rfl 46 (.tmp 3) rfl (w.heap.size + 1 + 1) rfl (c := tab 32 (fun i => app f 32 (f i)) 32) (t := 46) hsq.c 32 22 Try.underlying46 (size32 _ 32) ?_) | (with_reducible refine arm_store 2 (.tmp 17) 46 rfl rfl (w.heap.size + 1) rfl (c := tab 32 (fun i => app f 32 (f i)) 32) rfl (t := 46) hsq.b (size32 _ 32) (by rw [tab_size, tab_size]) (tab_one _ _ _) ?_))
      exact bodyPost_ret (results_cell_row (p := 2) (ty := 46) Try.results29 _ _ (w.heap.size + 1) 46 _ (0, 0) _ rfl (hsq.b.row _).out Try.underlying46 rfl (size32 _ 32)) rfl ⟨rfl, below_row hsq.h (by omega) _⟩

/-- The operator that shifts by one byte, and its powers. -/
def pw (n : Nat) (i : Nat) : BitVec 32 := sh n (one i)
theorem u_one (k : Nat) : (2 : Int) ^ k % 4294967296 = u (one k) := by
  unfold u one
  rw [BitVec.toNat_ofNat]
  have : (2 : Int) ^ k = ((2 ^ k : Nat) : Int) := by simp
  rw [this]
  simp
theorem shifted_byte (k : Nat) (w : World) :
    Calls Try.prog 34 #[.int .u32 (u (one k)), .int .i64 8] w fun e w' => e = .returned (.int .u32 (u (pw 8 k))) ∧ w' = w :=
  shifted_any (one k) 8 (by decide) w
/-- What byteOperator has in memory behind k rounds. -/
structure Bo (B : Nat) (k : Nat) (w W : World) : Prop where
  a : At W B (tab 32 (pw 8) 0) 46
  b : At W (B + 1) (tab 32 (pw 8) k) 46
  h : Below B w W

set_option maxHeartbeats 400000 in
theorem byteOperator_any (w : World) :
    Calls Try.prog 27 #[] w fun e w' => e = .returned (.agg (tab 32 (pw 8) 32)) ∧ Below w.heap.size w w' := by
  go_enter Try.func27, Try.ntmps27
  go_wp2_with fail
  go_loopw [3] (fun i wr => ∃ k : Nat, k ≤ 32 ∧ i = .int .i64 k ∧ Bo w.heap.size k w wr) (fun i _ => 32 - (intOf i).toNat)
  case atStart => 
    refine ⟨0, Nat.zero_le _, rfl, ⟨?_, ?_, ((Below.refl _ _).alloc (Nat.le_refl _) _).alloc (by simp) _⟩⟩
    · have := (At.new w (tab 32 (pw 8) 0) 46).alloc (.cells (tab 32 (pw 8) 0) 46)
      rw [zero32] at this ⊢
      simpa using this
    · have := At.new (w.alloc (.cells (tab 32 (pw 8) 0) 46)) (tab 32 (pw 8) 0) 46
      rw [zero32] at this ⊢
      simpa using this
  case round =>
    obtain ⟨k, hk, rfl, hbo⟩ := hrel
    by_cases hlt : k < 32
    · have H := Lib.hid (tab_set 32 (pw 8) k hlt)
      have g3 := tab_get 32 (pw 8) k k hlt
      have c1 := hbo.b.cell k
      rw [g3] at c1
      clear g3
      have c2 := hbo.b.free k
      go_wp2_with fail
      rw [u_one]
      refine (shifted_byte k _).mono ?_
      rintro e w' ⟨rfl, rfl⟩
      go_wp2_with fail
      refine ⟨⟨k + 1, by omega, by go_num, ⟨hbo.a.other _ (by show w.heap.size ≠ w.heap.size + 1; omega), ?_, hbo.h.setCell (by show w.heap.size ≤ w.heap.size + 1; omega) _⟩⟩, by simp [intOf]; omega⟩
      have h1 := hbo.b.set k (.int .u32 (u (pw 8 k)))
      rw [H.out] at h1
      exact h1
    · obtain rfl : k = 32 := by omega
      go_wp2_with (first | (with_reducible refine arm_load 12 rfl rfl 46 (.tmp 1) rfl (w.heap.size + 1) rfl (c := tab 32 (pw 8) 32) (t := 46) hbo.b 32 22 Try.underlying46 (size32 _ 32) ?_) | (with_reducible refine arm_store 0 (.tmp 12) 46 rfl rfl w.heap.size rfl (c := tab 32 (pw 8) 32) rfl (t := 46) hbo.a (size32 _ 32) (by rw [tab_size, tab_size]) (tab_one _ _ _) ?_))
      exact bodyPost_ret (results_cell_row (p := 0) (ty := 46) Try.results27 _ _ w.heap.size 46 _ (0, 0) _ rfl (hbo.a.row _).out Try.underlying46 rfl (size32 _ 32)) rfl ⟨rfl, below_row hbo.h (Nat.le_refl _) _⟩
end Go.Proofs.Ythejhofnoolpcaa
