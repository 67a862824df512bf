/- Rows of bytes that a call makes: how they grow. Rows of structures that a call makes: how they grow. -/
import Derived.Test.YthckgmbadmilfaaGreatMAG
import Derived.Lib.AppendStr
import Derived.Deep.AppendLies
import Derived.Maps.AppendAt
import Derived.Deep.MidRow
namespace Go.Proofs.YthckgmbadmilfaaGreat
open Go.RowKit

def u8W (c : UInt8) : Value := .int .u8 c.toNat
/-- A row that a literal has laid: it is full, and may bear the run-time's mark. -/
structure Full8 (B : Nat) (A : Option Addr) (n c : Nat) (l : List UInt8) (w : World) : Prop where mk ::
  (out : ∃ g cur fz, A = some ⟨g, 0, none⟩ ∧ B ≤ g ∧ w.heap[g]? = some (.cells cur 5 fz) ∧ n = c ∧ cur.toList = l.map u8W)
theorem Full8.same {B : Nat} {A : Option Addr} {n c : Nat} {l : List UInt8} {w w' : World} (h : Full8 B A n c l w) (hk : ∀ g, g < w.heap.size → w'.heap[g]? = w.heap[g]?) : Full8 B A n c l w' := by
  obtain ⟨g, cur, fz, h1, h2, h3, h4, h5⟩ := h.out
  exact ⟨g, cur, fz, h1, h2, by rw [hk g (Array.getElem?_eq_some_iff.1 h3).1]; exact h3, h4, h5⟩
/-- A row of bytes of the call's own. -/
structure BR (W : World) (A : Option Addr) (n c : Nat) (l : List UInt8) (w : World) : Prop where
  len : l.length = n
  row : w.ownsRow W.heap.size 5 1 (.slice A n c) n (l.map u8W) ∨ Full8 W.heap.size A n c l w
  below : Below W.heap.size W w
/-- From a world to one behind: the row's own block and new ones alone have turned; the row stays where it was, or is new. -/
structure Gro (w w' : World) (A A' : Option Addr) : Prop where
  grow : w.grownBy w' (A.map (·.block))
  own : A'.map (·.block) = A.map (·.block) ∨ ∃ g, A'.map (·.block) = some g ∧ w.heap.size ≤ g
theorem own_slice (A : Option Addr) (n c : Nat) : (Value.slice A n c).ownBlock = A.map (·.block) := by cases A <;> rfl
theorem Gro.refl (w : World) (A : Option Addr) : Gro w w A A := ⟨⟨rfl, rfl, rfl, Nat.le_refl _, fun _ _ _ => rfl⟩, .inl rfl⟩
theorem Gro.trans {w w1 w2 : World} {A A1 A2 : Option Addr} (h : Gro w w1 A A1) (k : Gro w1 w2 A1 A2) : Gro w w2 A A2 := by
  refine ⟨⟨k.grow.os.trans h.grow.os, k.grow.tape.trans h.grow.tape, k.grow.output.trans h.grow.output, Nat.le_trans h.grow.size k.grow.size, fun i hi hne => ?_⟩, ?_⟩
  · refine (k.grow.block i (Nat.lt_of_lt_of_le hi h.grow.size) (fun e => ?_)).trans (h.grow.block i hi hne)
    rcases h.own with e1 | ⟨g, e1, hg⟩
    · exact hne (e.trans e1)
    · rw [e1] at e
      injection e with e
      omega
  · rcases k.own with e2 | ⟨g, e2, hg⟩
    · rw [e2]
      exact h.own
    · exact .inr ⟨g, e2, Nat.le_trans h.grow.size hg⟩
theorem Gro.alloc {w w1 : World} {A A1 : Option Addr} (h : Gro w w1 A A1) (o : Obj) : Gro w (w1.alloc o) A A1 :=
  h.trans ⟨World.grownBy_alloc _ _ _, .inl rfl⟩
theorem Gro.ofAlloc {w w1 : World} {A A1 : Option Addr} {o : Obj} (h : Gro (w.alloc o) w1 A A1) : Gro w w1 A A1 := (Gro.alloc (Gro.refl w A) o).trans h
theorem Gro.drewN {w w1 : World} {A A1 : Option Addr} (h : Gro w w1 A A1) (n : Nat) : Gro w (w1.drewN n) A A1 :=
  h.trans ⟨⟨rfl, rfl, rfl, Nat.le_refl _, fun _ _ _ => rfl⟩, .inl rfl⟩
theorem Gro.at_ {w w1 : World} {A A1 : Option Addr} (h : Gro w w1 A A1) {b : Nat} {cs : Array Value} {t : TypeId} (hb : At w b cs t) (hne : A.map (·.block) ≠ some b) : At w1 b cs t := hb.grown h.grow hne
theorem Gro.below {w w1 W : World} {A A1 : Option Addr} (h : Gro w w1 A A1) (hb : Below W.heap.size W w) (hA : ∀ k, A.map (·.block) = some k → W.heap.size ≤ k) : Below W.heap.size W w1 := hb.grown h.grow hb.size hA

theorem one_u8W (l : List UInt8) : ∀ u ∈ l.map u8W, u.oneCell' = true := by
  intro u hu
  obtain ⟨c, _, rfl⟩ := List.mem_map.1 hu
  rfl
theorem info_u8W : (Tryz.prog.info? 5).map (fun i => (i.zero, i.size, i.bytes)) = some (some (.int .u8 0), 1, 1) := by kernel_rfl
section
variable {W w : World} {A : Option Addr} {n c : Nat} {l : List UInt8}
theorem BR.nil {W w : World} (h : Below W.heap.size W w) : BR W none 0 0 [] w := ⟨rfl, .inl (World.ownsRow_nil _ _ _ _), h⟩
theorem BR.lit {W w : World} (h : Below W.heap.size W w) (l : List UInt8) (hl : l.length ≤ 1000000000000) : BR W (some ⟨w.heap.size, 0, none⟩) l.length l.length l (w.alloc (.cells (l.map u8W).toArray 5)) := by
  refine ⟨rfl, ?_, h.alloc h.size _⟩
  have := World.ownsRow_lit (base := W.heap.size) (e := 5) (size := 1) w (l.map u8W).toArray l.length h.size (by unfold maxLen; omega) (by simp)
  exact .inl (by simpa using this)
/-- The row that a conversion of a constant leaves. -/
theorem BR.const {W w : World} (h : Below W.heap.size W w) (l : List UInt8) (fz : Nat × Nat) : BR W (some ⟨w.heap.size, 0, none⟩) l.length l.length l (w.alloc (.cells (l.map u8W).toArray 5 fz)) := by
  refine ⟨rfl, .inr ⟨w.heap.size, (l.map u8W).toArray, fz, rfl, h.size, ?_, rfl, rfl⟩, h.alloc h.size _⟩
  show (w.heap.push _)[w.heap.size]? = _
  simp
theorem BR.lt (h : BR W A n c l w) : ∀ k, A.map (·.block) = some k → W.heap.size ≤ k ∧ k < w.heap.size := fun k hk => by
  rcases h.row with hr | hr
  · exact hr.lt k (by rw [own_slice]; exact hk)
  · obtain ⟨g, cur, fz, rfl, h2, h3, _⟩ := hr.out
    injection hk with hk
    subst hk
    exact ⟨h2, (Array.getElem?_eq_some_iff.1 h3).1⟩
theorem BR.le (h : BR W A n c l w) : ∀ k, A.map (·.block) = some k → W.heap.size ≤ k := fun k hk => (h.lt k hk).1
theorem BR.drewN (h : BR W A n c l w) (k : Nat) : BR W A n c l (w.drewN k) := ⟨h.len, h.row.imp id (fun h => h.same fun _ _ => rfl), bN h.below k⟩
theorem BR.alloc (h : BR W A n c l w) (o : Obj) : BR W A n c l (w.alloc o) := ⟨h.len, h.row.imp (fun h => h.alloc _) (fun h => h.same fun g hg => Below.heap_alloc w o g hg), h.below.alloc h.below.size _⟩
theorem BR.str (h : BR W A n c l w) : (convert 57 9 (.slice A n c)).run Tryz.prog w = .ok (.string (str l)) w := by
  obtain rfl : l.length = n := h.len
  rcases h.row with hr | hr
  · rcases hr.2 with ⟨e, h0⟩ | ⟨g, cap, cur, e, _⟩
    · have : l = [] := List.length_eq_zero_iff.1 h0
      subst this
      obtain ⟨rfl, _, rfl⟩ := (Value.slice.injEq _ _ _ _ _ _).mp e
      rw [run_convert_bytes_string _ _ _ 5 _ _ _ Tryz.underlying57 Tryz.underlying5 Tryz.underlying9]
      rfl
    · obtain ⟨rfl, _, rfl⟩ := (Value.slice.injEq _ _ _ _ _ _).mp e
      refine run_convert_bytes_back _ _ _ 5 ⟨g, 0, none⟩ c l Tryz.underlying57 Tryz.underlying5 Tryz.underlying9 fun j hj => ?_
      have := hr.cells (g := g) rfl j (u8W l[j]) (by rw [List.getElem?_map, List.getElem?_eq_getElem hj]; rfl)
      exact this
  · obtain ⟨g, cur, fz, rfl, h2, h3, _, h5⟩ := hr.out
    refine run_convert_bytes_back _ _ _ 5 ⟨g, 0, none⟩ c l Tryz.underlying57 Tryz.underlying5 Tryz.underlying9 fun j hj => ?_
    exact World.news_of_block h3 j (u8W l[j]) (by rw [h5, List.getElem?_map, List.getElem?_eq_getElem hj]; rfl)
end
theorem grown_where {w w' : World} {A : Option Addr} {n c : Nat} {v' : Value} {B n' : Nat} {xs : List Value} (hr : w'.ownsRow B 5 1 v' n' xs) (hg : w.grownBy w' (Value.slice A n c).ownBlock) (hw : v'.ownBlock = (Value.slice A n c).ownBlock ∨ v'.ownBlock = some w.heap.size) :
    ∃ A' c', v' = .slice A' n' c' ∧ Gro w w' A A' := by
  rcases hr.2 with ⟨rfl, rfl⟩ | ⟨g, cap, cur, rfl, _⟩
  · refine ⟨none, 0, rfl, by rw [own_slice] at hg; exact hg, ?_⟩
    rw [own_slice, own_slice] at hw
    rcases hw with hw | hw
    · exact .inl hw
    · exact .inr ⟨_, hw, Nat.le_refl _⟩
  · refine ⟨some ⟨g, 0, none⟩, cap, rfl, by rw [own_slice] at hg; exact hg, ?_⟩
    rw [own_slice, own_slice] at hw
    rcases hw with hw | hw
    · exact .inl hw
    · exact .inr ⟨_, hw, Nat.le_refl _⟩

/-- A row that has grown lies anew. -/
theorem own_grown (w : World) (olds news : List Value) (n m cap base : Nat) (h1 : olds.length = n) (h2 : news.length = m) (h63 : n + m ≤ maxLen) (hb : base ≤ w.heap.size) (row : Option Nat) :
    (w.drew.alloc (.cells (olds.toArray ++ news.toArray ++ Builtin.zeroCells (Value.int .u8 0).cells (grownCap w (n + m) cap 5 - (n + m))) 5)).ownsRow base 5 1 (.slice (some ⟨w.heap.size, 0, none⟩) (n + m) (grownCap w (n + m) cap 5)) (n + m) (olds ++ news) ∧
    w.grownBy (w.drew.alloc (.cells (olds.toArray ++ news.toArray ++ Builtin.zeroCells (Value.int .u8 0).cells (grownCap w (n + m) cap 5 - (n + m))) 5)) row := by
  have hge := grownCap_ge w (n + m) cap 5
  have hcm : grownCap w (n + m) cap 5 ≤ maxLen := grownCap_le_maxLen w (n + m) cap 5 h63
  have hlen : (olds ++ news).length = (n + m) * 1 := by rw [List.length_append, h1, h2, Nat.mul_one]
  refine ⟨⟨hlen, .inr ⟨w.heap.size, _, _, rfl, hb, heap_alloc_new w.drew _, hge, hcm, ?_, ?_⟩⟩, ⟨rfl, rfl, rfl, by simp, fun k hk _ => Below.heap_alloc w.drew _ k hk⟩⟩
  · have hz1 : (Value.int IntKind.u8 0).cells.size = 1 := rfl
    simp only [Array.size_append, List.size_toArray, size_zeroCells, hz1, h1, h2]
    omega
  · simp only [Array.toList_append, List.append_assoc]
    rw [← List.append_assoc, ← hlen]
    exact List.take_left
theorem run_full_bytes {B : Nat} {A : Option Addr} {n c : Nat} {l : List UInt8} {w : World} (h : Full8 B A n c l w) (hln : l.length = n) (a : Addr) (m c' : Nat) (news : List Value) (hm : 0 < m) (hl : news.length = m) (hnews : ∀ j v, news[j]? = some v → w.cell? (a.add j) = some v) (hsz : n + m ≤ 1000000000000) (hB : B ≤ w.heap.size) (ty : TypeId) :
    ∃ A' c'' w', (Builtin.append_ #[57, 57] ty #[.slice A n c, .slice (some a) m c']).run Tryz.prog w = .ok (.slice A' (n + m) c'') w' ∧ w'.ownsRow B 5 1 (.slice A' (n + m) c'') (n + m) (l.map u8W ++ news) ∧ Gro w w' A A' := by
  obtain ⟨i0, hi, hz0, hz1, hz2⟩ := info_parts info_u8W
  obtain ⟨g, cur, fz, rfl, h2, h3, rfl, h5⟩ := h.out
  have hr := run_append_grow (P := Tryz.prog) w 57 ty 5 i0 _ Tryz.underlying57 hi hz0 ⟨g, 0, none⟩ n n (l.map u8W) (by simp [hz1, hln]) (by rw [← h5]; exact World.news_of_block h3) a m c' news (by rw [hz1]; omega) hnews (by omega) (by omega) (by rw [hz2]; exact growslice_fits (by omega) (by omega))
  obtain ⟨k1, k2⟩ := own_grown w (l.map u8W) news n m n B (by simpa using hln) hl (by unfold maxLen; omega) hB (some g)
  exact ⟨_, _, _, hr, k1, k2, .inr ⟨_, rfl, Nat.le_refl _⟩⟩
theorem run_full_str {B : Nat} {A : Option Addr} {n c : Nat} {l : List UInt8} {w : World} (h : Full8 B A n c l w) (hln : l.length = n) (s : ByteArray) (hm : 0 < s.size) (hsz : n + s.size ≤ 1000000000000) (hB : B ≤ w.heap.size) (ty : TypeId) :
    ∃ A' c'' w', (Builtin.append_ #[57, 9] ty #[.slice A n c, .string s]).run Tryz.prog w = .ok (.slice A' (n + s.size) c'') w' ∧ w'.ownsRow B 5 1 (.slice A' (n + s.size) c'') (n + s.size) (l.map u8W ++ (bs s).map u8W) ∧ Gro w w' A A' := by
  obtain ⟨i0, hi, hz0, hz1, hz2⟩ := info_parts info_u8W
  obtain ⟨g, cur, fz, rfl, h2, h3, rfl, h5⟩ := h.out
  have hr := Lib.run_append_grow_string (P := Tryz.prog) w 57 9 ty 5 i0 (.int .u8 0) Tryz.underlying57 Tryz.underlying9 hi hz0 ⟨g, 0, none⟩ n n (l.map u8W) (by simp [hz1, hln]) (by rw [← h5]; exact World.news_of_block h3) s (by omega) (by omega) (by rw [hz2]; exact growslice_fits (by omega) (by omega))
  obtain ⟨k1, k2⟩ := own_grown w (l.map u8W) (Lib.strCells s) n s.size n B (by simpa using hln) (Lib.strCells_length s) (by unfold maxLen; omega) hB (some g)
  exact ⟨_, _, _, hr, k1, k2, .inr ⟨_, rfl, Nat.le_refl _⟩⟩
theorem run_full_none {B : Nat} {A : Option Addr} {n c : Nat} {l : List UInt8} {w : World} (h : Full8 B A n c l w) (s : ByteArray) (hm : s.size = 0) (ty : TypeId) :
    (Builtin.append_ #[57, 9] ty #[.slice A n c, .string s]).run Tryz.prog w = .ok (.slice A n c) w := by
  obtain ⟨i0, hi, hz0, hz1, hz2⟩ := info_parts info_u8W
  obtain ⟨g, cur, fz, rfl, h2, h3, rfl, h5⟩ := h.out
  have hf := Lib.run_firstCells_string (P := Tryz.prog) w 1 s
  have hn : Lib.strCells s = [] := List.eq_nil_of_length_eq_zero (by rw [Lib.strCells_length]; exact hm)
  rw [hm, hn] at hf
  simp [Builtin.append_, run_underlying Tryz.underlying57, run_underlying Tryz.underlying9, sizeOf, typeInfo, hi, hz1, Builtin.lenOf, hm, hf, storeCells]

/-- append of bytes that were just laid. -/
theorem wpList_bytes {ops : Array Oper} {rest : List Oper} {o : Oper} {a : Act} {Q : Exit → Act → World → Prop} {W w0 : World} {A : Option Addr} {n c : Nat} {l : List UInt8} (hgd : o.guard = none) (s x : Operand)
    (ho : o.op = .call { callee := .builtin .append, args := #[s, x], argTypes := #[57, 57] }) (h : BR W A n c l w0) (news : List UInt8) (hm : 0 < news.length)
    (hs : a.eval s = .slice A n c) (hx : a.eval x = .slice (some ⟨w0.heap.size, 0, none⟩) news.length news.length) (hl : n + news.length ≤ 1000000000000)
    (K : ∀ A' n' c' l' w', Hid (l' = l ++ news) → BR W A' n' c' l' w' → Gro w0 w' A A' → wpList Tryz.prog ops Q rest (a.put o.dst (.slice A' n' c')) w') :
    wpList Tryz.prog ops Q (o :: rest) a (w0.alloc (.cells (news.map u8W).toArray 5)) := by
  obtain ⟨i0, hi, hz0, hz1, hz2⟩ := info_parts info_u8W
  have hB : W.heap.size ≤ (w0.alloc (.cells (news.map u8W).toArray 5)).heap.size := by have := h.below.size; simp; omega
  rcases h.row with hrow | hrow
  · refine wpList_append_own_at _ hgd s x 57 ho W.heap.size 5 i0 _ 1 1 Tryz.underlying57 hi hz0 hz1 hz2 rfl (by decide) (.slice A n c) n (l.map u8W) hs (hrow.alloc _) ⟨w0.heap.size, 0, none⟩ news.length news.length (news.map u8W) hx (by simp)
      (World.news_of_block (cs := (news.map u8W).toArray) (t := 5) (fr := (0, 0)) (heap_alloc_new _ _)) (one_u8W news) (by unfold maxLen; omega) (by omega) hB ?_
    intro v' w' hr hg _ hw
    obtain ⟨A', c', rfl, hgr⟩ := grown_where hr hg hw
    have hbl : Below W.heap.size W w' := (h.below.alloc h.below.size _).grown hg hB (fun k hk => h.le k (by rw [own_slice] at hk; exact hk))
    exact K A' _ c' _ w' (Lib.hid rfl) ⟨by rw [List.length_append, h.len], .inl (by rw [List.map_append]; exact hr), hbl⟩ hgr.ofAlloc
  · refine wpList_plain hgd fun K' hK => ?_
    obtain ⟨A', c', w', hr, h2, hgr⟩ := run_full_bytes (hrow.same fun g hg => Below.heap_alloc w0 _ g hg) h.len ⟨w0.heap.size, 0, none⟩ news.length news.length (news.map u8W) hm (by simp)
      (World.news_of_block (cs := (news.map u8W).toArray) (t := 5) (fr := (0, 0)) (heap_alloc_new _ _)) hl hB o.type
    have hbl : Below W.heap.size W w' := hgr.below (h.below.alloc h.below.size _) (fun k hk => h.le k hk)
    unfold Oper.wp execOp
    simp only [ho, resolve, invoke, builtin, Sem.run_bind, Sem.run_pure, Result.andThen_ok, List.map_toArray, List.map_cons, List.map_nil, hs, hx, hr]
    exact hK _ _ (K A' _ c' _ w' (Lib.hid rfl) ⟨by rw [List.length_append, h.len], .inl (by rw [List.map_append]; exact h2), hbl⟩ hgr.ofAlloc)

theorem wpList_bytesV {ops : Array Oper} {rest : List Oper} {o : Oper} {a : Act} {Q : Exit → Act → World → Prop} {W w0 : World} {A : Option Addr} {n c : Nat} {l : List UInt8} (hgd : o.guard = none) (s x : Operand)
    (ho : o.op = .call { callee := .builtin .append, args := #[s, x], argTypes := #[57, 57] }) (h : BR W A n c l w0) (news : List UInt8) (vs : Array Value) (hv : vs = (news.map u8W).toArray) (hm : 0 < news.length)
    (hs : a.eval s = .slice A n c) (hx : a.eval x = .slice (some ⟨w0.heap.size, 0, none⟩) news.length news.length) (hl : n + news.length ≤ 1000000000000)
    (K : ∀ A' n' c' l' w', Hid (l' = l ++ news) → BR W A' n' c' l' w' → Gro w0 w' A A' → wpList Tryz.prog ops Q rest (a.put o.dst (.slice A' n' c')) w') :
    wpList Tryz.prog ops Q (o :: rest) a (w0.alloc (.cells vs 5)) := by
  subst hv
  exact wpList_bytes hgd s x ho h news hm hs hx hl K

theorem strCells_u8W (s : ByteArray) : Lib.strCells s = (bs s).map u8W := rfl
/-- append of a string's bytes. -/
theorem run_append_str (w : World) (A : Option Addr) (c n base : Nat) (xs : List Value) (hown : w.ownsRow base 5 1 (.slice A n c) n xs) (s : ByteArray) (hl : n + s.size ≤ 1000000000000) (hbase : base ≤ w.heap.size) (ty : TypeId) :
    ∃ v' w', (Builtin.append_ #[57, 9] ty #[.slice A n c, .string s]).run Tryz.prog w = .ok v' w' ∧ w'.ownsRow base 5 1 v' (n + s.size) (xs ++ Lib.strCells s) ∧ w.grownBy w' (Value.slice A n c).ownBlock ∧
      (v'.ownBlock = (Value.slice A n c).ownBlock ∨ v'.ownBlock = some w.heap.size) := by
  obtain ⟨i0, hi, hz0, hz1, hz2⟩ := info_parts info_u8W
  obtain ⟨v', w', hr, h2, h3, h4⟩ := Lib.run_append_own_string (P := Tryz.prog) w base 57 9 ty 5 i0 Tryz.underlying57 Tryz.underlying9 hi hz0 hz1 hz2 (.slice A n c) n xs hown s (by unfold maxLen; omega) (by omega) hbase
  refine ⟨v', w', hr, h2, h3, ?_⟩
  rcases hown.2 with ⟨e, rfl⟩ | ⟨g, cap, cur, e, _, hg, hnc, hcm, hcs, htake⟩
  · by_cases hm : s.size = 0
    · have hv : v' = .slice none 0 0 := h4.2 ⟨e, hm⟩
      rw [hv, e]
      exact .inl rfl
    · injection e with e1 e2 e3
      subst e1 e3
      have hr2 := run_append_nil_string (P := Tryz.prog) w 57 9 ty 5 i0 (.int .u8 0) Tryz.underlying57 Tryz.underlying9 hi hz0 s (by omega) (by omega) (by rw [hz2]; omega)
      rw [hr2] at hr
      injection hr with e4 _
      subst e4
      exact .inr rfl
  · injection e with e1 e2 e3
    subst e1 e3
    by_cases hroom : n + s.size ≤ c
    · have hr2 := Lib.run_append_room_string (P := Tryz.prog) w 57 9 ty 5 i0 Tryz.underlying57 Tryz.underlying9 hi hz1 g n c cur hg s hroom (by omega)
      rw [hr2] at hr
      injection hr with e4 _
      subst e4
      exact .inl rfl
    · have hr2 := Lib.run_append_grow_string (P := Tryz.prog) w 57 9 ty 5 i0 (.int .u8 0) Tryz.underlying57 Tryz.underlying9 hi hz0 ⟨g, 0, none⟩ n c xs (by rw [hz1]; exact hown.1) (hown.cells (g := g) rfl) s (by omega) (by omega) (by rw [hz2]; exact growslice_fits (by omega) (by omega))
      rw [hr2] at hr
      injection hr with e4 _
      subst e4
      exact .inr rfl
theorem wpList_bstr {ops : Array Oper} {rest : List Oper} {o : Oper} {a : Act} {Q : Exit → Act → World → Prop} {W w0 : World} {A : Option Addr} {n c : Nat} {l : List UInt8} (hgd : o.guard = none) (s x : Operand)
    (ho : o.op = .call { callee := .builtin .append, args := #[s, x], argTypes := #[57, 9] }) (h : BR W A n c l w0) (t : ByteArray)
    (hs : a.eval s = .slice A n c) (hx : a.eval x = .string t) (hl : n + t.size ≤ 1000000000000)
    (K : ∀ A' n' c' l' w', Hid (l' = l ++ bs t) → BR W A' n' c' l' w' → Gro w0 w' A A' → wpList Tryz.prog ops Q rest (a.put o.dst (.slice A' n' c')) w') :
    wpList Tryz.prog ops Q (o :: rest) a w0 := by
  refine wpList_plain hgd fun K' hK => ?_
  unfold Oper.wp execOp
  rcases h.row with hrow | hrow
  · obtain ⟨v', w', hr, h2, hg, hw⟩ := run_append_str w0 A c n W.heap.size (l.map u8W) hrow t hl h.below.size o.type
    obtain ⟨A', c', rfl, hgr⟩ := grown_where h2 hg hw
    have hbl : Below W.heap.size W w' := h.below.grown hg h.below.size (fun k hk => h.le k (by rw [own_slice] at hk; exact hk))
    simp only [ho, resolve, invoke, builtin, Sem.run_bind, Sem.run_pure, Result.andThen_ok, List.map_toArray, List.map_cons, List.map_nil, hs, hx, hr]
    exact hK _ _ (K A' _ c' _ w' (Lib.hid rfl) ⟨by rw [List.length_append, h.len]; rfl, .inl (by rw [List.map_append]; exact h2), hbl⟩ hgr)
  · by_cases hm : t.size = 0
    · have hr := run_full_none hrow t hm o.type
      have hb0 : bs t = [] := List.eq_nil_of_length_eq_zero hm
      simp only [ho, resolve, invoke, builtin, Sem.run_bind, Sem.run_pure, Result.andThen_ok, List.map_toArray, List.map_cons, List.map_nil, hs, hx, hr]
      exact hK _ _ (K A n c l w0 (Lib.hid (by rw [hb0, List.append_nil])) h (Gro.refl _ _))
    · obtain ⟨A', c', w', hr, h2, hgr⟩ := run_full_str hrow h.len t (by omega) hl h.below.size o.type
      have hbl : Below W.heap.size W w' := hgr.below h.below (fun k hk => h.le k hk)
      simp only [ho, resolve, invoke, builtin, Sem.run_bind, Sem.run_pure, Result.andThen_ok, List.map_toArray, List.map_cons, List.map_nil, hs, hx, hr]
      exact hK _ _ (K A' _ c' _ w' (Lib.hid rfl) ⟨by rw [List.length_append, h.len]; rfl, .inl (by rw [List.map_append]; exact h2), hbl⟩ hgr)
end Go.Proofs.YthckgmbadmilfaaGreat

namespace Go.Proofs.YthckgmbadmilfaaGreat
open Go.RowKit

def flatS (xs : List (Array Value)) : List Value := xs.flatMap (·.toList)
theorem flatS_snoc (xs : List (Array Value)) (x : Array Value) : flatS (xs ++ [x]) = flatS xs ++ x.toList := by simp [flatS]
theorem flatS_len {s : Nat} : ∀ {xs : List (Array Value)}, (∀ x ∈ xs, x.size = s) → (flatS xs).length = xs.length * s
  | [], _ => by simp [flatS]
  | x :: xs, h => by
    have h1 := h x (by simp)
    have h2 := flatS_len (xs := xs) fun y hy => h y (by simp [hy])
    unfold flatS at h2 ⊢
    rw [List.flatMap_cons, List.length_append, List.length_cons, h2, Array.length_toList, h1, Nat.add_mul, Nat.one_mul, Nat.add_comm]
theorem flatS_get {s : Nat} : ∀ {xs : List (Array Value)}, (∀ x ∈ xs, x.size = s) → ∀ (i j : Nat) (x : Array Value), xs[i]? = some x → j < s → (flatS xs)[i * s + j]? = x[j]?
  | [], _, i, j, x, hx, _ => by simp at hx
  | y :: xs, h, 0, j, x, hx, hj => by
    simp at hx
    subst hx
    unfold flatS
    rw [List.flatMap_cons, Nat.zero_mul, Nat.zero_add, List.getElem?_append_left (by rw [Array.length_toList, h y (by simp)]; exact hj)]
    simp
  | y :: xs, h, i + 1, j, x, hx, hj => by
    have hs := h y (by simp)
    have ih := flatS_get (xs := xs) (fun z hz => h z (by simp [hz])) i j x (by simpa using hx) hj
    unfold flatS at ih ⊢
    have e : (i + 1) * s + j = s + (i * s + j) := by rw [Nat.add_mul, Nat.one_mul]; omega
    rw [List.flatMap_cons, e, List.getElem?_append_right (by rw [Array.length_toList, hs]; omega), Array.length_toList, hs, Nat.add_sub_cancel_left]
    exact ih
/-- A row of structures of the call's own. -/
structure SR (W : World) (E s : Nat) (A : Option Addr) (n c : Nat) (xs : List (Array Value)) (w : World) : Prop where
  len : xs.length = n
  size : ∀ x ∈ xs, x.size = s
  row : w.ownsRow W.heap.size E s (.slice A n c) n (flatS xs)
  below : Below W.heap.size W w
section
variable {W w : World} {E s : Nat} {A : Option Addr} {n c : Nat} {xs : List (Array Value)}
theorem SR.nil {W w : World} (E s : Nat) (h : Below W.heap.size W w) : SR W E s none 0 0 [] w := ⟨rfl, fun x hx => by simp at hx, World.ownsRow_nil _ _ _ _, h⟩
theorem SR.empty {W w : World} (E s : Nat) (h : Below W.heap.size W w) : SR W E s (some ⟨w.heap.size, 0, none⟩) 0 0 [] (w.alloc (.cells #[] E)) := by
  refine ⟨rfl, fun x hx => by simp at hx, ?_, h.alloc h.size _⟩
  have := World.ownsRow_lit (base := W.heap.size) (e := E) (size := s) w #[] 0 h.size (by unfold maxLen; omega) (by simp)
  exact this
theorem SR.lt (h : SR W E s A n c xs w) : ∀ k, A.map (·.block) = some k → W.heap.size ≤ k ∧ k < w.heap.size := fun k hk => h.row.lt k (by rw [own_slice]; exact hk)
theorem SR.le (h : SR W E s A n c xs w) : ∀ k, A.map (·.block) = some k → W.heap.size ≤ k := fun k hk => (h.lt k hk).1
theorem SR.later (h : SR W E s A n c xs w) {w' : World} (hb : Below w.heap.size w w') : SR W E s A n c xs w' := by
  refine ⟨h.len, h.size, ?_, h.below.trans (hb.mono h.below.size)⟩
  exact h.row.kept (row := none) ⟨hb.os, hb.tape, hb.output, hb.size, fun k hk _ => hb.block k hk⟩ (by
    rcases hq : (Value.slice A n c).ownBlock with _ | k
    · exact .inl rfl
    · exact .inr (by simp))
theorem SR.alloc (h : SR W E s A n c xs w) (o : Obj) : SR W E s A n c xs (w.alloc o) := h.later ((Below.refl _ _).alloc (Nat.le_refl _) _)
theorem SR.drewN (h : SR W E s A n c xs w) (k : Nat) : SR W E s A n c xs (w.drewN k) := h.later (bN (Below.refl _ _) k)
theorem SR.cap (h : SR W E s A n c xs w) : n ≤ c := by
  rcases h.row.2 with ⟨e, h0⟩ | ⟨g, cap, cur, e, _, _, hc, _⟩
  · injection e with _ _ e; omega
  · injection e with _ _ e; omega
/-- The row read. -/
theorem SR.rd (h : SR W E s A n c xs w) : RdIn w.heap.size w s A xs := by
  intro k hk
  rcases h.row.2 with ⟨_, h0⟩ | ⟨g, cap, cur, e, hg, hb, hnc, _, hcs, htk⟩
  · have := h.len; omega
  · injection e with e1 _ _
    refine ⟨g, 0, e1, (Array.getElem?_eq_some_iff.1 hb).1, fun j hj => ?_⟩
    rw [Nat.zero_add]
    have h3 := flatS_get h.size k j xs[k] (List.getElem?_eq_getElem hk) hj
    have h4 := h.row.cells (g := g) (by rw [own_slice, e1]; rfl) (k * s + j)
    rcases hx : (xs[k])[j]? with _ | u
    · rw [Array.getElem?_eq_none_iff, h.size _ (List.getElem_mem hk)] at hx
      omega
    · rw [hx] at h3
      have h5 := h4 u h3
      rw [Addr.add_mid] at h5
      simpa using h5
end
/-- append of one structure that was just laid. -/
theorem wpList_elem {ops : Array Oper} {rest : List Oper} {o : Oper} {a : Act} {Q : Exit → Act → World → Prop} {W w0 : World} {A : Option Addr} {n c : Nat} {xs : List (Array Value)} (hgd : o.guard = none) (y x : Operand)
    (T E : TypeId) (i0 : TypeInfo) (z : Value) (s bytes : Nat) (hT : Tryz.prog.underlying T = some (.slice E)) (hi : Tryz.prog.info? E = some i0) (hz0 : i0.zero = some z) (hz1 : i0.size = s) (hz2 : i0.bytes = bytes) (hz3 : z.cells.size = s) (hs0 : 0 < s)
    (ho : o.op = .call { callee := .builtin .append, args := #[y, x], argTypes := #[T, T] }) (h : SR W E s A n c xs w0) (v : Array Value) (hv : v.size = s) (hv1 : v.all (·.oneCell') = true)
    (hs : a.eval y = .slice A n c) (hx : a.eval x = .slice (some ⟨w0.heap.size, 0, none⟩) 1 1) (hl : n + 1 ≤ 1000000) (hby : bytes ≤ 100000)
    (K : ∀ A' n' c' l' w', Hid (l' = xs ++ [v]) → SR W E s A' n' c' l' w' → Gro w0 w' A A' → wpList Tryz.prog ops Q rest (a.put o.dst (.slice A' n' c')) w') :
    wpList Tryz.prog ops Q (o :: rest) a (w0.alloc (.cells v E)) := by
  have hB : W.heap.size ≤ (w0.alloc (.cells v E)).heap.size := by have := h.below.size; simp; omega
  have hb2 : (n + 1) * bytes ≤ 140737488355328 := by
    have := Nat.mul_le_mul hl hby
    omega
  refine wpList_append_own_at _ hgd y x T ho W.heap.size E i0 z s bytes hT hi hz0 hz1 hz2 hz3 hs0 (.slice A n c) n (flatS xs) hs (h.row.alloc _) ⟨w0.heap.size, 0, none⟩ 1 1 v.toList hx (by rw [Array.length_toList, hv, Nat.one_mul])
      (World.news_of_block (cs := v) (t := E) (fr := (0, 0)) (heap_alloc_new _ _)) (fun u hu => (Array.all_eq_true_iff_forall_mem.1 hv1) u (by simpa using hu)) (by unfold maxLen; omega) hb2 hB ?_
  intro v' w' hr hg _ hw
  rw [← flatS_snoc] at hr
  have hr0 := hr
  have hbl : Below W.heap.size W w' := (h.below.alloc h.below.size _).grown hg hB (fun k hk => h.le k (by rw [own_slice] at hk; exact hk))
  rcases hr.2 with ⟨_, h0⟩ | ⟨g, cap, cur, rfl, _⟩
  · omega
  · refine K (some ⟨g, 0, none⟩) (n + 1) cap _ w' (Lib.hid rfl) ⟨by rw [List.length_append, h.len]; rfl, fun q hq => ?_, hr0, hbl⟩ (Gro.ofAlloc ⟨by rw [own_slice] at hg; exact hg, ?_⟩)
    · rcases List.mem_append.1 hq with hq | hq
      · exact h.size q hq
      · rw [List.mem_singleton] at hq; rw [hq]; exact hv
    · rw [own_slice, own_slice] at hw
      rcases hw with hw | hw
      · exact .inl hw
      · exact .inr ⟨_, hw, Nat.le_refl _⟩
end Go.Proofs.YthckgmbadmilfaaGreat
