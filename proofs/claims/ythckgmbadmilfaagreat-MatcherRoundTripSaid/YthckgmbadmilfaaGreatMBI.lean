/- The reference's walks: bytes and items of classes. Nodes of the reference in memory: their cells, whole loads and stores. The reference's walks: single, escape. -/
import Derived.Test.YthckgmbadmilfaaGreatMAJ
import Derived.Test.YthckgmbadmilfaaGreatMAA
import Derived.Test.YthckgmbadmilfaaGreatMAG
import Derived.Laws.Rows
import Derived.Laws.Tables
import Derived.Lib.Hide
import Derived.StillTail
namespace Go.Proofs.YthckgmbadmilfaaGreat
open Go.RowKit Rx

/-- At the index i of a string lies l. -/
structure RP (s : ByteArray) (i : Nat) (l : List UInt8) : Prop where
  le : i ≤ s.size
  rest : (bs s).drop i = l
theorem RP.len {s : ByteArray} {i : Nat} {l : List UInt8} (h : RP s i l) : i + l.length = s.size := by
  have h1 := h.le
  have h2 : ((bs s).drop i).length = l.length := by rw [h.rest]
  rw [List.length_drop, bs_length] at h2
  omega
theorem RP.start (s : ByteArray) : RP s 0 (bs s) := ⟨Nat.zero_le _, rfl⟩
theorem RP.nil {s : ByteArray} {i : Nat} (h : RP s i []) : i = s.size := by
  have := h.len
  simpa using this
theorem RP.lt {s : ByteArray} {i : Nat} {c : UInt8} {r : List UInt8} (h : RP s i (c :: r)) : i < s.size := by
  have := h.len
  simp only [List.length_cons] at this
  omega
theorem RP.get {s : ByteArray} {i : Nat} {c : UInt8} {r : List UInt8} (h : RP s i (c :: r)) : s[i]'h.lt = c := by
  have h2 : (bs s)[i]'h.lt = c := by
    have := congrArg (fun l => l[0]?) h.rest
    simp only [List.getElem?_drop, List.getElem?_cons_zero, Nat.add_zero] at this
    exact Option.some.inj ((List.getElem?_eq_getElem (l := bs s) h.lt).symm.trans this)
  exact h2
theorem RP.next {s : ByteArray} {i : Nat} {c : UInt8} {r : List UInt8} (h : RP s i (c :: r)) : RP s (i + 1) r :=
  ⟨h.lt, by rw [← List.drop_drop, h.rest]; rfl⟩

theorem u8_ne {c d : UInt8} (h : c ≠ d) : ((c.toNat : Int) == (d.toNat : Int)) = false := by
  rw [beq_eq_false_iff_ne]
  intro e
  exact h (UInt8.toNat_inj.1 (by omega))

set_option maxHeartbeats 1000000 in
theorem rspecial_any (c : UInt8) (w : World) : Calls Tryz.prog 163 #[.int .u8 c.toNat] w fun e w' => e = .returned (.bool (special c)) ∧ w = w' := by
  rcases hs : special c with _ | _
  · have hn : ∀ d, special d = true → c ≠ d := fun d hd e => by rw [e, hd] at hs; cases hs
    have d0 : ((c.toNat : Int) == 46) = false := u8_ne (hn 46 (by decide))
    have d1 : ((c.toNat : Int) == 91) = false := u8_ne (hn 91 (by decide))
    have d2 : ((c.toNat : Int) == 93) = false := u8_ne (hn 93 (by decide))
    have d3 : ((c.toNat : Int) == 40) = false := u8_ne (hn 40 (by decide))
    have d4 : ((c.toNat : Int) == 41) = false := u8_ne (hn 41 (by decide))
    have d5 : ((c.toNat : Int) == 124) = false := u8_ne (hn 124 (by decide))
    have d6 : ((c.toNat : Int) == 42) = false := u8_ne (hn 42 (by decide))
    have d7 : ((c.toNat : Int) == 43) = false := u8_ne (hn 43 (by decide))
    have d8 : ((c.toNat : Int) == 63) = false := u8_ne (hn 63 (by decide))
    have d9 : ((c.toNat : Int) == 92) = false := u8_ne (hn 92 (by decide))
    clear hs hn
    go_enter Tryz.func163, Tryz.ntmps163
    go_wp2_with fail
    go_ret
    exact ⟨rfl, rfl⟩
  · have h2 : c = 46 ∨ c = 91 ∨ c = 93 ∨ c = 40 ∨ c = 41 ∨ c = 124 ∨ c = 42 ∨ c = 43 ∨ c = 63 ∨ c = 92 := by
      unfold special at hs
      rw [List.contains_iff_mem] at hs
      simpa using hs
    clear hs
    rcases h2 with rfl | rfl | rfl | rfl | rfl | rfl | rfl | rfl | rfl | rfl
    all_goals
      go_enter Tryz.func163, Tryz.ntmps163
      go_wp2_with fail
      go_ret
      exact ⟨rfl, rfl⟩

set_option maxHeartbeats 1000000 in
theorem ralnum_any (c : UInt8) (w : World) : Calls Tryz.prog 172 #[.int .u8 c.toNat] w fun e w' => e = .returned (.bool (letB c || digB c)) ∧ w = w' := by
  have h : c.toNat ≤ 47 ∨ (48 ≤ c.toNat ∧ c.toNat ≤ 57) ∨ (58 ≤ c.toNat ∧ c.toNat ≤ 64) ∨ (65 ≤ c.toNat ∧ c.toNat ≤ 90) ∨ (91 ≤ c.toNat ∧ c.toNat ≤ 96) ∨ (97 ≤ c.toNat ∧ c.toNat ≤ 122) ∨ 123 ≤ c.toNat := by omega
  have HB : Hid ((letB c || digB c) = decide ((97 ≤ c.toNat ∧ c.toNat ≤ 122) ∨ (65 ≤ c.toNat ∧ c.toNat ≤ 90) ∨ (48 ≤ c.toNat ∧ c.toNat ≤ 57))) := Lib.hid (by unfold letB digB; simp [Bool.or_assoc])
  rcases h with h | ⟨h, h2⟩ | ⟨h, h2⟩ | ⟨h, h2⟩ | ⟨h, h2⟩ | ⟨h, h2⟩ | h
  all_goals
    go_enter Tryz.func172, Tryz.ntmps172
    go_wp2_with fail
    go_ret
    exact ⟨ret_bool (by rw [HB.out]; rw [Bool.eq_iff_iff]; first | (simp; done) | (simp; omega)), rfl⟩

/-- What an escape gives. -/
def escV (d : UInt8) : Int := match escB d with
  | some b => b.toNat
  | none => d.toNat
set_option maxHeartbeats 1000000 in
theorem rescaped_any (d : UInt8) (w : World) : Calls Tryz.prog 171 #[.int .u8 d.toNat] w fun e w' => e = .returned (.tuple #[.int .u8 (escV d), .bool (escB d).isSome]) ∧ w = w' := by
  by_cases h1 : d = 110
  · subst h1
    go_enter Tryz.func171, Tryz.ntmps171
    go_wp2_with fail
    go_ret2
    exact ⟨rfl, rfl⟩
  by_cases h2 : d = 116
  · subst h2
    go_enter Tryz.func171, Tryz.ntmps171
    go_wp2_with fail
    go_ret2
    exact ⟨rfl, rfl⟩
  have d0 : ((d.toNat : Int) == 110) = false := u8_ne h1
  have d1 : ((d.toNat : Int) == 116) = false := u8_ne h2
  have HE : Hid (escB d = if letB d || digB d then none else some d) := Lib.hid (by unfold escB; rw [if_neg h1, if_neg h2])
  have HA := Lib.hid (ralnum_any d)
  clear h1 h2
  rcases ha : letB d || digB d with _ | _
  · have HV : Hid (escV d = d.toNat ∧ (escB d).isSome = true) := Lib.hid (by unfold escV; rw [HE.out, ha]; exact ⟨rfl, rfl⟩)
    rw [ha] at HA
    clear ha HE
    go_enter Tryz.func171, Tryz.ntmps171
    go_wp2_with fail
    refine (HA.out _).mono ?_
    rintro e w' ⟨rfl, rfl⟩
    go_wp2_with fail
    go_ret2
    exact ⟨by rw [HV.out.1, HV.out.2]; rfl, rfl⟩
  · have HV : Hid (escV d = d.toNat ∧ (escB d).isSome = false) := Lib.hid (by unfold escV; rw [HE.out, ha]; exact ⟨rfl, rfl⟩)
    rw [ha] at HA
    clear ha HE
    go_enter Tryz.func171, Tryz.ntmps171
    go_wp2_with fail
    refine (HA.out _).mono ?_
    rintro e w' ⟨rfl, rfl⟩
    go_wp2_with fail
    go_ret2
    exact ⟨by rw [HV.out.1, HV.out.2]; rfl, rfl⟩

/-- What an item gives. -/
def ItemPost (s : ByteArray) (l : List UInt8) (w : World) (e : Ending) (w' : World) : Prop :=
  w = w' ∧ match item l with
  | none => ∃ (b : UInt8) (j : Nat), j ≤ s.size ∧ e = .returned (.tuple #[.int .u8 b.toNat, .int .i64 j, .bool false])
  | some (a, r) => ∃ j, RP s j r ∧ e = .returned (.tuple #[.int .u8 a.toNat, .int .i64 (j : Nat), .bool true])
theorem ItemPost.no {s : ByteArray} {l : List UInt8} {w : World} (b : UInt8) (j : Nat) (h : item l = none) (hj : j ≤ s.size) : ItemPost s l w (.returned (.tuple #[.int .u8 b.toNat, .int .i64 j, .bool false])) w := ⟨rfl, by rw [h]; exact ⟨b, j, hj, rfl⟩⟩
theorem ItemPost.yes {s : ByteArray} {l r : List UInt8} {w : World} (a : UInt8) (j : Nat) (h : item l = some (a, r)) (hj : RP s j r) : ItemPost s l w (.returned (.tuple #[.int .u8 a.toNat, .int .i64 j, .bool true])) w := ⟨rfl, by rw [h]; exact ⟨j, hj, rfl⟩⟩

set_option maxHeartbeats 2000000 in
theorem ritem_any6 (s : ByteArray) (i : Nat) (l : List UInt8) (w : World) (hs : s.size ≤ 1000) (h : RP s i l) : Calls Tryz.prog 173 #[.string s, .int .i64 i] w (ItemPost s l w) := by
  have hle := h.le
  have hsi : (s.size : Int) ≤ 1000 := by omega
  have hii : (i : Int) ≤ 1000 := by omega
  have HLE := Lib.hid hle
  rcases l with _ | ⟨c, r⟩
  · have hi := h.nil
    have h1 : (i : Int) ≥ (s.size : Int) := by omega
    have h1n : s.size ≤ i := by omega
    clear h hi hle
    go_enter Tryz.func173, Tryz.ntmps173
    go_wp2_with fail
    go_ret3
    exact ItemPost.no 0 i rfl HLE.out
  · have hlt := h.lt
    have h1 : ¬ (i : Int) ≥ (s.size : Int) := by omega
    have h1n : ¬ s.size ≤ i := by omega
    have hg : s[i]'hlt = c := h.get
    have HN := Lib.hid h.next
    by_cases e93 : c = 93
    · subst e93
      clear h
      go_enter Tryz.func173, Tryz.ntmps173
      go_wp2_with fail
      go_ret3
      exact ItemPost.no 0 i rfl HLE.out
    have d93 : ((c.toNat : Int) == 93) = false := u8_ne e93
    by_cases e92 : c = 92
    · subst e92
      rcases r with _ | ⟨d, r⟩
      · have hi2 := HN.out.nil
        have h2 : (i : Int) + 1 ≥ (s.size : Int) := by omega
        have h2n : s.size ≤ i + 1 := by omega
        clear h hi2
        go_enter Tryz.func173, Tryz.ntmps173
        go_wp2_with fail
        go_ret3
        exact ItemPost.no 0 i rfl HLE.out
      · have hlt2 := HN.out.lt
        have hg2 : s[i + 1]'hlt2 = d := HN.out.get
        have h2 : ¬ (i : Int) + 1 ≥ (s.size : Int) := by omega
        have h2n : ¬ s.size ≤ i + 1 := by omega
        have HN2 := Lib.hid HN.out.next
        have HE := Lib.hid (rescaped_any d)
        clear h
        rcases he : escB d with _ | b
        · rw [he] at HE
          have HV : Hid (escV d = d.toNat) := Lib.hid (by unfold escV; rw [he])
          have HI : Hid (item (92 :: d :: r) = none) := Lib.hid (by simp [item, he])
          clear he
          go_enter Tryz.func173, Tryz.ntmps173
          go_wp2_with fail
          refine (HE.out _).mono ?_
          rintro e w' ⟨rfl, rfl⟩
          go_wp2_with fail
          go_ret3
          rw [HV.out]
          exact ItemPost.no d (i + 2) HI.out HN2.out.le
        · rw [he] at HE
          have HV : Hid (escV d = b.toNat) := Lib.hid (by unfold escV; rw [he])
          have HI : Hid (item (92 :: d :: r) = some (b, r)) := Lib.hid (by simp [item, he])
          clear he
          go_enter Tryz.func173, Tryz.ntmps173
          go_wp2_with fail
          refine (HE.out _).mono ?_
          rintro e w' ⟨rfl, rfl⟩
          go_wp2_with fail
          go_ret3
          rw [HV.out]
          exact ItemPost.yes b (i + 2) HI.out HN2.out
    · have d92 : ((c.toNat : Int) != 92) = true := by rw [bne_iff_ne]; exact beq_eq_false_iff_ne.1 (u8_ne e92)
      have HI : Hid (item (c :: r) = some (c, r)) := Lib.hid (by simp only [item]; rw [if_neg e93, if_neg e92])
      clear h e93 e92
      go_enter Tryz.func173, Tryz.ntmps173
      go_wp2_with fail
      go_ret3
      exact ItemPost.yes c (i + 1) HI.out HN.out
end Go.Proofs.YthckgmbadmilfaaGreat

namespace Go.Proofs.YthckgmbadmilfaaGreat
open Go.RowKit Rx

/-! ### Whole values out of and into memory -/
section
variable {P : Program}
theorem run_loadVar_part (w : World) (g o : Nat) (ty : TypeId) (cs : List Value) (d : TypeDesc) (hc : ∀ j v, cs[j]? = some v → w.cell? ⟨g, o + j, none⟩ = some v)
    (hu : P.underlying ty = some d) (hd : (match d with | .struct _ | .array _ _ => true | _ => false) = true) (hi : (P.info? ty).map (·.size) = some cs.length) :
    (loadVar ty ⟨g, o, none⟩).run P w = .ok (.agg cs.toArray) w := by
  have hl : (loadCells ⟨g, o, none⟩ cs.length).run P w = .ok cs.toArray w :=
    run_loadCells_list (P := P) w ⟨g, o, none⟩ cs (fun j v hv => by
      have hadd : (⟨g, o, none⟩ : Addr).add j = ⟨g, o + j, none⟩ := by unfold Addr.add; split <;> simp_all
      rw [hadd]
      exact hc j v hv)
  cases hq : P.info? ty with
  | none => simp [hq] at hi
  | some i =>
    have hs : i.size = cs.length := by simpa [hq] using hi
    have hagg : (isAgg ty).run P w = .ok true w := by
      unfold isAgg
      rw [Sem.run_bind, run_underlying hu w]
      cases d <;> simp_all
    simp [loadVar, Sem.run_bind, hagg, sizeOf, typeInfo, hq, hs, hl]
theorem wpList_load_part {ops : Array Oper} {rest : List Oper} {o : Oper} {a : Act} {w : World} {Q : Exit → Act → World → Prop} (hgd : o.guard = none) (ty : TypeId) (x : Operand) (ho : o.op = .load ty x)
    (g off : Nat) (hx : a.eval x = .pointer (some ⟨g, off, none⟩)) (cs : List Value) (d : TypeDesc) (hc : ∀ j v, cs[j]? = some v → w.cell? ⟨g, off + j, none⟩ = some v)
    (hu : P.underlying ty = some d) (hd : (match d with | .struct _ | .array _ _ => true | _ => false) = true) (hi : (P.info? ty).map (·.size) = some cs.length)
    (h : wpList P ops Q rest (a.put o.dst (.agg cs.toArray)) w) : wpList P ops Q (o :: rest) a w :=
  wpList_plain hgd fun _ hK => by
    unfold Oper.wp execOp
    simp only [ho, hx, Instr.loadAt, Instr.sureAddr, Sem.run_bind, Sem.run_pure, Result.andThen_ok, run_loadVar_part w g off ty cs d hc hu hd hi]
    exact hK _ _ h
end
section
variable {P : Program}
/-- A whole store into a block; the walk stops behind it. -/
theorem wpList_store_at6 {ops : Array Oper} {rest : List Oper} {o : Oper} {a : Act} {w : World} {Q : Exit → Act → World → Prop} (hgd : o.guard = none) (ty : TypeId) (x y : Operand) (ho : o.op = .store ty x y)
    (g : Nat) (cells : Array Value) (hx : a.eval x = .pointer (some ⟨g, 0, none⟩)) (hy : a.eval y = .agg cells)
    (t : TypeId) (old : Array Value) (hg : At w g old t) (hi : (P.info? ty).map (·.size) = some cells.size)
    (hold : old.size = cells.size) (h1 : cells.all (·.oneCell') = true)
    (h : ∀ w', Hid (w' = w.setRow g cells) → wpList P ops Q rest (a.put o.dst undef) w') : wpList P ops Q (o :: rest) a w :=
  wpList_store_row hgd ty x y ho g cells hx hy t old hg.out hi hold h1 (h _ (Lib.hid rfl))
theorem wpList_load_at {ops : Array Oper} {rest : List Oper} {o : Oper} {a : Act} {w : World} {Q : Exit → Act → World → Prop} (hgd : o.guard = none) (ty : TypeId) (x : Operand) (ho : o.op = .load ty x)
    (g : Nat) (hx : a.eval x = .pointer (some ⟨g, 0, none⟩)) (t : TypeId) (cs : Array Value) (d : TypeDesc) (hg : At w g cs t)
    (hu : P.underlying ty = some d) (hd : (match d with | .struct _ | .array _ _ => true | _ => false) = true) (hi : (P.info? ty).map (·.size) = some cs.size)
    (h : wpList P ops Q rest (a.put o.dst (.agg cs)) w) : wpList P ops Q (o :: rest) a w :=
  wpList_load_row hgd ty x ho g hx t cs (0, 0) d hg.out hu hd hi h
theorem wpStill_load_at {ops : Array Oper} {rest : List Oper} {o : Oper} {a : Act} {w : World} {Q : Act → Prop} (hgd : o.guard = none) (ty : TypeId) (x : Operand) (ho : o.op = .load ty x)
    (g : Nat) (hx : a.eval x = .pointer (some ⟨g, 0, none⟩)) (t : TypeId) (cs : Array Value) (d : TypeDesc) (hg : At w g cs t)
    (hu : P.underlying ty = some d) (hd : (match d with | .struct _ | .array _ _ => true | _ => false) = true) (hi : (P.info? ty).map (·.size) = some cs.size)
    (h : wpStill P ops w Q rest (a.put o.dst (.agg cs))) : wpStill P ops w Q (o :: rest) a := by
  refine wpStill_step (fun K hK => ?_)
  have hw : Region.wanted o (yielded ops a.tmps) = true := by simp [Region.wanted, hgd]
  rw [if_pos hw]
  unfold Oper.still execOp
  simp only [ho, hx, Instr.loadAt, Instr.sureAddr, Sem.run_bind, Sem.run_pure, Result.andThen_ok, run_loadVar_row w g t ty cs (0, 0) d hg.out hu hd hi]
  exact ⟨rfl, hK _ h⟩
end
theorem At.row {W : World} {b : Nat} {c c' : Array Value} {t : TypeId} (h : At W b c t) : At (W.setRow b c') b c' t := ⟨setRow_heap W b c c' t (0, 0) h.out⟩
theorem At.rowOther {W : World} {b k : Nat} {c c' : Array Value} {t : TypeId} (h : At W b c t) (hne : b ≠ k) : At (W.setRow k c') b c t := ⟨by rw [setRow_other W k b c' hne]; exact h.out⟩
theorem below_row6 {W w : World} (h : Below W.heap.size W w) (b : Nat) (c : Array Value) (hb : W.heap.size ≤ b) : Below W.heap.size W (w.setRow b c) :=
  ⟨h.os, h.tape, h.output, by rw [size_setRow]; exact h.size, fun k hk => by rw [setRow_other w b k c (by omega)]; exact h.block k hk⟩

/-! ### The cells of a node -/
def nodeC (k : Int) (f : UInt8 → Bool) (s : Bool) (v : Value) : Array Value := #[.int .i64 k] ++ btab f 256 ++ #[.bool s, v]
def noF : UInt8 → Bool := fun _ => false
def nilS : Value := .slice none 0 0
theorem nodeC_size (k : Int) (f : UInt8 → Bool) (s : Bool) (v : Value) : (nodeC k f s v).size = 259 := by simp [nodeC, btab_size]
theorem nodeC_kind (k : Int) (f : UInt8 → Bool) (s : Bool) (v : Value) : (nodeC k f s v)[0]? = some (.int .i64 k) := by
  unfold nodeC
  rw [Array.getElem?_append_left (by simp [btab_size]), Array.getElem?_append_left (by simp)]; rfl
theorem nodeC_bit (k : Int) (f : UInt8 → Bool) (s : Bool) (v : Value) (i : Nat) (h : i < 256) : (nodeC k f s v)[1 + i]? = some (.bool (f (UInt8.ofNat i))) := by
  unfold nodeC
  rw [Array.getElem?_append_left (by simp [btab_size]; omega), Array.getElem?_append_right (by simp)]
  have e : 1 + i - (#[Value.int .i64 k] : Array Value).size = i := by simp
  rw [e, btab_get f 256 i h, if_pos h]
theorem nodeC_single (k : Int) (f : UInt8 → Bool) (s : Bool) (v : Value) : (nodeC k f s v)[257]? = some (.bool s) := by
  unfold nodeC
  rw [Array.getElem?_append_right (by simp [btab_size])]
  simp [btab_size]
theorem nodeC_args (k : Int) (f : UInt8 → Bool) (s : Bool) (v : Value) : (nodeC k f s v)[258]? = some v := by
  unfold nodeC
  rw [Array.getElem?_append_right (by simp [btab_size])]
  simp [btab_size]
theorem nodeC_ext {a : Array Value} {k : Int} {f : UInt8 → Bool} {s : Bool} {v : Value} (hs : a.size = 259) (h0 : a[0]? = some (.int .i64 k)) (h1 : ∀ i, i < 256 → a[1 + i]? = some (.bool (f (UInt8.ofNat i)))) (h2 : a[257]? = some (.bool s)) (h3 : a[258]? = some v) : a = nodeC k f s v := by
  apply Array.ext_getElem?
  intro i
  by_cases e0 : i = 0
  · subst e0; rw [h0, nodeC_kind]
  by_cases e1 : i < 257
  · obtain ⟨j, rfl⟩ : ∃ j, i = 1 + j := ⟨i - 1, by omega⟩
    rw [h1 j (by omega), nodeC_bit _ _ _ _ j (by omega)]
  by_cases e2 : i = 257
  · subst e2; rw [h2, nodeC_single]
  by_cases e3 : i = 258
  · subst e3; rw [h3, nodeC_args]
  rw [Array.getElem?_eq_none (by omega), Array.getElem?_eq_none (by rw [nodeC_size]; omega)]
theorem getSet_ne {a : Array Value} {i j : Nat} {v : Value} (h : i ≠ j) : (a.setIfInBounds i v)[j]? = a[j]? := by
  rw [Array.getElem?_setIfInBounds, if_neg h]
theorem getSet_self {a : Array Value} {i : Nat} {v : Value} (h : i < a.size) : (a.setIfInBounds i v)[i]? = some v := by
  rw [Array.getElem?_setIfInBounds, if_pos rfl, if_pos h]
theorem nodeC_setKind (k k' : Int) (f : UInt8 → Bool) (s : Bool) (v : Value) : (nodeC k f s v).setIfInBounds 0 (.int .i64 k') = nodeC k' f s v := by
  apply nodeC_ext
  · rw [Array.size_setIfInBounds, nodeC_size]
  · exact getSet_self (by rw [nodeC_size]; omega)
  · intro i hi; rw [getSet_ne (by omega), nodeC_bit _ _ _ _ i hi]
  · rw [getSet_ne (by omega), nodeC_single]
  · rw [getSet_ne (by omega), nodeC_args]
theorem nodeC_setSingle (k : Int) (f : UInt8 → Bool) (s s' : Bool) (v : Value) : (nodeC k f s v).setIfInBounds 257 (.bool s') = nodeC k f s' v := by
  apply nodeC_ext
  · rw [Array.size_setIfInBounds, nodeC_size]
  · rw [getSet_ne (by omega), nodeC_kind]
  · intro i hi; rw [getSet_ne (by omega), nodeC_bit _ _ _ _ i hi]
  · exact getSet_self (by rw [nodeC_size]; omega)
  · rw [getSet_ne (by omega), nodeC_args]
theorem nodeC_setArgs (k : Int) (f : UInt8 → Bool) (s : Bool) (v v' : Value) : (nodeC k f s v).setIfInBounds 258 v' = nodeC k f s v' := by
  apply nodeC_ext
  · rw [Array.size_setIfInBounds, nodeC_size]
  · rw [getSet_ne (by omega), nodeC_kind]
  · intro i hi; rw [getSet_ne (by omega), nodeC_bit _ _ _ _ i hi]
  · rw [getSet_ne (by omega), nodeC_single]
  · exact getSet_self (by rw [nodeC_size]; omega)
theorem nodeC_setBit (k : Int) (f g : UInt8 → Bool) (s : Bool) (v : Value) (i : Nat) (b : Bool) (hi : i < 256) (hg : ∀ c : UInt8, g c = if c.toNat = i then b else f c) : (nodeC k f s v).setIfInBounds (1 + i) (.bool b) = nodeC k g s v := by
  have hn : ∀ j, j < 256 → (UInt8.ofNat j).toNat = j := fun j hj => by rw [UInt8.toNat_ofNat']; omega
  apply nodeC_ext
  · rw [Array.size_setIfInBounds, nodeC_size]
  · rw [getSet_ne (by omega), nodeC_kind]
  · intro j hj
    by_cases e : i = j
    · subst e
      rw [getSet_self (by rw [nodeC_size]; omega), hg, if_pos (hn i hi)]
    · rw [getSet_ne (by omega), nodeC_bit _ _ _ _ j hj, hg, if_neg (by rw [hn j hj]; omega)]
  · rw [getSet_ne (by omega), nodeC_single]
  · rw [getSet_ne (by omega), nodeC_args]
theorem btab_no : btab noF 256 = Array.replicate 256 (.bool false) := by
  apply Array.ext_getElem?
  intro i
  by_cases h : i < 256
  · rw [btab_get noF 256 i h, if_pos h, Array.getElem?_replicate, if_pos h]; rfl
  · rw [Array.getElem?_eq_none (by rw [btab_size]; omega), Array.getElem?_eq_none (by simp; omega)]
theorem zero_node0 : Tryz.zeroCells112 = #[.int .i64 0] ++ Array.replicate 256 (.bool false) ++ #[.bool false, .slice none 0 0] := by kernel_rfl
theorem zero_node : Tryz.zeroCells112 = nodeC 0 noF false nilS := by
  rw [zero_node0]; unfold nodeC; rw [btab_no]; rfl
theorem nodeC_one (k : Int) (f : UInt8 → Bool) (s : Bool) (v : Value) (h : v.oneCell' = true) : (nodeC k f s v).all (·.oneCell') = true := by
  rw [Array.all_eq_true_iff_forall_mem]
  intro x hx
  obtain ⟨i, hi⟩ := Array.getElem?_of_mem hx
  have hl : i < 259 := by
    have := (Array.getElem?_eq_some_iff.1 hi).1
    rw [nodeC_size] at this; exact this
  by_cases e0 : i = 0
  · subst e0; rw [nodeC_kind] at hi; injection hi with hi; subst hi; rfl
  by_cases e1 : i < 257
  · obtain ⟨j, rfl⟩ : ∃ j, i = 1 + j := ⟨i - 1, by omega⟩
    rw [nodeC_bit _ _ _ _ j (by omega)] at hi; injection hi with hi; subst hi; rfl
  by_cases e2 : i = 257
  · subst e2; rw [nodeC_single] at hi; injection hi with hi; subst hi; rfl
  · obtain rfl : i = 258 := by omega
    rw [nodeC_args] at hi; injection hi with hi; subst hi; exact h
attribute [irreducible] nodeC
theorem info_node : (Tryz.prog.info? 112).map (fun i => (i.size, i.bytes)) = some (259, 296) := by kernel_rfl
theorem size_node : (Tryz.prog.info? 112).map (·.size) = some 259 := by kernel_rfl
end Go.Proofs.YthckgmbadmilfaaGreat

namespace Go.Proofs.YthckgmbadmilfaaGreat
open Go.RowKit Rx

theorem at_two (W : World) (c d : Array Value) (t u : TypeId) : At ((W.alloc (.cells c t)).alloc (.cells d u)) (W.heap.size + 1) d u := by
  have h := At.new (W.alloc (.cells c t)) d u
  have e : (W.alloc (.cells c t)).heap.size = W.heap.size + 1 := by show (W.heap.push _).size = _; simp
  rwa [e] at h
theorem two_lt (W : World) (o p : Obj) : ((W.alloc o).alloc p).heap.size = W.heap.size + 2 := by show ((W.heap.push _).push _).size = _; simp
theorem built1 : (Tryz.zeroCells112.setIfInBounds 0 (.int .i64 1)).setIfInBounds 257 (.bool true) = nodeC 1 noF true nilS := by
  rw [zero_node, nodeC_setKind, nodeC_setSingle]
theorem size_nodeC (k : Int) (f : UInt8 → Bool) (s : Bool) (v : Value) : (Tryz.prog.info? 112).map (·.size) = some (nodeC k f s v).size := by rw [nodeC_size]; exact size_node

set_option maxRecDepth 100000 in
set_option maxHeartbeats 1000000 in
theorem rsingle_any (c : UInt8) (W : World) : Calls Tryz.prog 164 #[.int .u8 c.toNat] W fun e w' => e = .returned (.agg (nodeC 1 (fun x => x == c) true nilS)) ∧ Below W.heap.size W w' := by
  have hc := c.toNat_lt
  have HBU := Lib.hid built1
  have HZ := Lib.hid zero_node
  go_enter Tryz.func164, Tryz.ntmps164
  go_wp2_with (refine wpList_store_at6 rfl 112 (.tmp 3) (.tmp 4) rfl (W.heap.size + 1) _ rfl rfl 112 _ (at_two W _ _ _ _) (by rw [HBU.out]; exact size_nodeC _ _ _ _) (by rw [HBU.out, HZ.out, nodeC_size, nodeC_size]) (by rw [HBU.out]; exact nodeC_one _ _ _ _ rfl) ?_)
  intro w1 hw1
  have h1 : At w1 (W.heap.size + 1) (nodeC 1 noF true nilS) 112 := by rw [hw1.out, HBU.out]; exact (at_two W _ _ _ _).row
  have h2 : At w1 W.heap.size (nodeC 0 noF false nilS) 112 := by
    rw [hw1.out, ← zero_node]
    exact ((At.new W _ _).alloc _).rowOther (by omega)
  have h3 : Below W.heap.size W w1 := by
    rw [hw1.out]
    exact below_row6 (((Below.refl _ _).alloc (Nat.le_refl _) _).alloc (by show W.heap.size ≤ (W.heap.push _).size; simp) _) _ _ (by omega)
  have d0 : w1.cell? ⟨W.heap.size + 1, 1 + c.toNat, none⟩ = some (.bool false) := by rw [h1.cell, nodeC_bit _ _ _ _ _ hc]; rfl
  have d1 : w1.frozen? ⟨W.heap.size + 1, 1 + c.toNat, none⟩ = false := h1.free _
  have h4 : At (w1.setCell ⟨W.heap.size + 1, 1 + c.toNat, none⟩ (.bool true)) (W.heap.size + 1) (nodeC 1 (fun x => x == c) true nilS) 112 := by
    rw [← nodeC_setBit 1 noF (fun x => x == c) true nilS c.toNat true hc (fun x => by
      by_cases e : x = c
      · subst e; simp
      · rw [if_neg (fun h => e (UInt8.toNat_inj.1 h))]; exact beq_eq_false_iff_ne.2 e)]
    exact h1.set _ _
  have h5 : At (w1.setCell ⟨W.heap.size + 1, 1 + c.toNat, none⟩ (.bool true)) W.heap.size (nodeC 0 noF false nilS) 112 := h2.other _ (by show W.heap.size ≠ W.heap.size + 1; omega)
  have h6 : Below W.heap.size W (w1.setCell ⟨W.heap.size + 1, 1 + c.toNat, none⟩ (.bool true)) := h3.setCell (by show W.heap.size ≤ W.heap.size + 1; omega) _
  have H4 := Lib.hid h4
  have H5 := Lib.hid h5
  have H6 := Lib.hid h6
  clear hw1 h1 h2 h3 h4 h5 h6
  go_wp2_with (first | (refine wpList_load_at rfl 112 (.tmp 3) rfl (W.heap.size + 1) rfl 112 _ _ H4.out Tryz.underlying112 rfl (size_nodeC _ _ _ _) ?_) | (refine wpList_store_at6 rfl 112 (.tmp 2) (.tmp 8) rfl W.heap.size _ rfl rfl 112 _ H5.out (size_nodeC _ _ _ _) (by rw [nodeC_size, nodeC_size]) (nodeC_one _ _ _ _ rfl) ?_))
  intro w2 hw2
  have h7 : At w2 W.heap.size (nodeC 1 (fun x => x == c) true nilS) 112 := by rw [hw2.out]; exact H5.out.row
  have h8 : Below W.heap.size W w2 := by rw [hw2.out]; exact below_row6 H6.out _ _ (Nat.le_refl _)
  have H7 := Lib.hid h7
  have H8 := Lib.hid h8
  clear hw2 h7 h8
  go_wp2_with fail
  refine bodyPost_ret (v := .agg (nodeC 1 (fun x => x == c) true nilS)) (results_cell_row rfl _ _ W.heap.size 112 _ (0, 0) _ rfl H7.out.out Tryz.underlying112 rfl (size_nodeC _ _ _ _)) rfl ⟨rfl, H8.out⟩
end Go.Proofs.YthckgmbadmilfaaGreat
