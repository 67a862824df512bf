/- Walks: strings.Builder (what it is written with; what it says). Walks: strings.Builder's writers and its String. A range over a function: what the walks want beyond the kit's laws. -/
import Derived.Test.YtoojpfcnekpboaaGreatZAD
import Derived.Test.YtoojpfcnekpboaaGreatZAJ
import Derived.Shelf.Strings.Builder1
import Derived.Lib.OthersKept
import Derived.RangeFuncNested
import Derived.RangeFuncBound
import Derived.RangeFuncCalls
import Derived.RangeFuncLeaves
import Derived.RangeFuncBox
import Derived.OwnWalkIn
import Derived.TacticsInMore
import Derived.LoopNIn
import Derived.LoopIn
namespace Go.Proofs.YtoojpfcnekpboaaGreat
open Go.RowKit

/-- A builder in block b, of the call's own. -/
structure BL (W : World) (b : Nat) (l : List UInt8) (w : World) : Prop where
  ge : W.heap.size ≤ b
  below : Below W.heap.size W w
  ex : ∃ (p A : Option Addr) (n c : Nat), (p = none ∨ p = some ⟨b, 0, none⟩) ∧ At w b #[.pointer p, .slice A n c] 106 ∧ l.length = n ∧ w.ownsRow W.heap.size 5 1 (.slice A n c) n (l.map u8W)
/-- All blocks but the builder's and rows of bytes stand as they stood. -/
abbrev OK8 (b : Nat) (w w' : World) : Prop := Lib.OthersKept 5 (some b) w w'
theorem At.ok8 {w w' : World} {b k : Nat} {c : Array Value} {t : TypeId} (h : At w k c t) (ho : OK8 b w w') (hne : k ≠ b) (ht : t ≠ 5) : At w' k c t :=
  ⟨ho k _ h.out (fun e => hne (by injection e)) (fun c' fz e => by injection e with _ e2 _; exact ht e2)⟩
theorem BL.new {W w : World} (h : Below W.heap.size W w) : BL W w.heap.size [] (w.alloc (.cells #[.pointer none, .slice none 0 0] 106)) :=
  ⟨h.size, h.alloc h.size _, none, none, 0, 0, .inl rfl, At.new _ _ _, rfl, World.ownsRow_nil _ _ _ _⟩
theorem BL.drewN {W w : World} {b : Nat} {l : List UInt8} (h : BL W b l w) (n : Nat) : BL W b l (w.drewN n) := by
  obtain ⟨p, A, n1, c, h1, h2, h3, h4⟩ := h.ex
  exact ⟨h.ge, bN h.below n, p, A, n1, c, h1, h2.drewN n, h3, h4⟩
theorem BL.lt {W w : World} {b : Nat} {l : List UInt8} (h : BL W b l w) : b < w.heap.size := by
  obtain ⟨p, A, n1, c, h1, h2, h3, h4⟩ := h.ex
  exact h2.lt
/-- What makes memory alone leaves a builder as it is. -/
theorem BL.keep {W w w' : World} {b : Nat} {l : List UInt8} (h : BL W b l w) (hb : Below w.heap.size w w') : BL W b l w' := by
  obtain ⟨p, A, n1, c, h1, h2, h3, h4⟩ := h.ex
  refine ⟨h.ge, h.below.trans (hb.mono h.below.size), p, A, n1, c, h1, h2.below hb, h3, ?_⟩
  exact h4.kept (row := none) ⟨hb.os, hb.tape, hb.output, hb.size, fun k hk _ => hb.block k hk⟩ (by cases A <;> simp [Value.ownBlock])
theorem BL.alloc {W w : World} {b : Nat} {l : List UInt8} (h : BL W b l w) (o : Obj) : BL W b l (w.alloc o) := h.keep ((Below.refl _ _).alloc (Nat.le_refl _) o)
/-- A store into a block that is neither the builder's nor its row's. -/
theorem BL.setCell {W w : World} {b g : Nat} {l : List UInt8} {c : Array Value} {t : TypeId} (h : BL W b l w) (hg : At w g c t) (hne : g ≠ b) (ht : t ≠ 5) (hW : W.heap.size ≤ g) (i : Nat) (v : Value) : BL W b l (w.setCell ⟨g, i, none⟩ v) := by
  obtain ⟨p, A, n1, c1, h1, h2, h3, h4⟩ := h.ex
  refine ⟨h.ge, h.below.setCell hW _, p, A, n1, c1, h1, h2.other _ (fun e => hne e.symm), h3, ?_⟩
  refine h4.kept (row := some g) ⟨rfl, rfl, rfl, by simp, fun k _ hk => Below.heap_setCell w ⟨g, i, none⟩ v k (fun e => hk (by rw [e]))⟩ ?_
  rcases h4.2 with ⟨e, _⟩ | ⟨g', cap, cur, e, _, hh, _⟩
  · rw [e]
    exact .inl rfl
  · refine .inr (fun e2 => ?_)
    rw [e] at e2
    have e3 : g' = g := by simpa [Value.ownBlock] using e2
    subst e3
    have := hg.out
    rw [hh] at this
    injection this with this
    injection this with _ e4 _
    exact ht e4.symm

set_option maxHeartbeats 1000000 in
set_option maxRecDepth 100000 in
theorem copyCheck_used (b : Nat) (w : World) (h0 : w.cell? ⟨b, 0, none⟩ = some (.pointer (some ⟨b, 0, none⟩))) :
    Calls Tryz.prog 93 #[.pointer (some ⟨b, 0, none⟩)] w fun e w' => e = .returned (.tuple #[]) ∧ w' = w := by
  obtain ⟨j, hj⟩ : ∃ j, Tryz.prog.info? 106 = some j := Option.isSome_iff_exists.1 (by kernel_rfl)
  go_enter Tryz.func93, Tryz.ntmps93
  go_wp2
  rw [Lib.run_neq_ptr_same w _ Tryz.underlying103 hj]
  go_wp2
  go_end0
  exact ⟨rfl, rfl⟩
set_option maxHeartbeats 1000000 in
set_option maxRecDepth 100000 in
theorem copyCheck_fresh (b : Nat) (w : World) (h0 : w.cell? ⟨b, 0, none⟩ = some (.pointer none)) (hsh : w.shape? b = some (106, 2)) (hfz : w.frozen? ⟨b, 0, none⟩ = false) :
    Calls Tryz.prog 93 #[.pointer (some ⟨b, 0, none⟩)] w fun e w' => e = .returned (.tuple #[]) ∧ w' = w.setCell ⟨b, 0, none⟩ (.pointer (some ⟨b, 0, none⟩)) := by
  obtain ⟨j, hj, hjs⟩ : ∃ j, Tryz.prog.info? 106 = some j ∧ j.size = 2 := by
    have h : (Tryz.prog.info? 106).map (·.size) = some 2 := by kernel_rfl
    cases hq : Tryz.prog.info? 106 with
    | none => rw [hq] at h; cases h
    | some i => rw [hq] at h; exact ⟨i, rfl, by simpa using h⟩
  go_enter Tryz.func93, Tryz.ntmps93
  go_wp2
  rw [Lib.run_to_unsafe w ⟨b, 0, none⟩ Tryz.underlying103 Tryz.underlying181 hj (by rw [hjs]; decide) hsh (Nat.zero_lt_succ 1)]
  simp only [Result.andThen]
  rw [Oper.upon_value]
  go_wp2
  rw [run_callFunc_extern Tryz.func125 (by kernel_rfl) (by kernel_rfl) (by kernel_rfl) (e := Extern.AbiNoEscape.same) (by kernel_rfl)]
  rw [Lib.run_noEscape]
  simp only [Result.andThen]
  rw [Oper.upon_value]
  go_wp2
  rw [Lib.run_from_unsafe w ⟨b, 0, none⟩ Tryz.underlying181 Tryz.underlying103 hj hsh (by kernel_rfl)]
  simp only [Result.andThen]
  rw [Oper.upon_value]
  go_wp2
  go_end0
  exact ⟨rfl, rfl⟩
theorem copyCheck_any (W : World) (b : Nat) (l : List UInt8) (w : World) (h : BL W b l w) :
    Calls Tryz.prog 93 #[.pointer (some ⟨b, 0, none⟩)] w fun e w' => e = .returned (.tuple #[]) ∧ (OK8 b w w' ∧ w.heap.size ≤ w'.heap.size) ∧ Below W.heap.size W w' ∧ ∃ (A : Option Addr) (n c : Nat), At w' b #[.pointer (some ⟨b, 0, none⟩), .slice A n c] 106 ∧ l.length = n ∧ w'.ownsRow W.heap.size 5 1 (.slice A n c) n (l.map u8W) := by
  obtain ⟨p, A, n1, c, h1, h2, h3, h4⟩ := h.ex
  rcases h1 with rfl | rfl
  · refine (copyCheck_fresh b w (h2.cell 0) (by unfold World.shape?; rw [h2.out]; rfl) (h2.free 0)).mono ?_
    rintro e w' ⟨rfl, rfl⟩
    refine ⟨rfl, ⟨(Lib.OthersKept.refl _ _ w).setCell ⟨b, 0, none⟩ rfl _, by simp⟩, h.below.setCell (p := ⟨b, 0, none⟩) h.ge _, A, n1, c, h2.set 0 _, h3, ?_⟩
    refine h4.kept (row := some b) ⟨rfl, rfl, rfl, by simp, fun k _ hk => Below.heap_setCell w ⟨b, 0, none⟩ _ k (fun e => hk (by rw [e]))⟩ ?_
    rcases h4.2 with ⟨e, _⟩ | ⟨g', cap, cur, e, _, hh, _⟩
    · rw [e]
      exact .inl rfl
    · refine .inr (fun e2 => ?_)
      rw [e] at e2
      have e3 : g' = b := by simpa [Value.ownBlock] using e2
      subst e3
      have := h2.out
      rw [hh] at this
      injection this with this
      injection this with _ e4 _
      exact absurd e4 (by decide)
  · refine (copyCheck_used b w (h2.cell 0)).mono ?_
    rintro e w' ⟨rfl, rfl⟩
    exact ⟨rfl, ⟨Lib.OthersKept.refl _ _ _, Nat.le_refl _⟩, h.below, A, n1, c, h2, h3, h4⟩
end Go.Proofs.YtoojpfcnekpboaaGreat

namespace Go.Proofs.YtoojpfcnekpboaaGreat
open Go.RowKit

theorem own_kind {w : World} {B n c : Nat} {A : Option Addr} {xs : List Value} (h : w.ownsRow B 5 1 (.slice A n c) n xs) : ∀ g, A.map (·.block) = some g → ∃ cs fz, w.heap[g]? = some (.cells cs 5 fz) := by
  intro g hg
  rcases h.2 with ⟨e, _⟩ | ⟨g', cap, cur, e, _, hh, _⟩
  · obtain ⟨rfl, _, _⟩ := (Value.slice.injEq _ _ _ _ _ _).mp e
    cases hg
  · obtain ⟨rfl, _, _⟩ := (Value.slice.injEq _ _ _ _ _ _).mp e
    injection hg with hg
    subst hg
    exact ⟨_, _, hh⟩
theorem own_not {w : World} {B n c b : Nat} {A : Option Addr} {xs : List Value} {cs : Array Value} (h : w.ownsRow B 5 1 (.slice A n c) n xs) (hb : At w b cs 106) : A.map (·.block) ≠ some b := by
  intro e
  obtain ⟨c', fz, hh⟩ := own_kind h b e
  rw [hb.out] at hh
  injection hh with hh
  injection hh with _ e4 _
  exact absurd e4 (by decide)
theorem BL.put {W w w2 : World} {b n n' c c' : Nat} {l l' : List UInt8} {A A' : Option Addr} (hW : W.heap.size ≤ b) (hb : At w b #[.pointer (some ⟨b, 0, none⟩), .slice A n c] 106) (hrow : w.ownsRow W.heap.size 5 1 (.slice A n c) n (l.map u8W)) (hq : BR W A' n' c' l' w2) (hr2 : w2.ownsRow W.heap.size 5 1 (.slice A' n' c') n' (l'.map u8W)) (hg : Gro w w2 A A') :
    BL W b l' (w2.setCell ⟨b, 1, none⟩ (.slice A' n' c')) := by
  have h1 : At w2 b #[.pointer (some ⟨b, 0, none⟩), .slice A n c] 106 := hg.at_ hb (own_not hrow hb)
  refine ⟨hW, hq.below.setCell hW _, some ⟨b, 0, none⟩, A', n', c', .inr rfl, h1.set 1 _, hq.len, ?_⟩
  refine hr2.kept (row := some b) ⟨rfl, rfl, rfl, by simp, fun k _ hk => Below.heap_setCell w2 ⟨b, 1, none⟩ _ k (fun e => hk (by rw [e]))⟩ (.inr ?_)
  rw [own_slice]
  exact own_not hr2 h1
theorem Gro.ok8 {w w2 : World} {A A' : Option Addr} {b B n c : Nat} {xs : List Value} (hg : Gro w w2 A A') (hrow : w.ownsRow B 5 1 (.slice A n c) n xs) : OK8 b w w2 :=
  (Lib.OthersKept.refl _ _ w).grown hg.grow (own_kind hrow)

/-- append to a row that is owned. -/
theorem wpList_bstrO {ops : Array Oper} {rest : List Oper} {o : Oper} {a : Act} {Q : Exit → Act → World → Prop} {W w0 : World} {A : Option Addr} {n c : Nat} {l : List UInt8} (hgd : o.guard = none) (s x : Operand)
    (ho : o.op = .call { callee := .builtin .append, args := #[s, x], argTypes := #[104, 9] }) (hrow : w0.ownsRow W.heap.size 5 1 (.slice A n c) n (l.map u8W)) (hbl0 : Below W.heap.size W w0) (hln : l.length = n) (t : ByteArray)
    (hs : a.eval s = .slice A n c) (hx : a.eval x = .string t) (hl : n + t.size ≤ 1000000000000)
    (K : ∀ A' n' c' l' w', Hid (l' = l ++ bs t) → w'.ownsRow W.heap.size 5 1 (.slice A' n' c') n' (l'.map u8W) → l'.length = n' → Below W.heap.size W w' → Gro w0 w' A A' → wpList Tryz.prog ops Q rest (a.put o.dst (.slice A' n' c')) w') :
    wpList Tryz.prog ops Q (o :: rest) a w0 := by
  refine wpList_plain hgd fun K' hK => ?_
  unfold Oper.wp execOp
  obtain ⟨v', w', hr, h2, hg, hw⟩ := run_append_str w0 A c n W.heap.size (l.map u8W) hrow t hl hbl0.size o.type
  obtain ⟨A', c', rfl, hgr⟩ := grown_where h2 hg hw
  have hbl : Below W.heap.size W w' := hbl0.grown hg hbl0.size (fun k hk => (hrow.lt k hk).1)
  simp only [ho, resolve, invoke, builtin, Sem.run_bind, Sem.run_pure, Result.andThen_ok, List.map_toArray, List.map_cons, List.map_nil, hs, hx, hr]
  exact hK _ _ (K A' _ c' _ w' (Lib.hid rfl) (by rw [List.map_append]; exact h2) (by rw [List.length_append, hln]; rfl) hbl hgr)
theorem wpList_byteO {ops : Array Oper} {rest : List Oper} {o : Oper} {a : Act} {Q : Exit → Act → World → Prop} {W w0 : World} {A : Option Addr} {n c : Nat} {l : List UInt8} (hgd : o.guard = none) (s x : Operand)
    (ho : o.op = .call { callee := .builtin .append, args := #[s, x], argTypes := #[104, 104] }) (hrow : w0.ownsRow W.heap.size 5 1 (.slice A n c) n (l.map u8W)) (hbl0 : Below W.heap.size W w0) (hln : l.length = n) (b : UInt8)
    (hs : a.eval s = .slice A n c) (hx : a.eval x = .slice (some ⟨w0.heap.size, 0, none⟩) 1 1) (hl : n + 1 ≤ 1000000000000)
    (K : ∀ A' n' c' l' w', Hid (l' = l ++ [b]) → w'.ownsRow W.heap.size 5 1 (.slice A' n' c') n' (l'.map u8W) → l'.length = n' → Below W.heap.size W w' → Gro w0 w' A A' → wpList Tryz.prog ops Q rest (a.put o.dst (.slice A' n' c')) w') :
    wpList Tryz.prog ops Q (o :: rest) a (w0.alloc (.cells #[.int .u8 b.toNat] 5)) := by
  obtain ⟨i0, hi, hz0, hz1, hz2⟩ := info_parts info_u8W
  have hB : W.heap.size ≤ (w0.alloc (.cells #[.int .u8 b.toNat] 5)).heap.size := by have := hbl0.size; simp; omega
  refine wpList_append_own_at _ hgd s x 104 ho W.heap.size 5 i0 _ 1 1 Tryz.underlying104 hi hz0 hz1 hz2 rfl (by decide) (.slice A n c) n (l.map u8W) hs (hrow.alloc _) ⟨w0.heap.size, 0, none⟩ 1 1 [u8W b] hx (by simp)
    (World.news_of_block (cs := #[.int .u8 b.toNat]) (t := 5) (fr := (0, 0)) (heap_alloc_new _ _)) (one_u8W [b]) (by unfold maxLen; omega) (by omega) hB ?_
  intro v' w' hr hg _ hw
  obtain ⟨A', c', rfl, hgr⟩ := grown_where hr hg hw
  have hbl : Below W.heap.size W w' := (hbl0.alloc hbl0.size _).grown hg hB (fun k hk => (hrow.lt k hk).1)
  exact K A' _ c' _ w' (Lib.hid rfl) (by rw [List.map_append]; exact hr) (by rw [List.length_append, hln]; rfl) hbl hgr.ofAlloc

set_option maxHeartbeats 1000000 in
set_option maxRecDepth 100000 in
theorem writeStringS_any (W : World) (b : Nat) (l : List UInt8) (s : ByteArray) (w : World) (h : BL W b l w) (hl : l.length + s.size ≤ 1000000000000) :
    Calls Tryz.prog 64 #[.pointer (some ⟨b, 0, none⟩), .string s] w fun e w' => e = .returned (.tuple #[.int .i64 s.size, .nilIface]) ∧ BL W b (l ++ bs s) w' ∧ OK8 b w w' ∧ w.heap.size ≤ w'.heap.size := by
  have HC := Lib.hid (copyCheck_any W b l w h)
  have HG := Lib.hid h.ge
  have HL := Lib.hid hl
  clear h hl
  go_enter Tryz.func64, Tryz.ntmps64
  go_wp2_with fail
  refine HC.out.mono ?_
  rintro e w1 ⟨rfl, ⟨ho, hsz1⟩, hbl, A, n, c, hat, hln, hrow⟩
  have c1 : w1.cell? ⟨b, 1, none⟩ = some (.slice A n c) := hat.cell 1
  have HO := Lib.hid ho
  have HSZ1 := Lib.hid hsz1
  have HAT := Lib.hid hat
  have HRW := Lib.hid hrow
  have HN := Lib.hid hln
  have HBL := Lib.hid hbl
  clear ho hsz1 hat hrow hln hbl HC
  go_wp2_with (at_builtin; (refine wpList_bstrO rfl (.tmp 12) (.tmp 13) rfl HRW.out HBL.out HN.out s rfl rfl (by have := HL.out; have := HN.out; omega) ?_))
  intro A' n' c' l' w2 HE hrow2 hln2 hbl2 hg
  have hat2 : At w2 b #[.pointer (some ⟨b, 0, none⟩), .slice A n c] 106 := hg.at_ HAT.out (own_not HRW.out HAT.out)
  have d0 : w2.cell? ⟨b, 1, none⟩ = some (.slice A n c) := hat2.cell 1
  have d1 := hat2.free 1
  have HO2 : Hid (OK8 b w (w2.setCell ⟨b, 1, none⟩ (.slice A' n' c'))) := Lib.hid ((HO.out.trans (hg.ok8 HRW.out)).setCell ⟨b, 1, none⟩ rfl _)
  have HP : Hid (BL W b (l ++ bs s) (w2.setCell ⟨b, 1, none⟩ (.slice A' n' c'))) := Lib.hid (by rw [← HE.out]; exact BL.put HG.out HAT.out HRW.out ⟨hln2, .inl hrow2, hbl2⟩ hrow2 hg)
  have HS2 : Hid (w.heap.size ≤ (w2.setCell ⟨b, 1, none⟩ (.slice A' n' c')).heap.size) := Lib.hid (by have := hg.grow.size; have := HSZ1.out; simp; omega)
  clear hrow2 hln2 hbl2 hg hat2
  go_wp2_with fail
  go_ret2
  exact ⟨rfl, HP.out, HO2.out, HS2.out⟩
theorem writeString_any (W : World) (b : Nat) (l : List UInt8) (s : ByteArray) (w : World) (h : BL W b l w) (hl : l.length + s.size ≤ 1000000000000) :
    Calls Tryz.prog 64 #[.pointer (some ⟨b, 0, none⟩), .string s] w fun e w' => e = .returned (.tuple #[.int .i64 s.size, .nilIface]) ∧ BL W b (l ++ bs s) w' ∧ OK8 b w w' :=
  (writeStringS_any W b l s w h hl).mono fun _ _ ⟨h1, h2, h3, _⟩ => ⟨h1, h2, h3⟩
set_option maxHeartbeats 1000000 in
set_option maxRecDepth 100000 in
theorem writeByte_any (W : World) (b : Nat) (l : List UInt8) (x : UInt8) (w : World) (h : BL W b l w) (hl : l.length + 1 ≤ 1000000000000) :
    Calls Tryz.prog 124 #[.pointer (some ⟨b, 0, none⟩), .int .u8 x.toNat] w fun e w' => e = .returned .nilIface ∧ BL W b (l ++ [x]) w' ∧ OK8 b w w' := by
  have HC := Lib.hid (copyCheck_any W b l w h)
  have HG := Lib.hid h.ge
  have HL := Lib.hid hl
  clear h hl
  go_enter Tryz.func124, Tryz.ntmps124
  go_wp2_with fail
  refine HC.out.mono ?_
  rintro e w1 ⟨rfl, ⟨ho, hsz1⟩, hbl, A, n, c, hat, hln, hrow⟩
  have c1 : w1.cell? ⟨b, 1, none⟩ = some (.slice A n c) := hat.cell 1
  have HO := Lib.hid ho
  have HAT := Lib.hid hat
  have HRW := Lib.hid hrow
  have HN := Lib.hid hln
  have HBL := Lib.hid hbl
  clear ho hsz1 hat hrow hln hbl HC
  go_wp2_with (at_builtin; (refine wpList_byteO rfl (.tmp 11) (.tmp 13) rfl HRW.out HBL.out HN.out x rfl rfl (by have := HL.out; have := HN.out; omega) ?_))
  intro A' n' c' l' w2 HE hrow2 hln2 hbl2 hg
  have hat2 : At w2 b #[.pointer (some ⟨b, 0, none⟩), .slice A n c] 106 := hg.at_ HAT.out (own_not HRW.out HAT.out)
  have d0 : w2.cell? ⟨b, 1, none⟩ = some (.slice A n c) := hat2.cell 1
  have d1 := hat2.free 1
  have HO2 : Hid (OK8 b w (w2.setCell ⟨b, 1, none⟩ (.slice A' n' c'))) := Lib.hid ((HO.out.trans (hg.ok8 HRW.out)).setCell ⟨b, 1, none⟩ rfl _)
  have HP : Hid (BL W b (l ++ [x]) (w2.setCell ⟨b, 1, none⟩ (.slice A' n' c'))) := Lib.hid (by rw [← HE.out]; exact BL.put HG.out HAT.out HRW.out ⟨hln2, .inl hrow2, hbl2⟩ hrow2 hg)
  clear hrow2 hln2 hbl2 hg hat2
  go_wp2_with fail
  go_ret
  exact ⟨rfl, HP.out, HO2.out⟩
theorem bstringK_any (W : World) (b : Nat) (l : List UInt8) (w : World) (h : BL W b l w) :
    Calls Tryz.prog 66 #[.pointer (some ⟨b, 0, none⟩)] w fun e w' => e = .returned (.string (str l)) ∧ Below W.heap.size W w' ∧ OK8 b w w' := by
  obtain ⟨p, A, n, c, h1, h2, h3, h4⟩ := h.ex
  have hb : Lib.IsBuilder 106 5 W.heap.size b (Lib.byteCells l) w := by
    have key : ∀ q : Value, At w b #[q, .slice A n c] 106 → Lib.BuilderAt 106 5 W.heap.size b q (Lib.byteCells l) w := fun q hq =>
      ⟨h.ge, .slice A n c, hq.out, by rw [Lib.byteCells_length, h3]; exact h4, by rw [own_slice]; exact own_not h4 hq⟩
    rcases h1 with rfl | rfl
    · exact .inl (key _ h2)
    · exact .inr (key _ h2)
  refine (Tryz.Builder_String_any_k W.heap.size b l w (Lib.IsBuilderF.of hb) h.below.size).mono ?_
  rintro e w' ⟨rfl, _, hbl, ho⟩
  exact ⟨rfl, h.below.trans hbl, ho⟩
theorem bstring_any (W : World) (b : Nat) (l : List UInt8) (w : World) (h : BL W b l w) :
    Calls Tryz.prog 66 #[.pointer (some ⟨b, 0, none⟩)] w fun e w' => e = .returned (.string (str l)) ∧ Below W.heap.size W w' :=
  (bstringK_any W b l w h).mono fun _ _ ⟨h1, h2, _⟩ => ⟨h1, h2⟩
end Go.Proofs.YtoojpfcnekpboaaGreat

namespace Go.Proofs.YtoojpfcnekpboaaGreat
open Go.RowKit

section
variable {F : Fence} {nF : Nat} {P : Program} {ops : Array Oper} {rest : List Oper} {o : Oper} {a : Act} {w : World} {Q : Exit → Act → World → Prop}
theorem wpListIn_load_mid (hgd : o.guard = none) (ty : TypeId) (x : Operand) (ho : o.op = .load ty x)
    (b off : Nat) (hx : a.eval x = .pointer (some ⟨b, off, none⟩)) (cs : List Value) (d : TypeDesc) (hc : w.rangeAt b off cs)
    (hu : P.underlying ty = some d) (hd : d.isRow = true) (hi : (P.info? ty).map (·.size) = some cs.length)
    (h : wpListIn F nF P ops Q rest (a.put o.dst (.agg cs.toArray)) w) : wpListIn F nF P ops Q (o :: rest) a w := by
  refine wpListIn_plain hgd fun K hK => ?_
  unfold Oper.wpIn
  refine ⟨by simp [Oper.about, ho], ?_⟩
  rw [Oper.semAt_plain F _ _ (by rw [ho]; intro c hc'; cases hc')]
  unfold execOp
  simp only [ho, hx, Instr.loadAt, Instr.sureAddr, Sem.run_bind, Sem.run_pure, Result.andThen_ok, run_loadVar_mid w b off ty cs d hc hu hd hi]
  exact hK _ _ h
theorem wpListIn_store_at (hgd : o.guard = none) (ty : TypeId) (x y : Operand) (ho : o.op = .store ty x y)
    (g : Nat) (cells : Array Value) (hx : a.eval x = .pointer (some ⟨g, 0, none⟩)) (hy : a.eval y = .agg cells)
    (t : TypeId) (old : Array Value) (hg : At w g old t) (hi : (P.info? ty).map (·.size) = some cells.size)
    (hold : old.size = cells.size) (h1 : cells.all (·.oneCell') = true)
    (h : ∀ w', Hid (w' = w.setRow g cells) → wpListIn F nF P ops Q rest (a.put o.dst undef) w') : wpListIn F nF P ops Q (o :: rest) a w := by
  refine wpListIn_plain hgd fun K hK => ?_
  unfold Oper.wpIn
  refine ⟨by simp [Oper.about, ho], ?_⟩
  rw [Oper.semAt_plain F _ _ (by rw [ho]; intro c hc'; cases hc')]
  unfold execOp
  simp only [ho, hx, hy, Instr.storeAt, Instr.sureAddr, Sem.run_bind, Sem.run_pure, Result.andThen_ok, run_storeVar_row (P := P) w g t ty old cells hg.out hi hold h1]
  exact hK _ _ (h _ (Lib.hid rfl))
end
/-- A function whose body holds a range over a function, walked by the plain words. -/
theorem calls_marks {P : Program} {f : FuncId} {fn : Func} {c : Code} {args : Array Value} {w : World} {R : Ending → World → Prop}
    (hf : P.funcs[f]? = some fn) (hb : fn.body = some c)
    (h : c.wp P (bodyPostM Fence.wide 9 P fn R) { tmps := args ++ Array.replicate (fn.ntmps - args.size) undef, defers := [] } w) : Calls P f args w R :=
  callsIn_wide.1 (callsIn_of_wp_marks (n := 9) hf hb trivial (wpIn_wide.2 h) rfl)
theorem marks_ret {P : Program} {fn : Func} {R : Ending → World → Prop} {tmps : Array Value} {w : World} {v : Value} (h : (results fn tmps).run P w = .ok v w) (hR : R (.returned v) w) : bodyPostM Fence.wide 9 P fn R .ret { tmps, defers := [] } w := ⟨v, h, hR⟩
theorem marks_ret1 {P : Program} {fn : Func} {R : Ending → World → Prop} {tmps : Array Value} {w : World} {v : Value} {D : Nat} (hK : w.heap[D]? = some (.deferred (some []))) (h : (results fn tmps).run P (w.putObj D (.deferred none)) = .ok v (w.putObj D (.deferred none))) (hR : R (.returned v) (w.putObj D (.deferred none))) :
    bodyPostM Fence.wide 9 P fn R .ret { tmps, defers := [{ target := .collected D, args := #[] }] } w :=
  ⟨by simp, .inl ⟨_, _, rfl, run_takeDeferred hK, v, h, hR⟩⟩

/-! ### What a round keeps -/
/-- What lay below n₀ lies as it lay; and all cells but block b's and the rows of bytes. -/
structure KC (n₀ b : Nat) (W W' : World) : Prop where
  below : Below n₀ W W'
  keep : ∀ k c t fz, W.heap[k]? = some (.cells c t fz) → k ≠ b → t ≠ 5 → W'.heap[k]? = some (.cells c t fz)
section
variable {n₀ b : Nat} {A B C : World}
theorem KC.refl (n₀ b : Nat) (A : World) : KC n₀ b A A := ⟨Below.refl _ _, fun _ _ _ _ h _ _ => h⟩
theorem KC.trans (h : KC n₀ b A B) (k : KC n₀ b B C) : KC n₀ b A C := ⟨h.below.trans k.below, fun i c t fz h1 h2 h3 => k.keep i c t fz (h.keep i c t fz h1 h2 h3) h2 h3⟩
theorem KC.ofBelow (h : Below A.heap.size A B) (hn : n₀ ≤ A.heap.size) : KC n₀ b A B := ⟨h.mono hn, fun _ _ _ _ h1 _ _ => (h.block _ (Array.getElem?_eq_some_iff.1 h1).1).trans h1⟩
theorem KC.ofOK8 (h : OK8 b A B) (hb : Below n₀ A B) : KC n₀ b A B := ⟨hb, fun k _ _ _ h1 h2 h3 => h k _ h1 (fun e => h2 (by injection e)) (fun _ _ e => by injection e with _ e2 _; exact h3 e2)⟩
theorem KC.putObj (W : World) (l : Nat) (o o' : Obj) (hn : n₀ ≤ l) (h : W.heap[l]? = some o) (hc : o.isCells = false) : KC n₀ b W (W.putObj l o') :=
  ⟨(Below.refl n₀ W).grown (grownBy_putObj' W l o') (by have := (Array.getElem?_eq_some_iff.1 h).1; omega) (fun k e => by cases e; omega), fun _ _ _ _ h1 _ _ => by
    rw [World.putObj_heap_other (fun e => by rw [e, h] at h1; injection h1 with h1; rw [h1] at hc; cases hc)]
    exact h1⟩
theorem KC.setCell (n₀ b : Nat) (W : World) (i : Nat) (v : Value) (hn : n₀ ≤ b) : KC n₀ b W (W.setCell ⟨b, i, none⟩ v) :=
  ⟨(Below.refl n₀ W).setCell (p := ⟨b, i, none⟩) hn _, fun k _ _ _ h1 h2 _ => by rw [heap_setCell_other W ⟨b, i, none⟩ k v h2]; exact h1⟩
theorem At.kc {k : Nat} {c : Array Value} {t : TypeId} (h : At A k c t) (hk : KC n₀ b A B) (h1 : k ≠ b) (h2 : t ≠ 5) : At B k c t := ⟨hk.keep k c t _ h.out h1 h2⟩
end
/-- Nothing that is no cells has turned. -/
theorem keeps_of_below {B : Nat} {A C : World} (h : Below A.heap.size A C) : KeepsFrom B A C := ⟨h.size, fun _ _ _ h1 _ => (h.block _ (Array.getElem?_eq_some_iff.1 h1).1).trans h1⟩
theorem keeps_of_ok8 {B b : Nat} {A C : World} {c : Array Value} {t : TypeId} (h : OK8 b A C) (hs : A.heap.size ≤ C.heap.size) (hb : At A b c t) : KeepsFrom B A C := ⟨hs, fun k o _ h1 h2 => h k o h1 (fun e => by
  injection e with e
  subst e
  rw [hb.out] at h1
  injection h1 with h1
  rw [← h1] at h2
  cases h2) (fun _ _ e => by rw [e] at h2; cases h2)⟩

/-! ### The chunks' list with its slices named -/
def CK (B : Nat) (w : World) (A : Option Addr) (xs : List Chk) (f : Fin xs.length → Option Addr × Nat) : Prop :=
  ∀ k : Fin xs.length, ∃ b o, A = some ⟨b, o, none⟩ ∧ b < B ∧ w.rangeAt b (o + k.1 * 16) (chC (xs[k]).sig (f k).1 (xs[k]).labs.length (f k).2 (xs[k]).zone (xs[k]).data).toList ∧ LabsIn B w (f k).1 (xs[k]).labs ∧ (xs[k]).labs.length ≤ (f k).2
theorem ChksIn.choose {B : Nat} {w : World} {A : Option Addr} {xs : List Chk} (h : ChksIn B w A xs) : ∃ f, CK B w A xs f := by
  have h1 : ∀ k : Fin xs.length, ∃ y : Option Addr × Nat, ∃ b o, A = some ⟨b, o, none⟩ ∧ b < B ∧ w.rangeAt b (o + k.1 * 16) (chC (xs[k]).sig y.1 (xs[k]).labs.length y.2 (xs[k]).zone (xs[k]).data).toList ∧ LabsIn B w y.1 (xs[k]).labs ∧ (xs[k]).labs.length ≤ y.2 := fun k => by
    obtain ⟨b, o, A', c', h1, h2, h3, h4, h5⟩ := h.at_ k.1 k.2
    exact ⟨(A', c'), b, o, h1, h2, h3, h4, h5⟩
  exact ⟨fun k => Classical.choose (h1 k), fun k => Classical.choose_spec (h1 k)⟩
theorem CK.below {B : Nat} {w w' : World} {A : Option Addr} {xs : List Chk} {f : Fin xs.length → Option Addr × Nat} (h : CK B w A xs f) (hb : Below B w w') : CK B w' A xs f := fun k => by
  obtain ⟨b, o, h1, h2, h3, h4, h5⟩ := h k
  exact ⟨b, o, h1, h2, fun j v hj => (hb.cell (p := ⟨b, o + k.1 * 16 + j, none⟩) h2).trans (h3 j v hj), h4.below hb, h5⟩
end Go.Proofs.YtoojpfcnekpboaaGreat
