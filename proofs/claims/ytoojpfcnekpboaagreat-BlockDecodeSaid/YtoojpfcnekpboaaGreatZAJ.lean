/- Walks: a block is checked (the program's). DERIVED: THE SHELF's CONTRACTS AT THIS DUMP, IN PLAIN WORDS (tools/lay-plain.mjs out of 'TryzShelf.lean', which tools/lay-shelf.mjs wrote): THE SAME DECLARATIONS UNDER THE SAME NAMES: 'import', 'namespace', 'open', 'def', 'theorem' AND NOTHING ELSE: no command of the shelf's: FOR A HAND-IN. Each laying: the table of numbers ('.._ren') and one theorem, a field a fact of the dump's own or the kernel's comparison; each contract: ONE APPLICATION. -/
import Derived.Test.YtoojpfcnekpboaaGreatZAI
import Derived.Shelf.Strings.Builder1
import Derived.Shelf.Small.Strs
import Derived.Shelf.Strings.BuilderF
import Derived.Shelf.Strings.BuilderK
import Derived.Shelf.Strings.Search1
import Derived.Test.YtoojpfcnekpboaaGreatProg
namespace Go.Proofs.YtoojpfcnekpboaaGreat
open Go.RowKit

theorem wpStill_load_midG {P : Program} {w : World} {ops : Array Oper} {rest : List Oper} {o : Oper} {a : Act} {Q : Act → Prop} (hw : Region.wanted o (yielded ops a.tmps) = true) (ty : TypeId) (x : Operand) (ho : o.op = .load ty x)
    (b off : Nat) (hx : a.eval x = .pointer (some ⟨b, off, none⟩)) (cs : List Value) (d : TypeDesc) (hc : w.rangeAt b off cs)
    (hu : P.underlying ty = some d) (hd : d.isRow = true) (hi : (P.info? ty).map (·.size) = some cs.length)
    (h : wpStill P ops w Q rest (a.put o.dst (.agg cs.toArray))) : wpStill P ops w Q (o :: rest) a := by
  refine wpStill_step (fun K hK => ?_)
  rw [if_pos hw]
  unfold Oper.still execOp
  simp only [ho, hx, Instr.loadAt, Instr.sureAddr, Sem.run_bind, Sem.run_pure, Result.andThen_ok, run_loadVar_mid w b off ty cs d hc hu hd hi]
  exact ⟨rfl, hK _ h⟩
/-- A whole store into a block; the walk stops behind it. -/
theorem wpList_store_at {P : Program} {ops : Array Oper} {rest : List Oper} {o : Oper} {a : Act} {w : World} {Q : Exit → Act → World → Prop} (hgd : o.guard = none) (ty : TypeId) (x y : Operand) (ho : o.op = .store ty x y)
    (g : Nat) (cells : Array Value) (hx : a.eval x = .pointer (some ⟨g, 0, none⟩)) (hy : a.eval y = .agg cells)
    (t : TypeId) (old : Array Value) (hg : At w g old t) (hi : (P.info? ty).map (·.size) = some cells.size)
    (hold : old.size = cells.size) (h1 : cells.all (·.oneCell') = true)
    (h : ∀ w', Hid (w' = w.setRow g cells) → wpList P ops Q rest (a.put o.dst undef) w') : wpList P ops Q (o :: rest) a w :=
  wpList_store_row hgd ty x y ho g cells hx hy t old hg.out hi hold h1 (h _ (Lib.hid rfl))
theorem At.row {W : World} {b : Nat} {c c' : Array Value} {t : TypeId} (h : At W b c t) : At (W.setRow b c') b c' t := ⟨setRow_heap W b c c' t (0, 0) h.out⟩
theorem below_row {B : Nat} {W w : World} (h : Below B W w) (b : Nat) (c : Array Value) (hb : B ≤ b) : Below B W (w.setRow b c) :=
  ⟨h.os, h.tape, h.output, by rw [size_setRow]; exact h.size, fun k hk => by rw [setRow_other w b k c (by omega)]; exact h.block k hk⟩
theorem ChksIn.below_ {B : Nat} {w w' : World} {A : Option Addr} {xs : List Chk} (h : ChksIn B w A xs) (hb : Below B w w') : ChksIn B w' A xs := h.below hb

theorem chC_one (s : Int) (A : Option Addr) (n c : Nat) (z : Zn) (d : ByteArray) : ((chC s A n c z d).all fun x => x.oneCell') = true := by simp [chC, Value.oneCell']
/-! ### The block -/
def blC (b : Blk) (A : Option Addr) (c : Nat) : Array Value := #[.int .i64 b.id, .int .i64 b.width, .int .i64 b.fr, .slice A b.chunks.length c]
def bchkAt (width : Int) (xs : List Chk) (k : Nat) : Int := bchkFrom width (if k = 0 then none else xs[k - 1]?) (xs.drop k)
theorem bchkAt_end {width : Int} {xs : List Chk} {k : Nat} (h : xs.length ≤ k) : bchkAt width xs k = 0 := by
  unfold bchkAt
  rw [List.drop_of_length_le h]
  split <;> rfl
theorem bchkAt_bad {width : Int} {xs : List Chk} {k : Nat} (h : k < xs.length) (hc : cchk xs[k] width ≠ 0) : bchkAt width xs k = cchk xs[k] width := by
  unfold bchkAt
  rw [List.drop_eq_getElem_cons h, bchkFrom, if_neg hc]
theorem bchkAt_order {width : Int} {xs : List Chk} {k : Nat} (h : k < xs.length) (hk : k ≠ 0) (hc : cchk xs[k] width = 0) (ho : 0 ≤ ccmp (xs[k - 1]'(by omega)) xs[k]) : bchkAt width xs k = 9 := by
  unfold bchkAt
  have h' : k - 1 < xs.length := by omega
  rw [List.drop_eq_getElem_cons h, bchkFrom, if_pos hc, if_neg hk, List.getElem?_eq_getElem h', if_pos (by simpa using ho)]
theorem bchkAt_first {width : Int} {xs : List Chk} (h : 0 < xs.length) (hc : cchk xs[0] width = 0) : bchkAt width xs 0 = bchkAt width xs 1 := by
  unfold bchkAt
  rw [List.drop_eq_getElem_cons h, bchkFrom, if_pos hc, if_pos rfl, if_neg (by simp), if_neg (by omega)]
  simp [List.getElem?_eq_getElem h]
theorem bchkAt_more {width : Int} {xs : List Chk} {k : Nat} (h : k < xs.length) (hk : k ≠ 0) (hc : cchk xs[k] width = 0) (ho : ¬ 0 ≤ ccmp (xs[k - 1]'(by omega)) xs[k]) : bchkAt width xs k = bchkAt width xs (k + 1) := by
  unfold bchkAt
  have h' : k - 1 < xs.length := by omega
  rw [List.drop_eq_getElem_cons h, bchkFrom, if_pos hc, if_neg hk, List.getElem?_eq_getElem h', if_neg (by simpa using ho), if_neg (by omega)]
  simp [List.getElem?_eq_getElem h]
/-- A chunk of the list: where it lies, and its labels. -/
theorem ChksIn.get {B : Nat} {w : World} {A : Option Addr} {xs : List Chk} (h : ChksIn B w A xs) (k : Nat) (hk : k < xs.length) : ∃ b o A' c', A = some ⟨b, o, none⟩ ∧ b < B ∧ Hid (w.rangeAt b (o + k * 16) (chC (xs[k]).sig A' (xs[k]).labs.length c' (xs[k]).zone (xs[k]).data).toList) ∧ Hid (LabsIn B w A' (xs[k]).labs) ∧ Hid ((xs[k]).labs.length ≤ c') := by
  obtain ⟨b, o, A', c', h1, h2, h3, h4, h5⟩ := h.at_ k hk
  exact ⟨b, o, A', c', h1, h2, Lib.hid h3, Lib.hid h4, Lib.hid h5⟩
theorem labsLen {x : Chk} {w : Int} (h : cchk x w = 0) : x.labs.length ≤ 16 := by
  unfold cchk at h
  split at h
  · omega
  split at h
  · omega
  split at h
  · rename_i h3; exact absurd h h3
  · rename_i h3
    have h4 : chkL x.labs = 0 := by
      rcases Decidable.em (chkL x.labs = 0) with h | h
      · exact h
      · exact absurd h h3
    unfold chkL at h4
    split at h4
    · omega
    · omega

set_option maxRecDepth 100000 in
set_option maxHeartbeats 4000000 in
theorem check_any (b : Blk) (A : Option Addr) (c : Nat) (w : World) (hl : ChksIn w.heap.size w A b.chunks) (hc : b.chunks.length ≤ c) (hn : ∀ x ∈ b.chunks, x.labs.length ≤ 9223372036854775807) :
    Calls Tryz.prog 60 #[.agg (blC b A c)] w fun e w' => e = .returned (.int .i64 (bchk b)) ∧ Below w.heap.size w w' := by
  have hat := At.new w (blC b A c) 25
  have hb : Below w.heap.size w (w.alloc (.cells (blC b A c) 25)) := (Below.refl _ _).alloc (Nat.le_refl _) _
  have hlt : w.heap.size < (w.alloc (.cells (blC b A c) 25)).heap.size := hat.lt
  have HB := Lib.hid hb
  have HAT := Lib.hid hat
  have HL := Lib.hid hl
  have HC := Lib.hid hc
  have HN := Lib.hid hn
  clear hat hl hc hb hn
  go_enter Tryz.func60, Tryz.ntmps60
  go_upto_region 1 with fail
  generalize w.alloc (.cells (blC b A c) 25) = w0 at *
  have c0 : w0.cell? ⟨w.heap.size, 0, none⟩ = some (.int .i64 b.id) := HAT.out.cell 0
  by_cases h0 : b.id < 1
  · have HR : Hid (bchk b = 2) := Lib.hid (by unfold bchk; rw [if_pos (.inl h0)])
    go_wp2_with fail
    go_ret
    exact ⟨ret_int HR.out.symm, HB.out⟩
  by_cases h1 : 1152921504606846976 < b.id
  · have HR : Hid (bchk b = 2) := Lib.hid (by unfold bchk; rw [if_pos (.inr h1)])
    go_wp2_with fail
    go_ret
    exact ⟨ret_int HR.out.symm, HB.out⟩
  have c1 : w0.cell? ⟨w.heap.size, 1, none⟩ = some (.int .i64 b.width) := HAT.out.cell 1
  have HA : Hid (¬ (b.id < 1 ∨ 1152921504606846976 < b.id)) := Lib.hid (by omega)
  by_cases h2 : b.width < 0
  · have HR : Hid (bchk b = 2) := Lib.hid (by unfold bchk; rw [if_neg HA.out, if_pos (.inl h2)])
    go_wp2_with fail
    go_ret
    exact ⟨ret_int HR.out.symm, HB.out⟩
  by_cases h3 : 1099511627776 < b.width
  · have HR : Hid (bchk b = 2) := Lib.hid (by unfold bchk; rw [if_neg HA.out, if_pos (.inr h3)])
    go_wp2_with fail
    go_ret
    exact ⟨ret_int HR.out.symm, HB.out⟩
  have HBB : Hid (¬ (b.width < 0 ∨ 1099511627776 < b.width)) := Lib.hid (by omega)
  have c2 : w0.cell? ⟨w.heap.size, 2, none⟩ = some (.int .i64 b.fr) := HAT.out.cell 2
  by_cases h4 : b.fr < 0
  · have HR : Hid (bchk b = 2) := Lib.hid (by unfold bchk; rw [if_neg HA.out, if_neg HBB.out, if_pos (.inl h4)])
    go_wp2_with fail
    go_ret
    exact ⟨ret_int HR.out.symm, HB.out⟩
  by_cases h5 : 1099511627776 < b.fr
  · have HR : Hid (bchk b = 2) := Lib.hid (by unfold bchk; rw [if_neg HA.out, if_neg HBB.out, if_pos (.inr (.inl h5))])
    go_wp2_with fail
    go_ret
    exact ⟨ret_int HR.out.symm, HB.out⟩
  have c3 : w0.cell? ⟨w.heap.size, 3, none⟩ = some (.slice A b.chunks.length c) := HAT.out.cell 3
  by_cases hwz : b.width = 0 ∧ b.fr ≠ 0
  · have HR : Hid (bchk b = 2) := Lib.hid (by unfold bchk; rw [if_neg HA.out, if_neg HBB.out, if_pos (.inr (.inr hwz))])
    have d1 : (b.width == 0) = true := beq_iff_eq.2 hwz.1
    have d2 : (b.fr != 0) = true := bne_iff_ne.2 hwz.2
    clear hwz
    go_wp2_with fail
    go_ret
    exact ⟨ret_int HR.out.symm, HB.out⟩
  have HCC : Hid (¬ (b.fr < 0 ∨ 1099511627776 < b.fr ∨ (b.width = 0 ∧ b.fr ≠ 0))) := Lib.hid (by omega)
  have HR0 : Hid (bchk b = if 4000 < b.chunks.length then 4 else bchkFrom b.width none b.chunks) := Lib.hid (by unfold bchk; rw [if_neg HA.out, if_neg HBB.out, if_neg HCC.out])
  obtain ⟨p, hp⟩ : ∃ p, (b.width == 0) = p := ⟨_, rfl⟩
  obtain ⟨q, hq⟩ : ∃ q, (b.fr != 0) = q := ⟨_, rfl⟩
  have hpq : (p && q) = false := by
    rw [← hp, ← hq]
    rw [Bool.and_eq_false_iff]
    rcases Decidable.em (b.width = 0) with h | h
    · right
      rcases Decidable.em (b.fr = 0) with h6 | h6
      · simp [h6]
      · exact absurd ⟨h, h6⟩ hwz
    · left; simp [h]
  clear hwz HA HBB HCC
  by_cases h6 : 4000 < b.chunks.length
  · have HR : Hid (bchk b = 4) := Lib.hid (by rw [HR0.out, if_pos h6])
    have h7 : (4000 : Int) < (b.chunks.length : Int) := by omega
    cases p <;> cases q
    all_goals first
      | (cases hpq; done)
      | (go_wp2_with fail
         go_ret
         exact ⟨ret_int HR.out.symm, HB.out⟩)
  have HR1 : Hid (bchk b = bchkAt b.width b.chunks 0) := Lib.hid (by rw [HR0.out, if_neg h6]; rfl)
  clear HR0
  cases p <;> cases q
  case true.true => cases hpq
  all_goals
    go_wp2_with fail
    clear c0 c1 c2 c3 h0 h1 h2 h3 h4 h5 hp hq hpq
    go_loopw [47] (fun i wr => ∃ k : Nat, k ≤ b.chunks.length ∧ i = .int .i64 k ∧ Hid (bchk b = bchkAt b.width b.chunks k) ∧ Hid (Below w0.heap.size w0 wr)) (fun i _ => b.chunks.length - (intOf i).toNat)
    case atStart => exact ⟨0, Nat.zero_le _, rfl, HR1, Lib.hid (Below.refl _ _)⟩
    case round =>
      obtain ⟨k, hk, rfl, HK, HD⟩ := hrel
      by_cases hlt : k < b.chunks.length
      · have HBW := Lib.hid (HB.out.trans (HD.out.mono HB.out.size))
        obtain ⟨g, o, A', c', rfl, hg, HRG, HLB, HCL⟩ := (HL.out.below HBW.out).get k hlt
        have HBE := Lib.hid (HAT.out.below HD.out)
        have hsz : w0.heap.size ≤ wr.heap.size := HD.out.size
        have hszw : w.heap.size < w0.heap.size := HAT.out.lt
        have HNK := Lib.hid (HN.out _ (List.getElem_mem hlt))
        obtain ⟨x, hx⟩ : ∃ x, b.chunks[k] = x := ⟨_, rfl⟩
        rw [hx] at HRG HLB HCL HNK
        have HX := Lib.hid hx
        clear hx
        go_wp2_with (first | (refine wpList_load_mid rfl 58 (.tmp 50) rfl g (o + k * 16) rfl (chC x.sig A' x.labs.length c' x.zone x.data).toList _ HRG.out Tryz.underlying58 rfl size_chunk ?_) | (refine wpList_store_at rfl 58 (.tmp 4) (.tmp 51) rfl wr.heap.size (chC x.sig A' x.labs.length c' x.zone x.data) rfl rfl 58 _ (At.new _ _ _) size_chunk rfl (chC_one _ _ _ _ _ _) ?_))
        intro w1 HW1
        have HB1 : Hid (Below w.heap.size w w1) := Lib.hid (by rw [HW1.out]; exact below_row (HBW.out.alloc HBW.out.size _) _ _ (by omega))
        have HD1 : Hid (Below w0.heap.size w0 w1) := Lib.hid (by rw [HW1.out]; exact below_row (HD.out.alloc HD.out.size _) _ _ (by omega))
        have HX1 : Hid (At w1 wr.heap.size (chC x.sig A' x.labs.length c' x.zone x.data) 58) := Lib.hid (by rw [HW1.out]; exact (At.new _ _ _).row)
        have HRR : Hid (Below wr.heap.size wr w1) := Lib.hid (by rw [HW1.out]; exact below_row ((Below.refl _ _).alloc (Nat.le_refl _) _) _ _ (Nat.le_refl _))
        clear HW1 HBE
        have c1 : w1.cell? ⟨w.heap.size, 1, none⟩ = some (.int .i64 b.width) := (HAT.out.below HD1.out).cell 1
        go_wp2_with (first | (refine wpList_load_mid rfl 58 (.tmp 4) rfl wr.heap.size 0 rfl (chC x.sig A' x.labs.length c' x.zone x.data).toList _ (range_at HX1.out) Tryz.underlying58 rfl size_chunk ?_))
        refine (checkChunk_any x A' c' b.width w1 ((HLB.out.below (HRR.out.mono (by omega))).mono HB1.out.size) HCL.out).mono ?_
        rintro e w2 ⟨rfl, hb⟩
        have HB2 := Lib.hid (HB1.out.trans (hb.mono HB1.out.size))
        have HD2 := Lib.hid (HD1.out.trans (hb.mono HD1.out.size))
        have HX2 := Lib.hid (HX1.out.below hb)
        have HR2 := Lib.hid (HRR.out.trans (hb.mono HRR.out.size))
        clear hb c1 HB1 HD1 HX1 HRR
        by_cases hz : cchk x b.width = 0
        · have HZ := Lib.hid hz
          rw [hz]
          clear hz
          by_cases hk0 : k = 0
          · subst hk0
            have HKN : Hid (bchk b = bchkAt b.width b.chunks 1) := Lib.hid (by rw [HK.out]; exact bchkAt_first hlt (by rw [HX.out]; exact HZ.out))
            go_wp2_with fail
            go_quiet (fail)
            go_wp2_with fail
            go_roundw
            case rel => exact ⟨1, hlt, by go_num, HKN, Lib.hid (bN HD2.out _)⟩
            case measure => simp [intOf]; omega
          · obtain ⟨g', o', A2, c2, he, hg', HRG', HLB', HCL'⟩ := (HL.out.below HB2.out).get (k - 1) (by omega)
            obtain ⟨rfl, rfl⟩ : g = g' ∧ o = o' := by cases he; exact ⟨rfl, rfl⟩
            obtain ⟨y, hy⟩ : ∃ y, b.chunks[k - 1] = y := ⟨_, rfl⟩
            rw [hy] at HRG' HLB' HCL'
            have HY := Lib.hid hy
            clear hy he
            have c3 : w2.cell? ⟨w.heap.size, 3, none⟩ = some (.slice (some ⟨g, o, none⟩) b.chunks.length c) := (HAT.out.below HD2.out).cell 3
            have hk1 : 0 < k := by omega
            have hw : IntKind.i64.wrap ((k : Int) - 1) = ((k - 1 : Nat) : Int) := by
              rw [show ((k : Int) - 1) = ((k - 1 : Nat) : Int) by omega]
              rw [IntKind.wrap_i64]
              omega
            have hj1 : (0 : Int) ≤ ((k - 1 : Nat) : Int) := by omega
            have hj2 : ((k - 1 : Nat) : Int) < (b.chunks.length : Int) := by omega
            go_wp2_with fail
            refine wp_region_still_tail 10 (by kernel_rfl) (by kernel_rfl) ?_
            simp only [List.take_succ_cons, List.take_zero, List.drop_succ_cons, List.drop_zero]
            still_step
            still_step
            still_step
            still_step
            still_step
            still_step
            still_step
            still_step
            refine wpStill_load_midG rfl 58 (.tmp 66) rfl g (o + (k - 1) * 16) rfl (chC y.sig A2 y.labs.length c2 y.zone y.data).toList _ HRG'.out Tryz.underlying58 rfl size_chunk ?_
            refine wpStill_load_midG rfl 58 (.tmp 4) rfl wr.heap.size 0 rfl (chC x.sig A' x.labs.length c' x.zone x.data).toList _ (range_at (w := w2) HX2.out) Tryz.underlying58 rfl size_chunk ?_
            refine wpStill_nil ?_
            change wpList _ _ _ _ _ w2.drew
            have HB3 : Hid (Below w.heap.size w w2.drew) := Lib.hid (bN HB2.out 1)
            have HD3 : Hid (Below w0.heap.size w0 w2.drew) := Lib.hid (bN HD2.out 1)
            have HLX : Hid (LabsIn w2.drew.heap.size w2.drew A' x.labs) := Lib.hid (((HLB.out.below (HR2.out.mono (by omega))).mono HB2.out.size))
            have HLY : Hid (LabsIn w2.drew.heap.size w2.drew A2 y.labs) := Lib.hid (HLB'.out.mono HB2.out.size)
            have HNY : Hid (y.labs.length ≤ 9223372036854775807) := Lib.hid (by rw [← HY.out]; exact HN.out _ (List.getElem_mem _))
            clear c3 HRG' HLB' HX2 HB2 HD2 HR2
            generalize w2.drew = w3 at *
            go_wp2_with fail
            refine (compareC_any y x A2 A' c2 c' w3 HLY.out HCL'.out HLX.out HCL.out HNY.out).mono ?_
            rintro e w4 ⟨rfl, hb⟩
            have HB4 := Lib.hid (HB3.out.trans (hb.mono HB3.out.size))
            have HD4 := Lib.hid (HD3.out.trans (hb.mono HD3.out.size))
            clear hb HB3 HD3
            by_cases hz2 : 0 ≤ ccmp y x
            · have HR : Hid (bchk b = 9) := Lib.hid (by rw [HK.out]; exact bchkAt_order hlt hk0 (by rw [HX.out]; exact HZ.out) (by rw [HX.out, HY.out]; exact hz2))
              go_wp2_with fail
              go_ret
              exact ⟨ret_int HR.out.symm, HB4.out⟩
            · have HKN : Hid (bchk b = bchkAt b.width b.chunks (k + 1)) := Lib.hid (by rw [HK.out]; exact bchkAt_more hlt hk0 (by rw [HX.out]; exact HZ.out) (by rw [HX.out, HY.out]; exact hz2))
              go_wp2_with fail
              go_roundw
              case rel => exact ⟨k + 1, hlt, by go_num, HKN, HD4⟩
              case measure => simp [intOf]; omega
        · have HR : Hid (bchk b = cchk x b.width) := Lib.hid (by rw [HK.out, bchkAt_bad hlt (by rw [HX.out]; exact hz), HX.out])
          have d : (cchk x b.width != 0) = true := bne_iff_ne.2 hz
          clear hz
          go_wp2_with fail
          go_ret
          exact ⟨ret_int HR.out.symm, HB2.out⟩
      · have HR : Hid (bchk b = 0) := Lib.hid (by rw [HK.out]; exact bchkAt_end (Nat.le_of_not_lt hlt))
        go_wp2_with fail
        go_ret
        exact ⟨ret_int HR.out.symm, HB.out.trans (HD.out.mono HB.out.size)⟩
end Go.Proofs.YtoojpfcnekpboaaGreat

namespace Go.Proofs
open Go.Shelf
def Tryz.lays169_ren : Go.Shelf.Ren := ⟨fun | 169 => 66 | n => n, fun | 70 => 103 | 9 => 9 | 0 => 0 | 72 => 106 | 37 => 104 | 127 => 143 | 3 => 3 | 5 => 5 | n => n, fun | n => n⟩
theorem Tryz.lays169 : Go.Proofs.Lays.n169 Tryz.prog Tryz.lays169_ren := {
  mixed := by kernel_rfl
  f169 := Tryz.func66.trans (congrArg some (by kernel_rfl))
  t0 := Tryz.underlying0
  a0 := Tryz.isAgg0
  z0 := Tryz.sizeOf0
  v0 := Tryz.zeroValue0
  t3 := Tryz.underlying3
  a3 := Tryz.isAgg3
  z3 := Tryz.sizeOf3
  v3 := Tryz.zeroValue3
  t9 := Tryz.underlying9
  a9 := Tryz.isAgg9
  z9 := Tryz.sizeOf9
  v9 := Tryz.zeroValue9
  t37 := Tryz.underlying104
  a37 := Tryz.isAgg104
  z37 := Tryz.sizeOf104
  v37 := Tryz.zeroValue104
  t70 := Tryz.underlying103
  a70 := Tryz.isAgg103
  z70 := Tryz.sizeOf103
  v70 := Tryz.zeroValue103
  t72 := Tryz.underlying106
  a72 := Tryz.isAgg106
  z72 := Tryz.sizeOf106
  v72 := Tryz.zeroValue106
  t127 := Tryz.underlying143
  a127 := Tryz.isAgg143
  z127 := Tryz.sizeOf143
  v127 := Tryz.zeroValue143 }
theorem Tryz.Builder_Extra_169 : Builder.Extra Tryz.prog Tryz.lays169_ren := {
  sizeBuilder := by kernel_rfl
  liesBuilder := by kernel_rfl
  t5 := Tryz.underlying5
  a5 := Tryz.isAgg5
  z5 := Tryz.sizeOf5
  v5 := Tryz.zeroValue5
  infoByte := by kernel_rfl
  cellsByte := by kernel_rfl
  sizeByte := by kernel_rfl
  neB5 := by decide }
open Go.RowKit in
/-- (*strings.Builder).String: "String returns the accumulated string.": OF A BUILDER THAT HOLDS AT LEAST ONE BYTE. ✋ THE MODEL FREEZES THOSE BYTES IN THE BUFFER (unsafe.String): a later write INTO them ends the model's run without an answer; a later append BEHIND them goes on. The statement's order of evaluation is drawn: one draw. THE FORM '_k': OVER 'Lib.IsBuilderF' (a builder that 'String()' may have read), AND WITH THE FRAME THAT REACHES ABOVE THE BUILDER: 'Lib.OthersKept': every block that is not b and is no row of uint8's stands as it stood: the iterator of a range among them. (LAID: no walk: one application.) -/
theorem Tryz.Builder_String_k (B b : Nat) (l : List UInt8) (w : World) (h : Lib.IsBuilderF 106 5 B b (Lib.byteCells l) w) (h0 : l ≠ []) :
    Calls Tryz.prog 66 #[.pointer (some ⟨b, 0, none⟩)] w fun e w' => e = .returned (.string ⟨l.toArray⟩) ∧ (Lib.IsBuilderF 106 5 B b (Lib.byteCells l) w' ∧ Below B w w' ∧ Lib.OthersKept 5 (some b) w w') := Any.Builder_String_k Tryz.lays169 Tryz.Builder_Extra_169 B b l w h h0
open Go.RowKit in
/-- (*strings.Builder).String OF A BUILDER THAT HOLDS NO BYTE: the empty string; THE FORM '_k': OVER 'Lib.IsBuilderF' (a builder that 'String()' may have read), AND WITH THE FRAME THAT REACHES ABOVE THE BUILDER: 'Lib.OthersKept': every block that is not b and is no row of uint8's stands as it stood: the iterator of a range among them. (LAID: no walk: one application.) -/
theorem Tryz.Builder_String_empty_k (B b : Nat) (w : World) (h : Lib.IsBuilderF 106 5 B b [] w) (hBw : B ≤ w.heap.size) :
    Calls Tryz.prog 66 #[.pointer (some ⟨b, 0, none⟩)] w fun e w' => e = .returned (.string ⟨#[]⟩) ∧ (Lib.IsBuilderF 106 5 B b [] w' ∧ Below B w w' ∧ Lib.OthersKept 5 (some b) w w') := Any.Builder_String_empty_k Tryz.lays169 Tryz.Builder_Extra_169 B b w h hBw
open Go.RowKit in
/-- (*strings.Builder).String: "String returns the accumulated string.": WHATEVER THE BUILDER HOLDS; THE FORM '_k': OVER 'Lib.IsBuilderF' (a builder that 'String()' may have read), AND WITH THE FRAME THAT REACHES ABOVE THE BUILDER: 'Lib.OthersKept': every block that is not b and is no row of uint8's stands as it stood: the iterator of a range among them. (LAID: no walk: one application.) -/
theorem Tryz.Builder_String_any_k (B b : Nat) (l : List UInt8) (w : World) (h : Lib.IsBuilderF 106 5 B b (Lib.byteCells l) w) (hBw : B ≤ w.heap.size) :
    Calls Tryz.prog 66 #[.pointer (some ⟨b, 0, none⟩)] w fun e w' => e = .returned (.string ⟨l.toArray⟩) ∧ (Lib.IsBuilderF 106 5 B b (Lib.byteCells l) w' ∧ Below B w w' ∧ Lib.OthersKept 5 (some b) w w') := Any.Builder_String_any_k Tryz.lays169 Tryz.Builder_Extra_169 B b l w h hBw
end Go.Proofs
