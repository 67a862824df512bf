/- Walks: equal blocks are the same (the reference's). Walks: equal lists of items are the same (the reference's SameItems). Walks: a block's file (the reference's). Walks: the directory (the program's). -/
import Derived.Test.YtoojpfcnekpboaaGreatZBW
import Derived.Deep.RegionHeld3
import Derived.BigQuiet
import Derived.Test.YtoojpfcnekpboaaGreatZBQ
import Derived.Test.YtoojpfcnekpboaaGreatZAS
namespace Go.Proofs.YtoojpfcnekpboaaGreat
open Go.RowKit Go.Shelf

set_option maxRecDepth 100000 in
set_option maxHeartbeats 2000000 in
theorem same_eq (b : Blk) (A A' : Option Addr) (c c' : Nat) (w : World) (hl : ChksIn w.heap.size w A b.chunks) (hc : b.chunks.length ≤ c) (hl' : ChksIn w.heap.size w A' b.chunks) (hc' : b.chunks.length ≤ c') (hn : ∀ x ∈ b.chunks, x.labs.length ≤ 9223372036854775807) (hf : b.chunks.length ≤ 4001) :
    Calls Tryz.prog 12 #[.agg (blC b A c), .agg (blC b A' c')] w fun e w' => e = .returned (.bool true) ∧ Below w.heap.size w w' := by
  have HX := Lib.hid ((At.new w (blC b A c) 25).alloc (.cells (blC b A' c') 25))
  have hY := At.new (w.alloc (.cells (blC b A c) 25)) (blC b A' c') 25
  have z1 : (w.alloc (.cells (blC b A c) 25)).heap.size = w.heap.size + 1 := by simp
  rw [z1] at hY
  have HY := Lib.hid hY
  have HB : Hid (Below w.heap.size w ((w.alloc (.cells (blC b A c) 25)).alloc (.cells (blC b A' c') 25))) := Lib.hid (((Below.refl _ _).alloc (Nat.le_refl _) _).alloc (by simp) _)
  have HL := Lib.hid (And.intro hl hl')
  have HC := Lib.hid (And.intro hc hc')
  have HNN := Lib.hid hn
  have hfi : (b.chunks.length : Int) ≤ 4001 := by omega
  clear hY z1 hl hl' hc hc' hn
  go_enter Tryz.func12, Tryz.ntmps12
  go_upto_region 1 with fail
  generalize (w.alloc (.cells (blC b A c) 25)).alloc (.cells (blC b A' c') 25) = w0 at *
  have x0 : w0.cell? ⟨w.heap.size, 0, none⟩ = some (.int .i64 b.id) := HX.out.cell 0
  have x1 : w0.cell? ⟨w.heap.size, 1, none⟩ = some (.int .i64 b.width) := HX.out.cell 1
  have x2 : w0.cell? ⟨w.heap.size, 2, none⟩ = some (.int .i64 b.fr) := HX.out.cell 2
  have x3 : w0.cell? ⟨w.heap.size, 3, none⟩ = some (.slice A b.chunks.length c) := HX.out.cell 3
  have y0 : w0.cell? ⟨w.heap.size + 1, 0, none⟩ = some (.int .i64 b.id) := HY.out.cell 0
  have y1 : w0.cell? ⟨w.heap.size + 1, 1, none⟩ = some (.int .i64 b.width) := HY.out.cell 1
  have y2 : w0.cell? ⟨w.heap.size + 1, 2, none⟩ = some (.int .i64 b.fr) := HY.out.cell 2
  have y3 : w0.cell? ⟨w.heap.size + 1, 3, none⟩ = some (.slice A' b.chunks.length c') := HY.out.cell 3
  go_wp2_with fail
  clear x0 x1 x2 x3 y0 y1 y2 y3
  go_loopw [5] (fun i wr => ∃ k : Nat, k ≤ b.chunks.length ∧ i = .int .i64 k ∧ Hid (Below w0.heap.size w0 wr)) (fun i _ => b.chunks.length - (intOf i).toNat)
  case atStart => exact ⟨0, Nat.zero_le _, rfl, Lib.hid (Below.refl _ _)⟩
  case round =>
    obtain ⟨k, hk, rfl, HD⟩ := hrel
    have x3 : wr.cell? ⟨w.heap.size, 3, none⟩ = some (.slice A b.chunks.length c) := (HX.out.below HD.out).cell 3
    have y3 : wr.cell? ⟨w.heap.size + 1, 3, none⟩ = some (.slice A' b.chunks.length c') := (HY.out.below HD.out).cell 3
    have HBW := Lib.hid (HB.out.trans (HD.out.mono HB.out.size))
    have hkm : (k : Int) ≤ 4001 := by omega
    by_cases hlt : k < b.chunks.length
    · have hki : (k : Int) < (b.chunks.length : Int) := by omega
      obtain ⟨g, o, A1, c1, rfl, hg, hrg, hlb, hcl⟩ := (HL.out.1.below HBW.out).at_ k hlt
      obtain ⟨g', o', A2, c2, rfl, hg', hrg', hlb', hcl'⟩ := (HL.out.2.below HBW.out).at_ k hlt
      have hxn := HNN.out _ (List.getElem_mem hlt)
      have HSC := Lib.hid (fun (W : World) (h : Below w.heap.size wr W) (hz : w.heap.size ≤ W.heap.size) => sameChunk_eq (b.chunks[k]) A1 A2 c1 c2 W ((hlb.below h).mono hz) hcl ((hlb'.below h).mono hz) hcl' hxn)
      have HR1 := Lib.hid hrg
      have HR2 := Lib.hid hrg'
      obtain ⟨x, hx⟩ : ∃ x, b.chunks[k] = x := ⟨_, rfl⟩
      rw [hx] at HSC HR1 HR2
      obtain ⟨U, hU⟩ : ∃ U, U = chC x.sig A1 x.labs.length c1 x.zone x.data := ⟨_, rfl⟩
      obtain ⟨V, hV⟩ : ∃ V, V = chC x.sig A2 x.labs.length c2 x.zone x.data := ⟨_, rfl⟩
      rw [← hU] at HR1
      rw [← hV] at HR2
      rw [← hU, ← hV] at HSC
      have hus : U.toList.length = 16 := by rw [hU]; rfl
      have hvs : V.toList.length = 16 := by rw [hV]; rfl
      have hz0 : w.heap.size ≤ wr.heap.size := HBW.out.size
      clear hU hV hx hg hg' hrg hrg' hlb hlb' hcl hcl' hxn
      go_upto_region 6 with fail
      refine wp_region_still_tail 10 (by kernel_rfl) (by kernel_rfl) ?_
      simp only [List.take_succ_cons, List.take_zero, List.drop_succ_cons, List.drop_zero]
      still_step
      still_step
      still_step
      still_step
      refine wpStill_load_midG rfl 58 (.tmp 44) rfl g (o + k * 16) rfl U.toList _ HR1.out Tryz.underlying58 rfl (by rw [hus]; exact size_chunk) ?_
      still_step
      still_step
      still_step
      still_step
      refine wpStill_load_midG rfl 58 (.tmp 49) rfl g' (o' + k * 16) rfl V.toList _ HR2.out Tryz.underlying58 rfl (by rw [hvs]; exact size_chunk) ?_
      refine wpStill_nil ?_
      change wpList _ _ _ _ _ wr.drew
      have HBD : Hid (Below w.heap.size wr wr.drew) := Lib.hid (bN (Below.refl _ _) 1)
      have HDD : Hid (Below w0.heap.size w0 wr.drew) := Lib.hid (bN HD.out 1)
      have HSD := Lib.hid (HSC.out wr.drew HBD.out hz0)
      clear x3 y3 HR1 HR2
      generalize wr.drew = w3 at *
      go_wp2_with fail
      refine HSD.out.mono ?_
      rintro e w4 ⟨rfl, hb⟩
      have HD4 := Lib.hid (HDD.out.trans (hb.mono HDD.out.size))
      clear hb
      go_wp2_with fail
      go_roundw
      case rel => exact ⟨k + 1, hlt, by go_num, HD4⟩
      case measure => simp [intOf]; omega
    · have hki : ¬ (k : Int) < (b.chunks.length : Int) := by omega
      go_wp2_with fail
      go_ret
      exact ⟨rfl, HBW.out⟩
end Go.Proofs.YtoojpfcnekpboaaGreat

namespace Go.Proofs.YtoojpfcnekpboaaGreat
open Go.RowKit Go.Shelf

theorem wpQuiet_load_midG {P : Program} {ops : Array Oper} {C : World → Prop} {rest : List Oper} {o : Oper} {a : Act} {Q : Act → Prop} (hw : Region.wanted o (yielded ops a.tmps) = true) (ty : TypeId) (x : Operand) (ho : o.op = .load ty x)
    (b off : Nat) (hx : a.eval x = .pointer (some ⟨b, off, none⟩)) (cs : List Value) (d : TypeDesc) (hc : ∀ w, C w → w.rangeAt b off cs)
    (hu : P.underlying ty = some d) (hd : d.isRow = true) (hi : (P.info? ty).map (·.size) = some cs.length)
    (h : wpQuiet P ops C Q rest (a.put o.dst (.agg cs.toArray))) : wpQuiet P ops C Q (o :: rest) a := by
  refine wpQuiet_step (fun K hK => ?_)
  rw [if_pos hw]
  refine ⟨_, fun w hC => ?_, hK _ h⟩
  unfold Oper.quietAt execOp
  simp only [ho, hx, Instr.loadAt, Instr.sureAddr, Sem.run_bind, Sem.run_pure, Result.andThen_ok, run_loadVar_mid w b off ty cs d (hc w hC) hu hd hi]
  exact ⟨rfl, rfl⟩
theorem wpQuiet_zneqG {ops : Array Oper} {C : World → Prop} {rest : List Oper} {o : Oper} {a : Act} {Q : Act → Prop} (hw : Region.wanted o (yielded ops a.tmps) = true) (x y : Operand) (t : TypeId) (ho : o.op = .binOp .neq 50 x y t) (u v : Zn)
    (hx : a.eval x = .agg u.cells) (hy : a.eval y = .agg v.cells) (b : Bool) (hb : (!decide (u = v)) = b)
    (h : wpQuiet Tryz.prog ops C Q rest (a.put o.dst (.bool b))) : wpQuiet Tryz.prog ops C Q (o :: rest) a := by
  have hm : Tryz.prog.eqGuardType Tryz.prog.depth 50 = false := by kernel_rfl
  refine wpQuiet_step (fun K hK => ?_)
  rw [if_pos hw]
  refine ⟨_, fun w hC => ?_, hK _ h⟩
  unfold Oper.quietAt execOp
  simp only [ho, hx, hy, Sem.run_bind, run_eqGuard_agg w .neq 50 x y _ _ hm, Result.andThen_ok, zone_neq, hb, Sem.run_pure]
  exact ⟨rfl, rfl⟩
theorem item_range {w : World} {b o : Nat} {s : Int} {A : Option Addr} {n c : Nat} {z : Zn} {p q : Int} (h : w.rangeAt b o (itC s A n c z p q).toList) : w.rangeAt b (o + 2) z.cells.toList := fun j v hj => by
  have hj' : j < 13 := by
    have := (List.getElem?_eq_some_iff.1 hj).1
    simpa [Zn.cells] using this
  have : (itC s A n c z p q).toList[2 + j]? = some v := by
    rw [← hj]
    rcases j with _ | _ | _ | _ | _ | _ | _ | _ | _ | _ | _ | _ | _ | j
    all_goals first | rfl | omega
  have h2 := h (2 + j) v this
  rw [← Nat.add_assoc] at h2
  exact h2
theorem rangeAt_drewN {w : World} {b o : Nat} {xs : List Value} (h : w.rangeAt b o xs) (n : Nat) : (w.drewN n).rangeAt b o xs := fun j v hv => h j v hv
set_option maxRecDepth 100000 in
set_option maxHeartbeats 2000000 in
theorem sameItems_eq (its : List Itm) (A A' : Option Addr) (c c' : Nat) (w : World) (hl : ItmsIn w.heap.size w A its) (hl' : ItmsIn w.heap.size w A' its) (hn : ∀ x ∈ its, x.labs.length ≤ 9223372036854775807) (hf : its.length ≤ 4001) :
    Calls Tryz.prog 13 #[.slice A its.length c, .slice A' its.length c'] w fun e w' => e = .returned (.bool true) ∧ Below w.heap.size w w' := by
  have HL := Lib.hid (And.intro hl hl')
  have HNN := Lib.hid hn
  clear hl hl' hn
  go_enter Tryz.func13, Tryz.ntmps13
  go_upto_region 4 with fail
  go_loopw [5] (fun i wr => ∃ k : Nat, k ≤ its.length ∧ i = .int .i64 k ∧ Hid (Below w.heap.size w wr)) (fun i _ => its.length + 1 - (intOf i).toNat)
  case atStart => exact ⟨0, Nat.zero_le _, rfl, Lib.hid (Below.refl _ _)⟩
  case round =>
    obtain ⟨k, hk, rfl, HB⟩ := hrel
    have hkm : (k : Int) ≤ 4001 := by omega
    by_cases hlt : k < its.length
    · have hki : (k : Int) < (its.length : Int) := by omega
      have hk0 : (0 : Int) ≤ (k : Int) := by omega
      obtain ⟨g, o, A1, c1, rfl, hg, hrg, hlb, hcl⟩ := (HL.out.1.below HB.out).get k hlt
      obtain ⟨g', o', A2, c2, rfl, hg', hrg', hlb', hcl'⟩ := (HL.out.2.below HB.out).get k hlt
      have hxn := HNN.out _ (List.getElem_mem hlt)
      obtain ⟨x, hx⟩ : ∃ x, its[k] = x := ⟨_, rfl⟩
      rw [hx] at hrg hlb hcl hrg' hlb' hcl' hxn
      have HSM : Hid (∀ (n : Nat) (_ : Unit), Calls Tryz.prog 36 #[.slice A1 x.labs.length c1, .slice A2 x.labs.length c2] (wr.drewN n) fun e w' => e = .returned (.bool true) ∧ ∃ m, w' = (wr.drewN n).drewN m) := Lib.hid (fun n _ => by
        have h := same05_any A1 A2 c1 c2 x.labs x.labs w.heap.size (wr.drewN n) (hlb.out.same fun _ _ => rfl) (hlb'.out.same fun _ _ => rfl) hcl.out hcl'.out hxn
        refine h.mono ?_
        rintro e w' ⟨rfl, hd⟩
        obtain ⟨m, hm⟩ := hd
        exact ⟨by rw [decide_eq_true (cmpL_zero.2 rfl)], m, hm⟩)
      have p0 : wr.cell? ⟨g, o + k * 17, none⟩ = some (.int .i64 x.sig) := hrg.out 0 _ rfl
      have p1 : wr.cell? ⟨g, o + k * 17 + 1, none⟩ = some (.slice A1 x.labs.length c1) := hrg.out 1 _ rfl
      have p15 : wr.cell? ⟨g, o + k * 17 + 15, none⟩ = some (.int .i64 x.off) := hrg.out 15 _ rfl
      have p16 : wr.cell? ⟨g, o + k * 17 + 16, none⟩ = some (.int .i64 x.size) := hrg.out 16 _ rfl
      have q0 : wr.cell? ⟨g', o' + k * 17, none⟩ = some (.int .i64 x.sig) := hrg'.out 0 _ rfl
      have q1 : wr.cell? ⟨g', o' + k * 17 + 1, none⟩ = some (.slice A2 x.labs.length c2) := hrg'.out 1 _ rfl
      have q15 : wr.cell? ⟨g', o' + k * 17 + 15, none⟩ = some (.int .i64 x.off) := hrg'.out 15 _ rfl
      have q16 : wr.cell? ⟨g', o' + k * 17 + 16, none⟩ = some (.int .i64 x.size) := hrg'.out 16 _ rfl
      have HZ1 : Hid (∀ W : World, (∃ n, W = wr.drewN n) → W.rangeAt g (o + k * 17 + 2) x.zone.cells.toList) := Lib.hid (by rintro W ⟨n, rfl⟩; exact rangeAt_drewN (item_range hrg.out) n)
      have HZ2 : Hid (∀ W : World, (∃ n, W = wr.drewN n) → W.rangeAt g' (o' + k * 17 + 2) x.zone.cells.toList) := Lib.hid (by rintro W ⟨n, rfl⟩; exact rangeAt_drewN (item_range hrg'.out) n)
      clear hrg hrg' hlb hlb' hcl hcl' hxn hx hg hg'
      go_upto_region 6 with fail
      refine wp_region_quiet_lit (by kernel_rfl) (by kernel_rfl) ?_
      quiet_step (exact Calls.quiet_of (HSM.out _ ()))
      quiet_step (exact Calls.quiet_of (HSM.out _ ()))
      quiet_step (exact Calls.quiet_of (HSM.out _ ()))
      quiet_step (exact Calls.quiet_of (HSM.out _ ()))
      quiet_step (exact Calls.quiet_of (HSM.out _ ()))
      quiet_step (exact Calls.quiet_of (HSM.out _ ()))
      quiet_step (exact Calls.quiet_of (HSM.out _ ()))
      quiet_step (exact Calls.quiet_of (HSM.out _ ()))
      quiet_step (exact Calls.quiet_of (HSM.out _ ()))
      quiet_step (exact Calls.quiet_of (HSM.out _ ()))
      quiet_step (exact Calls.quiet_of (HSM.out _ ()))
      quiet_step (exact Calls.quiet_of (HSM.out _ ()))
      quiet_step (exact Calls.quiet_of (HSM.out _ ()))
      quiet_step (exact Calls.quiet_of (HSM.out _ ()))
      quiet_step (exact Calls.quiet_of (HSM.out _ ()))
      quiet_step (exact Calls.quiet_of (HSM.out _ ()))
      quiet_step (exact Calls.quiet_of (HSM.out _ ()))
      quiet_step (exact Calls.quiet_of (HSM.out _ ()))
      quiet_step (exact Calls.quiet_of (HSM.out _ ()))
      quiet_step (exact Calls.quiet_of (HSM.out _ ()))
      quiet_step (exact Calls.quiet_of (HSM.out _ ()))
      quiet_step (exact Calls.quiet_of (HSM.out _ ()))
      quiet_step (exact Calls.quiet_of (HSM.out _ ()))
      quiet_step (exact Calls.quiet_of (HSM.out _ ()))
      quiet_step (exact Calls.quiet_of (HSM.out _ ()))
      quiet_step (exact Calls.quiet_of (HSM.out _ ()))
      quiet_step (exact Calls.quiet_of (HSM.out _ ()))
      quiet_step (exact Calls.quiet_of (HSM.out _ ()))
      quiet_step (exact Calls.quiet_of (HSM.out _ ()))
      quiet_step (exact Calls.quiet_of (HSM.out _ ()))
      refine wpQuiet_load_midG rfl 50 (.tmp 46) rfl g (o + k * 17 + 2) rfl x.zone.cells.toList _ HZ1.out Tryz.underlying50 rfl size_zone ?_
      quiet_step (exact Calls.quiet_of (HSM.out _ ()))
      quiet_step (exact Calls.quiet_of (HSM.out _ ()))
      quiet_step (exact Calls.quiet_of (HSM.out _ ()))
      quiet_step (exact Calls.quiet_of (HSM.out _ ()))
      refine wpQuiet_load_midG rfl 50 (.tmp 51) rfl g' (o' + k * 17 + 2) rfl x.zone.cells.toList _ HZ2.out Tryz.underlying50 rfl size_zone ?_
      refine wpQuiet_zneqG rfl (.tmp 47) (.tmp 52) _ rfl x.zone x.zone rfl rfl false (by simp) ?_
      quiet_step (exact Calls.quiet_of (HSM.out _ ()))
      quiet_step (exact Calls.quiet_of (HSM.out _ ()))
      quiet_step (exact Calls.quiet_of (HSM.out _ ()))
      quiet_step (exact Calls.quiet_of (HSM.out _ ()))
      quiet_step (exact Calls.quiet_of (HSM.out _ ()))
      quiet_step (exact Calls.quiet_of (HSM.out _ ()))
      quiet_step (exact Calls.quiet_of (HSM.out _ ()))
      quiet_step (exact Calls.quiet_of (HSM.out _ ()))
      quiet_step (exact Calls.quiet_of (HSM.out _ ()))
      quiet_step (exact Calls.quiet_of (HSM.out _ ()))
      quiet_step (exact Calls.quiet_of (HSM.out _ ()))
      quiet_step (exact Calls.quiet_of (HSM.out _ ()))
      quiet_step (exact Calls.quiet_of (HSM.out _ ()))
      quiet_step (exact Calls.quiet_of (HSM.out _ ()))
      quiet_step (exact Calls.quiet_of (HSM.out _ ()))
      quiet_step (exact Calls.quiet_of (HSM.out _ ()))
      quiet_step (exact Calls.quiet_of (HSM.out _ ()))
      quiet_step (exact Calls.quiet_of (HSM.out _ ()))
      quiet_step (exact Calls.quiet_of (HSM.out _ ()))
      quiet_step (exact Calls.quiet_of (HSM.out _ ()))
      quiet_step (exact Calls.quiet_of (HSM.out _ ()))
      quiet_step (exact Calls.quiet_of (HSM.out _ ()))
      quiet_step (exact Calls.quiet_of (HSM.out _ ()))
      quiet_step (exact Calls.quiet_of (HSM.out _ ()))
      quiet_step (exact Calls.quiet_of (HSM.out _ ()))
      quiet_step (exact Calls.quiet_of (HSM.out _ ()))
      quiet_step (exact Calls.quiet_of (HSM.out _ ()))
      refine wpQuiet_nil ?_
      intro _ hw'
      obtain ⟨nq, hw''⟩ := hw'
      subst hw''
      go_wp2_with fail
      go_roundw
      case rel => exact ⟨k + 1, hlt, by go_num, Lib.hid (bN HB.out _)⟩
      case measure => simp [intOf]; omega
    · have hki : ¬ (k : Int) < (its.length : Int) := by omega
      go_wp2_with fail
      go_ret
      exact ⟨rfl, HB.out⟩
end Go.Proofs.YtoojpfcnekpboaaGreat

namespace Go.Proofs.YtoojpfcnekpboaaGreat
open Go.RowKit

theorem sealRB_any (s : ByteArray) (l : List UInt8) (hs : s = str l) (hl : l.length ≤ 100000) (w : World) :
    Calls Tryz.prog 80 #[.string s] w fun e w' => e = .returned (.string (str (sealB l))) ∧ Below w.heap.size w w' := by
  subst hs
  refine (CR.sealR_any (str l) (by rw [str_size]; exact hl) w).mono ?_
  rintro e w' ⟨rfl, hb⟩
  exact ⟨by rw [bs_str]; rfl, hb⟩
/-- The sealed data of the first chunks. -/
def datTo (xs : List Chk) (k : Nat) : List UInt8 := (xs.take k).flatMap (fun x => sealB (bs x.data))
theorem datTo_step {xs : List Chk} {k : Nat} (h : k < xs.length) : datTo xs (k + 1) = datTo xs k ++ sealB (bs (xs[k]).data) := by
  unfold datTo
  rw [List.take_succ_eq_append_getElem h, List.flatMap_append]
  simp
theorem datTo_len {xs : List Chk} (h : ∀ x ∈ xs, x.data.size ≤ 600) (k : Nat) : (datTo xs k).length ≤ 604 * xs.length := by
  have h1 := dat_len (xs.take k) (fun x hx => h x (List.mem_of_mem_take hx))
  have h2 : (xs.take k).length ≤ xs.length := by rw [List.length_take]; omega
  unfold datTo
  omega
theorem datTo_le (b : Blk) (k : Nat) : (datTo b.chunks k).length ≤ (datB b).length := by
  unfold datTo datB
  conv => rhs; rw [← List.take_append_drop k b.chunks, List.flatMap_append, List.length_append]
  omega
theorem offAt_datTo (xs : List Chk) : ∀ k, offAt xs k = (datTo xs k).length := by
  intro k
  induction k with
  | zero => simp [offAt, datTo]
  | succ k ih =>
    by_cases hk : k < xs.length
    · rw [offAt_step hk, datTo_step hk, List.length_append, sealB_len, bs_length, ih]
    · have e1 : offAt xs (k + 1) = offAt xs k := by unfold offAt; rw [List.take_of_length_le (by omega), List.take_of_length_le (by omega)]
      have e2 : datTo xs (k + 1) = datTo xs k := by unfold datTo; rw [List.take_of_length_le (by omega), List.take_of_length_le (by omega)]
      rw [e1, e2, ih]
theorem offAt_mid {b : Blk} (h : Mid b) (k : Nat) : offAt b.chunks k ≤ 71388 := by
  have h1 := h.parts
  have h2 := datTo_le b k
  rw [offAt_datTo]
  omega
theorem bchk_zero {b : Blk} (h : bchk b = 0) : (1 ≤ b.id ∧ b.id ≤ 1152921504606846976) ∧ (0 ≤ b.width ∧ b.width ≤ 1152921504606846976) ∧ (0 ≤ b.fr ∧ b.fr ≤ 1152921504606846976) ∧ ∀ x ∈ b.chunks, cchk x b.width = 0 := by
  unfold bchk at h
  split at h
  · omega
  split at h
  · omega
  split at h
  · omega
  split at h
  · omega
  refine ⟨by omega, by omega, by omega, ?_⟩
  have key : ∀ (xs : List Chk) (p : Option Chk), bchkFrom b.width p xs = 0 → ∀ x ∈ xs, cchk x b.width = 0 := by
    intro xs
    induction xs with
    | nil => intro p _ x hx; simp at hx
    | cons y r ih =>
      intro p hp x hx
      unfold bchkFrom at hp
      split at hp
      · rename_i hc
        split at hp
        · omega
        · rcases List.mem_cons.1 hx with rfl | hx
          · exact hc
          · exact ih _ hp x hx
      · rename_i hc
        exact absurd hp hc
  exact key _ _ h
theorem cchk_zero {x : Chk} {width : Int} (h : cchk x width = 0) : (1 ≤ x.sig ∧ x.sig ≤ 6) ∧ zchk x.zone = 0 ∧ chkL x.labs = 0 ∧ x.data.size ≤ 262144 := by
  unfold cchk at h
  split at h
  · omega
  split at h
  · omega
  split at h
  · rename_i h3; exact absurd h h3
  split at h
  · omega
  split at h
  · rename_i h3; exact absurd h h3
  split at h
  · omega
  rename_i h1 h2 h3 h4 h5 h6
  exact ⟨by omega, by omega, by omega, by omega⟩
theorem offAt_bd {b : Blk} (hf : Fine b) (k : Nat) (hk : k ≤ b.chunks.length) : offAt b.chunks k ≤ 4832 := by
  have h1 := offAt_le hf.data k
  have h2 := hf.few
  omega
theorem items_ok {b : Blk} (hf : Fine b) (h : bchk b = 0) : ∀ y ∈ itmFrom 0 b.chunks, ItmOK y := fun y hy => by
  obtain ⟨k, hk, rfl⟩ := List.getElem_of_mem hy
  have hk' : k < b.chunks.length := by rw [itmFrom_len] at hk; exact hk
  have hg := itmFrom_get 0 b.chunks k hk'
  rw [List.getElem?_eq_getElem hk] at hg
  injection hg with hg
  rw [hg]
  have hm := List.getElem_mem hk'
  obtain ⟨h1, h2, _, _⟩ := cchk_zero ((bchk_zero h).2.2.2 _ hm)
  have h3 := offAt_bd hf k (by omega)
  have h4 := hf.data _ hm
  refine ⟨?_, ?_, ?_, ⟨h2, hf.zone _ hm⟩, hf.labs _ hm, hf.lab _ hm⟩
  · show 0 ≤ (b.chunks[k]).sig ∧ (b.chunks[k]).sig ≤ 1152921504606846976
    omega
  · show 0 ≤ 0 + (offAt b.chunks k : Int) ∧ 0 + (offAt b.chunks k : Int) ≤ 1152921504606846976
    omega
  · show 0 ≤ ((b.chunks[k]).data.size : Int) + 4 ∧ ((b.chunks[k]).data.size : Int) + 4 ≤ 1152921504606846976
    omega

end Go.Proofs.YtoojpfcnekpboaaGreat

namespace Go.Proofs.YtoojpfcnekpboaaGreat
open Go.RowKit Go.Shelf

theorem ok8_below {b : Nat} {w w' : World} (h : Below w.heap.size w w') : OK8 b w w' := fun k _ hk _ _ => (h.block k (Array.getElem?_eq_some_iff.1 hk).1).trans hk
theorem ok8_trans {b : Nat} {w w' w'' : World} (h : OK8 b w w') (k : OK8 b w' w'') : OK8 b w w'' := Lib.OthersKept.trans h k
theorem BL.later {W w w' : World} {b : Nat} {l : List UInt8} (h : BL W b l w) (hb : Below w.heap.size w w') : BL W b l w' := h.keep hb
/-- The block of a loop's deferred calls stands, whatever a builder does. -/
theorem defer_ok8 {b D : Nat} {W W' w : World} {l : List UInt8} (hK : W.heap[D]? = some (.deferred (some []))) (h : OK8 b W W') (hb : BL w b l W) : W'.heap[D]? = some (.deferred (some [])) := by
  obtain ⟨_, _, _, _, _, h2, _⟩ := hb.ex
  exact h D _ hK (fun e => by
    injection e with e
    rw [e, h2.out] at hK
    injection hK with hK
    cases hK) (fun _ _ e => by cases e)
set_option maxRecDepth 100000 in
set_option maxHeartbeats 1000000 in
theorem number_any (W : World) (b : Nat) (l : List UInt8) (n : Int) (w : World) (h : BL W b l w) (hl : l.length ≤ 1000000000) (h0 : 0 ≤ n) (h1 : n ≤ 1152921504606846976) :
    Calls Tryz.prog 88 #[.int .i64 n, .pointer (some ⟨b, 0, none⟩)] w fun e w' => e = .returned (.tuple #[]) ∧ BL W b (l ++ vE n.toNat) w' ∧ OK8 b w w' ∧ w.heap.size ≤ w'.heap.size := by
  have HP : Hid (pairV (appR ⟨#[]⟩ n) = .tuple #[.string (str (vE n.toNat)), .int .i64 0]) := Lib.hid (by
    unfold pairV appR
    rw [if_neg (by unfold maxI; omega)]
    congr 3)
  have HBL := Lib.hid h
  have hv := vE_len n.toNat
  have HL := Lib.hid hl
  have HV := Lib.hid hv
  clear h hl h0 h1 hv
  go_enter Tryz.func88, Tryz.ntmps88
  go_wp2_with fail
  refine (append_any ⟨#[]⟩ n w (by decide)).mono ?_
  rintro e w1 ⟨rfl, hb⟩
  have HB1 := Lib.hid hb
  clear hb
  rw [HP.out]
  go_wp2_with fail
  refine (writeStringS_any W b l (str (vE n.toNat)) w1 (HBL.out.later HB1.out) (by rw [str_size]; have := HL.out; have := HV.out; omega)).mono ?_
  rintro e w2 ⟨rfl, hbl, hok, hsz⟩
  have HBL2 := Lib.hid hbl
  have HOK2 := Lib.hid hok
  have HS2 := Lib.hid hsz
  clear hbl hok hsz
  go_wp2_with fail
  go_end0
  exact ⟨rfl, HBL2.out, ok8_trans (ok8_below HB1.out) HOK2.out, Nat.le_trans HB1.out.size HS2.out⟩
def numF (b : Nat) : Value := .func (.func 88) #[] #[.pointer (some ⟨b, 0, none⟩)]
def textF (nb b : Nat) : Value := .func (.func 90) #[] #[.pointer (some ⟨nb, 0, none⟩), .pointer (some ⟨b, 0, none⟩)]
set_option maxRecDepth 100000 in
set_option maxHeartbeats 1000000 in
theorem text_any (W : World) (b nb : Nat) (l : List UInt8) (s : ByteArray) (t : TypeId) (w : World) (h : BL W b l w) (hn : At w nb #[numF b] t) (hl : l.length ≤ 1000000000) (hs : s.size ≤ 1000000000) :
    Calls Tryz.prog 90 #[.string s, .pointer (some ⟨nb, 0, none⟩), .pointer (some ⟨b, 0, none⟩)] w fun e w' => e = .returned (.tuple #[]) ∧ BL W b (l ++ vE s.size ++ bs s) w' ∧ OK8 b w w' ∧ w.heap.size ≤ w'.heap.size := by
  have HN := Lib.hid (number_any W b l (s.size : Nat) w h hl (by omega) (by omega))
  have c0 : w.cell? ⟨nb, 0, none⟩ = some (.func (.func 88) #[] #[.pointer (some ⟨b, 0, none⟩)]) := hn.cell 0
  have hv := vE_len s.size
  have HL : Hid (l.length + 10 + s.size ≤ 1000000000000) := Lib.hid (by omega)
  have HV := Lib.hid hv
  clear h hn hl hs hv
  go_enter Tryz.func90, Tryz.ntmps90
  go_wp2_with fail
  refine HN.out.mono ?_
  rintro e w1 ⟨rfl, hbl, hok, hsz1⟩
  have HBL1 := Lib.hid hbl
  have HOK1 := Lib.hid hok
  have HS1 := Lib.hid hsz1
  clear hbl hok hsz1 c0
  go_wp2_with fail
  refine (writeStringS_any W b _ s w1 HBL1.out (by rw [List.length_append]; have := HL.out; have := HV.out; simp; omega)).mono ?_
  rintro e w2 ⟨rfl, hbl, hok, hsz⟩
  have HBL2 := Lib.hid hbl
  have HOK2 := Lib.hid hok
  have HS2 := Lib.hid hsz
  clear hbl hok hsz
  go_wp2_with fail
  go_end0
  exact ⟨rfl, HBL2.out, ok8_trans HOK1.out HOK2.out, Nat.le_trans HS1.out HS2.out⟩
end Go.Proofs.YtoojpfcnekpboaaGreat
