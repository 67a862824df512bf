/- Walks: the number at the beginning of a string (the program's). -/
import Derived.Test.YtoojpfcnekpboaaGreatZAM
import Derived.Test.YtoojpfcnekpboaaGreatZAS
import Derived.Test.YtoojpfcnekpboaaGreatZAE
import Derived.Shelf.RegionOpen
import Derived.Test.YtoojpfcnekpboaaGreatZAL
namespace Go.Proofs.YtoojpfcnekpboaaGreat
open Go.RowKit Go.Shelf
attribute [local go_sem] Oper.semAt_some

/-- 'for i, b := range firstBytes(s)', the body walked once. -/
theorem range_bytes {g : Operand} {ps : Array Tmp} {assign body : Code} {Q : Exit → Act → World → Prop} {a : Act} {w : World} (n₀ b Bs : Nat) (s : ByteArray)
    (hg : a.eval g = .func (.func 189) #[] #[.pointer (some ⟨Bs, 0, none⟩)]) (hps : ps.size = 2)
    (hBs : At w Bs #[.string s] 9) (hne : Bs ≠ b) (hs : s.size ≤ 9223372036854775807) (hnb : n₀ ≤ w.heap.size)
    (G : Fin (mS s) → Array Value → Array Value) (I : List (Fin (mS s)) → World → Prop) (hI : OwnFrom w.heap.size I) (Ix : List (Fin (mS s)) → World → Prop) (hIx : OwnFrom w.heap.size Ix) (h0 : I [] w)
    (hassign : ∀ (l : Nat) (x : Fin (mS s)) (W : World) (K : Act → World → Prop), K { tmps := G x a.tmps, defers := [] } W →
      assign.wpIn (Fence.wide.inRound l) 7 Tryz.prog (Exit.then K (fun _ _ _ => False)) { tmps := (ps.zip (fbEnc s x)).foldl (fun t (p, v) => t.setIfInBounds p v) a.tmps, defers := [] } W)
    (hbody : ∀ (l : Nat) (pre : List (Fin (mS s))) (x : Fin (mS s)) (W : World), I pre W → pre.length < mS s →
      body.wpIn (Fence.wide.inRound l) 7 Tryz.prog (ownPostG w.heap.size (KC n₀ b) I (fun c pre W => c = .ret ∧ Ix pre W) (pre ++ [x]) W) { tmps := G x a.tmps, defers := [] } W)
    (hdone : ∀ (D : Nat) (W : World), w.heap.size ≤ D → I (List.finRange (mS s)) W → W.heap[D]? = some (.deferred (some [])) → Q .normal { a with defers := { target := .collected D, args := #[] } :: a.defers } W)
    (hstop : ∀ (D k : Nat) (W : World), w.heap.size ≤ D → k ≤ mS s → Ix ((List.finRange (mS s)).take k) W → W.heap[D]? = some (.deferred (some [])) → Q .ret { a with defers := { target := .collected D, args := #[] } :: a.defers } W) :
    (Code.rangeFunc g ps assign body).wp Tryz.prog Q a w := by
  refine (wpIn_wide (n := 9)).1 ?_
  refine wpIn_rangeFunc_ownG rfl (by decide) (gf := 189) (lb := #[.pointer (some ⟨Bs, 0, none⟩)]) hg trivial (enters_of Tryz.func189 (by kernel_rfl) rfl)
    (firstBytes_stops 8 (by decide) Bs n₀ b s w hBs hne hs) KC.trans (fun W l o o' hle h hc _ => KC.putObj W l o o' (Nat.le_trans hnb hle) h hc) (Below.refl _ _) (fun _ => by rw [hps]; rfl)
    I (fun c pre W => c = .ret ∧ Ix pre W) hI (fun c pre X Y row hs hg hr => ⟨hs.1, hIx pre X Y row hs.2 hg hr⟩) h0 (fun x => { tmps := G x a.tmps, defers := [] }) hassign hbody ?done ?stop
  case done =>
    rintro D ys W hD rfl hi hK
    exact hdone D W hD hi hK
  case stop =>
    rintro D c pre W hD ⟨k, hk, rfl⟩ ⟨rfl, hi⟩ hK
    exact wpIn_ret (hstop D k W hD hk hi hK)
theorem fbEnc_eq (s : ByteArray) (x : Fin (mS s)) : fbEnc s x = #[.int .i64 x.1, .int .u8 (byteS s x).toNat] := rfl

theorem shl_z (i : Nat) (c : UInt8) (h : i < 9) : Op.shift BinOp.shl IntKind.u64 ((c.toNat % 128 : Nat) : Int) IntKind.i64 ((7 : Int) * (i : Int)) = pure (.int .u64 (zsh i c)) := shift_shl_u64 _ _ _ (by omega) (by omega)
theorem and127b (n : Nat) (h : n < 256) : bits .and .u8 (n : Int) 127 = ((n % 128 : Nat) : Int) := by
  have := (bits_nat .u8 8 (by decide) wraps_u8 n 127 (by omega) (by decide)).1
  rw [show n &&& 127 = n % 128 from Nat.and_two_pow_sub_one_eq_mod n 7] at this
  exact this
theorem load_plain {P : Program} {t : TypeId} (w : World) (a : Addr) (v : Value) (hp : ∀ w : World, (isAgg t).run P w = .ok false w) (hc : w.cell? a = some v) : (loadVar t a).run P w = .ok v w := by
  unfold loadVar
  rw [Sem.run_bind, hp]
  simp [run_load, hc]
theorem results_cells3 {P : Program} {fn : Func} {a b c : Tmp} {ta tb tc : TypeId} (h : fn.results = #[.cell a ta, .cell b tb, .cell c tc]) (tmps : Array Value) (w : World) {A B C : Addr} {x y z : Value}
    (ha : tmps.getD a undef = .pointer (some A)) (hb : tmps.getD b undef = .pointer (some B)) (hc : tmps.getD c undef = .pointer (some C))
    (pa : ∀ w : World, (isAgg ta).run P w = .ok false w) (pb : ∀ w : World, (isAgg tb).run P w = .ok false w) (pc : ∀ w : World, (isAgg tc).run P w = .ok false w)
    (ca : w.cell? A = some x) (cb : w.cell? B = some y) (cc : w.cell? C = some z) : (results fn tmps).run P w = .ok (.tuple #[x, y, z]) w := by
  rw [Array.getD_eq_getD_getElem?] at ha hb hc
  simp [results, h, ha, hb, hc, asAddr, load_plain w A x pa ca, load_plain w B y pb cb, load_plain w C z pc cc]
theorem plain_of {t : TypeId} {d : TypeDesc} (hu : Tryz.prog.underlying t = some d) (hd : d.isRow = false) (w : World) : (isAgg t).run Tryz.prog w = .ok false w := by
  unfold isAgg
  rw [Sem.run_bind, run_underlying hu]
  cases d <;> first | rfl | cases hd
theorem cell_putObj {W : World} {D r : Nat} {o : Obj} {c : Array Value} {t : TypeId} (h : At W r c t) (hne : r ≠ D) : At (W.putObj D o) r c t := ⟨by rw [World.putObj_heap_other hne]; exact h.out⟩
set_option maxRecDepth 100000 in
set_option maxHeartbeats 2000000 in
theorem vread_any (s : ByteArray) (w : World) (hs : s.size ≤ 1000000000) :
    Calls Tryz.prog 156 #[.string s] w fun e w' => e = .returned (.tuple #[.int .u64 (vres s).1, .int .i64 (vres s).2.1, .int .i64 (vres s).2.2]) ∧ Below w.heap.size w w' := by
  refine calls_marks Tryz.func156 rfl ?_
  simp only [Tryz.ntmps156, List.size_toArray, List.length_cons, List.length_nil, Nat.reduceAdd, Nat.reduceSub, Array.replicate_succ,
     Array.replicate_zero, List.push_toArray, List.append_toArray, List.nil_append, List.cons_append]
  go_upto_region 2 with fail
  have e1 : (w.alloc (.cells #[.int .u64 0] 178)).heap.size = w.heap.size + 1 := by simp
  have e2 : ((w.alloc (.cells #[.int .u64 0] 178)).alloc (.cells #[.int .i64 0] 3)).heap.size = w.heap.size + 1 + 1 := by simp
  have e3 : (((w.alloc (.cells #[.int .u64 0] 178)).alloc (.cells #[.int .i64 0] 3)).alloc (.cells #[.int .i64 0] 26)).heap.size = w.heap.size + 1 + 1 + 1 := by simp
  have a0 := ((((At.new w #[.int .u64 0] 178).alloc (.cells #[.int .i64 0] 3)).alloc (.cells #[.int .i64 0] 26)).alloc (.cells #[.int .u64 0] 178))
  have a1 := (((At.new (w.alloc (.cells #[.int .u64 0] 178)) #[.int .i64 0] 3).alloc (.cells #[.int .i64 0] 26)).alloc (.cells #[.int .u64 0] 178))
  have a2 := ((At.new ((w.alloc (.cells #[.int .u64 0] 178)).alloc (.cells #[.int .i64 0] 3)) #[.int .i64 0] 26).alloc (.cells #[.int .u64 0] 178))
  have a3 := At.new (((w.alloc (.cells #[.int .u64 0] 178)).alloc (.cells #[.int .i64 0] 3)).alloc (.cells #[.int .i64 0] 26)) #[.int .u64 0] 178
  have hb : Below w.heap.size w ((((w.alloc (.cells #[.int .u64 0] 178)).alloc (.cells #[.int .i64 0] 3)).alloc (.cells #[.int .i64 0] 26)).alloc (.cells #[.int .u64 0] 178)) := ((((Below.refl _ _).alloc (Nat.le_refl _) _).alloc (by simp) _).alloc (by simp; omega) _).alloc (by simp; omega) _
  rw [e1] at a1
  rw [e2] at a2
  rw [e3] at a3
  have A0 := Lib.hid a0
  have A1 := Lib.hid a1
  have A2 := Lib.hid a2
  have A3 := Lib.hid a3
  have HB := Lib.hid hb
  clear a0 a1 a2 a3 e1 e2 e3 hb
  generalize (((w.alloc (.cells #[.int .u64 0] 178)).alloc (.cells #[.int .i64 0] 3)).alloc (.cells #[.int .i64 0] 26)).alloc (.cells #[.int .u64 0] 178) = w4 at *
  obtain ⟨r1, hr1⟩ : ∃ r, w.heap.size + 1 = r := ⟨_, rfl⟩
  obtain ⟨r2, hr2⟩ : ∃ r, w.heap.size + 1 + 1 = r := ⟨_, rfl⟩
  obtain ⟨r3, hr3⟩ : ∃ r, w.heap.size + 1 + 1 + 1 = r := ⟨_, rfl⟩
  rw [hr3, hr2, hr1]
  rw [hr1] at A1
  rw [hr2] at A2
  rw [hr3] at A3
  have HO : Hid (w.heap.size < r1 ∧ r1 < r2 ∧ r2 < r3) := Lib.hid (by omega)
  clear hr1 hr2 hr3
  go_wp2_with fail
  refine (firstBytes_any s w4).mono ?_
  rintro e w5 ⟨rfl, hw5⟩
  have HS5 : Hid (At w5 w4.heap.size #[.string s] 9) := Lib.hid (by rw [hw5]; exact At.new _ _ _)
  have HW5 : Hid (Below w4.heap.size w4 w5) := Lib.hid (by rw [hw5]; exact (Below.refl _ _).alloc (Nat.le_refl _) _)
  have HBW := Lib.hid (HB.out.trans (HW5.out.mono HB.out.size))
  have h34 : r3 < w4.heap.size := A3.out.lt
  clear hw5
  go_wp2_with fail
  refine range_bytes w.heap.size r3 w4.heap.size s rfl rfl HS5.out (by omega) (by omega) HBW.out.size
    (fun k T => (((T.setIfInBounds 10 (.int .i64 k.1)).setIfInBounds 11 (.int .u8 (byteS s k).toNat)).setIfInBounds 6 (.int .i64 k.1)).setIfInBounds 7 (.int .u8 (byteS s k).toNat))
    (fun pre W => At W r3 #[.int .u64 (vfold s pre)] 178 ∧ At W w.heap.size #[.int .u64 0] 178 ∧ At W r1 #[.int .i64 0] 3 ∧ At W r2 #[.int .i64 0] 26 ∧ Below w.heap.size w W ∧ ∀ x ∈ pre, ¬ endX x.1 (byteS s x)) ?hI
    (fun pre W => At W w.heap.size #[.int .u64 (resV s pre).1] 178 ∧ At W r1 #[.int .i64 (resV s pre).2.1] 3 ∧ At W r2 #[.int .i64 (resV s pre).2.2] 26 ∧ Below w.heap.size w W ∧ ∃ q x, pre = q ++ [x] ∧ endX x.1 (byteS s x)) ?hIx ?h0 ?assign ?body ?done ?stop
  case hI =>
    refine ((own_at (fun _ => r3) 178 (fun pre => #[.int .u64 (vfold s pre)])).from _).and (((own_at (fun _ => w.heap.size) 178 (fun _ => #[.int .u64 0])).from _).and (((own_at (fun _ => r1) 3 (fun _ => #[.int .i64 0])).from _).and (((own_at (fun _ => r2) 26 (fun _ => #[.int .i64 0])).from _).and ((ownFrom_below (Nat.le_refl _) HBW.out.size).and (ownFrom_pure _ _)))))
  case hIx =>
    refine ((own_at (fun _ => w.heap.size) 178 (fun pre => #[.int .u64 (resV s pre).1])).from _).and (((own_at (fun _ => r1) 3 (fun pre => #[.int .i64 (resV s pre).2.1])).from _).and (((own_at (fun _ => r2) 26 (fun pre => #[.int .i64 (resV s pre).2.2])).from _).and ((ownFrom_below (Nat.le_refl _) HBW.out.size).and (ownFrom_pure _ _))))
  case h0 => exact ⟨A3.out.below HW5.out, A0.out.below HW5.out, A1.out.below HW5.out, A2.out.below HW5.out, HBW.out, fun x hx => by simp at hx⟩
  case assign =>
    intro l x W K hK
    rw [fbEnc_eq]
    generalize byteS s x = c at *
    gi_wp2
    exact hK
  case body =>
    rintro l pre x W ⟨b3, b0, b1, b2, hbw, hnoe⟩ hpre
    have HNOE := Lib.hid hnoe
    clear hnoe
    have HRS := Lib.hid (resV_snoc s pre x)
    have HVS := Lib.hid (vfold_snoc s pre x)
    have hx9 : x.1 < 9 := Nat.lt_of_lt_of_le x.2 (mS_le s).2
    simp only [List.setIfInBounds_toArray, List.set_cons_zero, List.set_cons_succ]
    have HZ := Lib.hid (shl_z x.1 (byteS s x) hx9)
    have HST : Hid (vst (vfold s pre) x.1 (byteS s x) = bits .or .u64 (vfold s pre) (zsh x.1 (byteS s x))) := Lib.hid rfl
    generalize hcx : byteS s x = c at *
    have HCX := Lib.hid hcx
    clear hcx
    generalize vfold s pre = V at *
    generalize vst V x.1 c = M at *
    generalize zsh x.1 c = Z at *
    have d0 : W.cell? ⟨w.heap.size, 0, none⟩ = some (.int .u64 0) := b0.cell 0
    have d1 : W.cell? ⟨r1, 0, none⟩ = some (.int .i64 0) := b1.cell 0
    have d2 : W.cell? ⟨r2, 0, none⟩ = some (.int .i64 0) := b2.cell 0
    have f0 := b0.free 0
    have f1 := b1.free 0
    have f2 := b2.free 0
    have B0 := Lib.hid b0
    have B1 := Lib.hid b1
    have B2 := Lib.hid b2
    have B3 := Lib.hid b3
    have HBB := Lib.hid hbw
    clear b0 b1 b2 b3 hbw
    by_cases hbad : badX x.1 c
    · have HR2 : Hid (resV s (pre ++ [x]) = (0, 0, 12)) := Lib.hid (by rw [HRS.out, if_pos hbad])
      have HFIN : Hid (∀ a', ownPostG w5.heap.size (KC w.heap.size r3) (fun pre W => At W r3 #[.int .u64 (vfold s pre)] 178 ∧ At W w.heap.size #[.int .u64 0] 178 ∧ At W r1 #[.int .i64 0] 3 ∧ At W r2 #[.int .i64 0] 26 ∧ Below w.heap.size w W ∧ ∀ x ∈ pre, ¬ endX x.1 (byteS s x))
            (fun c pre W => c = .ret ∧ At W w.heap.size #[.int .u64 (resV s pre).1] 178 ∧ At W r1 #[.int .i64 (resV s pre).2.1] 3 ∧ At W r2 #[.int .i64 (resV s pre).2.2] 26 ∧ Below w.heap.size w W ∧ ∃ q x, pre = q ++ [x] ∧ endX x.1 (byteS s x)) (pre ++ [x]) W .ret a' (((W.setCell ⟨w.heap.size, 0, none⟩ (.int .u64 0)).setCell ⟨r1, 0, none⟩ (.int .i64 0)).setCell ⟨r2, 0, none⟩ (.int .i64 12))) := Lib.hid fun a' => by
        have ho := HO.out
        refine ⟨(((KeepsOthers.setCell _ _ _).trans (KeepsOthers.setCell _ _ _)).trans (KeepsOthers.setCell _ _ _)).from _, rfl, ?_⟩
        rw [HR2.out]
        refine ⟨((B0.out.set 0 _).other _ (by show w.heap.size ≠ r1; omega)).other _ (by show w.heap.size ≠ r2; omega), ((B1.out.other _ (by show r1 ≠ w.heap.size; omega)).set 0 _).other _ (by show r1 ≠ r2; omega), ((B2.out.other _ (by show r2 ≠ w.heap.size; omega)).other _ (by show r2 ≠ r1; omega)).set 0 _, ?_⟩
        exact ⟨((HBB.out.setCell (p := ⟨w.heap.size, 0, none⟩) (Nat.le_refl _) _).setCell (p := ⟨r1, 0, none⟩) (by show w.heap.size ≤ r1; omega) _).setCell (p := ⟨r2, 0, none⟩) (by show w.heap.size ≤ r2; omega) _, pre, x, rfl, by rw [HCX.out]; exact .inl hbad⟩
      have ho2 := HO.out
      have m1 : r2 ≠ r1 := by omega
      have m2 : r2 ≠ w.heap.size := by omega
      have m3 : r1 ≠ w.heap.size := by omega
      have m4 : r1 ≠ r2 := by omega
      have m5 : w.heap.size ≠ r1 := by omega
      have m6 : w.heap.size ≠ r2 := by omega
      clear ho2 HRS HZ HST
      rcases hbad with ⟨h1, h2⟩ | ⟨h1, h2⟩
      · have h3 : ((x.1 : Int) == 8) = true := beq_iff_eq.2 h2
        clear h2
        gi_wp2_with fail
        exact HFIN.out _
      · have h3 : ((c.toNat : Int) == 0) = true := beq_iff_eq.2 h1
        have h4 : ¬ (128 : Int) ≤ (c.toNat : Int) := by omega
        clear h1
        gi_wp2_with fail
        exact HFIN.out _
    · have HR2 : Hid (resV s (pre ++ [x]) = (M, (x.1 : Int) + 1, 0)) := Lib.hid (by rw [HRS.out, if_neg hbad])
      have hn1 : ¬ (128 ≤ (c.toNat : Int) ∧ (x.1 : Int) = 8) := fun h => hbad (.inl h)
      have hn2 : ¬ ((c.toNat : Int) = 0 ∧ 0 < (x.1 : Int)) := fun h => hbad (.inr h)
      have HBAD := Lib.hid hbad
      clear hbad HRS
      have ha : bits BinOp.and IntKind.u8 (c.toNat : Int) 127 = ((c.toNat % 128 : Nat) : Int) := and127b c.toNat c.toNat_lt
      have hu : IntKind.u64.wrap ((c.toNat % 128 : Nat) : Int) = ((c.toNat % 128 : Nat) : Int) := by rw [IntKind.wrap_u64]; omega
      have hy : IntKind.i64.wrap ((7 : Int) * (x.1 : Int)) = (7 : Int) * (x.1 : Int) := by rw [IntKind.wrap_i64]; omega
      obtain ⟨q, hq⟩ : ∃ q : Int, ((c.toNat % 128 : Nat) : Int) = q := ⟨_, rfl⟩
      obtain ⟨y, hy2⟩ : ∃ y : Int, (7 : Int) * (x.1 : Int) = y := ⟨_, rfl⟩
      have hz := HZ.out
      rw [hq] at ha hu hz
      rw [hy2] at hz
      have hy3 : IntKind.i64.wrap ((7 : Int) * (x.1 : Int)) = y := by rw [hy, hy2]
      have HX9 := Lib.hid hx9
      have d3 : W.cell? ⟨r3, 0, none⟩ = some (.int .u64 V) := B3.out.cell 0
      have f3 := B3.out.free 0
      have HW3 : Hid (∀ W', Hid (W' = (W.drew).setCell ⟨r3, 0, none⟩ (.int .u64 M)) → At W' r3 #[.int .u64 M] 178 ∧ At W' w.heap.size #[.int .u64 0] 178 ∧ At W' r1 #[.int .i64 0] 3 ∧ At W' r2 #[.int .i64 0] 26 ∧ Below w.heap.size w W') := Lib.hid fun W' hW' => by
        have ho := HO.out
        rw [hW'.out]
        refine ⟨(B3.out.drewN 1).set 0 _, (B0.out.drewN 1).other _ (by show w.heap.size ≠ r3; omega), (B1.out.drewN 1).other _ (by show r1 ≠ r3; omega), (B2.out.drewN 1).other _ (by show r2 ≠ r3; omega), (bN HBB.out 1).setCell (p := ⟨r3, 0, none⟩) (by show w.heap.size ≤ r3; omega) _⟩
      obtain ⟨z, hz2⟩ : ∃ z, z = Value.int IntKind.u64 Z := ⟨_, rfl⟩
      have hv : binOp BinOp.or 178 (.int .u64 V) z = pure (.int .u64 M) := by rw [hz2, HST.out]; rfl
      rw [← hz2] at hz
      clear hy hy2 hq hx9 hz2
      by_cases h8 : (c.toNat : Int) < 128
      · obtain ⟨p, hcb⟩ : ∃ p, ((c.toNat : Int) == 0) = p := ⟨_, rfl⟩
        have hx0 : p = true → ¬ (0 : Int) < (x.1 : Int) := fun hp h => hn2 ⟨by rw [hp] at hcb; exact beq_iff_eq.1 hcb, h⟩
        clear hn1 hn2
        have H8 := Lib.hid h8
        cases p
        all_goals
          first | (have hx1 := hx0 rfl) | skip
          clear hx0
          gi_wp2_with fail
          refine region_in_still_tail 8 (by kernel_rfl) (by kernel_rfl) (by kernel_rfl) (by rintro ⟨_, _, h⟩; exact h) ?_
          simp only [List.take_succ_cons, List.take_zero, List.drop_succ_cons, List.drop_zero]
          still_step
          still_step
          still_step
          still_step
          still_step
          still_step
          still_step
          still_step
          refine wpStill_nil ?_
          change wpList _ _ _ _ _ W.drew
          go_wp2_with fail
          obtain ⟨b3, b0, b1, b2, hbw⟩ := HW3.out _ (Lib.hid rfl)
          have HFIN : Hid (∀ a', ownPostG w5.heap.size (KC w.heap.size r3) (fun pre W => At W r3 #[.int .u64 (vfold s pre)] 178 ∧ At W w.heap.size #[.int .u64 0] 178 ∧ At W r1 #[.int .i64 0] 3 ∧ At W r2 #[.int .i64 0] 26 ∧ Below w.heap.size w W ∧ ∀ x ∈ pre, ¬ endX x.1 (byteS s x))
            (fun c pre W => c = .ret ∧ At W w.heap.size #[.int .u64 (resV s pre).1] 178 ∧ At W r1 #[.int .i64 (resV s pre).2.1] 3 ∧ At W r2 #[.int .i64 (resV s pre).2.2] 26 ∧ Below w.heap.size w W ∧ ∃ q x, pre = q ++ [x] ∧ endX x.1 (byteS s x)) (pre ++ [x]) W .ret a' ((((W.drew.setCell ⟨r3, 0, none⟩ (.int .u64 M)).setCell ⟨w.heap.size, 0, none⟩ (.int .u64 M)).setCell ⟨r1, 0, none⟩ (.int .i64 ((x.1 : Int) + 1))).setCell ⟨r2, 0, none⟩ (.int .i64 0))) := Lib.hid fun a' => by
            have ho := HO.out
            refine ⟨((((KeepsOthers.drew W).trans (KeepsOthers.setCell _ _ _)).trans (KeepsOthers.setCell _ _ _)).trans (KeepsOthers.setCell _ _ _)).trans (KeepsOthers.setCell _ _ _) |>.from _, rfl, ?_⟩
            rw [HR2.out]
            refine ⟨((b0.set 0 _).other _ (by show w.heap.size ≠ r1; omega)).other _ (by show w.heap.size ≠ r2; omega), ((b1.other _ (by show r1 ≠ w.heap.size; omega)).set 0 _).other _ (by show r1 ≠ r2; omega), ((b2.other _ (by show r2 ≠ w.heap.size; omega)).other _ (by show r2 ≠ r1; omega)).set 0 _, ?_⟩
            exact ⟨((hbw.setCell (p := ⟨w.heap.size, 0, none⟩) (Nat.le_refl _) _).setCell (p := ⟨r1, 0, none⟩) (by show w.heap.size ≤ r1; omega) _).setCell (p := ⟨r2, 0, none⟩) (by show w.heap.size ≤ r2; omega) _, pre, x, rfl, by rw [HCX.out]; exact .inr H8.out⟩
          have e3 := b3.cell 0
          have g0 := b0.free 0
          have g1 := b1.free 0
          have g2 := b2.free 0
          have k0 := b0.cell 0
          have k1 := b1.cell 0
          have k2 := b2.cell 0
          have ho2 := HO.out
          have m1 : r2 ≠ r1 := by omega
          have m2 : r2 ≠ w.heap.size := by omega
          have m3 : r1 ≠ w.heap.size := by omega
          have m4 : r1 ≠ r2 := by omega
          have m5 : w.heap.size ≠ r1 := by omega
          have m6 : w.heap.size ≠ r2 := by omega
          have m7 : r2 ≠ r3 := by omega
          have m8 : r1 ≠ r3 := by omega
          have m9 : w.heap.size ≠ r3 := by omega
          have hb9 : (x.1 : Int) ≤ 8 := by have := HX9.out; omega
          have hb8 : (0 : Int) ≤ (x.1 : Int) := by omega
          clear e3 g0 g1 g2 k0 k1 k2
          clear ho2
          gi_wp2_with fail
          exact HFIN.out _
      · have hcb : ((c.toNat : Int) == 0) = false := beq_eq_false_iff_ne.2 (by omega)
        have hx8 : ((x.1 : Int) == 8) = false := beq_eq_false_iff_ne.2 (fun h => hn1 ⟨by omega, h⟩)
        have h9 : (128 : Int) ≤ (c.toNat : Int) := by omega
        have H9 := Lib.hid h9
        clear hn1 hn2
        gi_wp2_with fail
        refine region_in_still_tail 8 (by kernel_rfl) (by kernel_rfl) (by kernel_rfl) (by rintro ⟨_, _, h⟩; exact h) ?_
        simp only [List.take_succ_cons, List.take_zero, List.drop_succ_cons, List.drop_zero]
        still_step
        still_step
        still_step
        still_step
        still_step
        still_step
        still_step
        still_step
        refine wpStill_nil ?_
        change wpList _ _ _ _ _ W.drew
        go_wp2_with fail
        obtain ⟨b3, b0, b1, b2, hbw⟩ := HW3.out _ (Lib.hid rfl)
        have HFIN : Hid (∀ a', ownPostG w5.heap.size (KC w.heap.size r3) (fun pre W => At W r3 #[.int .u64 (vfold s pre)] 178 ∧ At W w.heap.size #[.int .u64 0] 178 ∧ At W r1 #[.int .i64 0] 3 ∧ At W r2 #[.int .i64 0] 26 ∧ Below w.heap.size w W ∧ ∀ x ∈ pre, ¬ endX x.1 (byteS s x))
            (fun c pre W => c = .ret ∧ At W w.heap.size #[.int .u64 (resV s pre).1] 178 ∧ At W r1 #[.int .i64 (resV s pre).2.1] 3 ∧ At W r2 #[.int .i64 (resV s pre).2.2] 26 ∧ Below w.heap.size w W ∧ ∃ q x, pre = q ++ [x] ∧ endX x.1 (byteS s x)) (pre ++ [x]) W .normal a' (W.drew.setCell ⟨r3, 0, none⟩ (.int .u64 M))) := Lib.hid fun a' => by
          have ho := HO.out
          have hsz := HBB.out.size
          refine ⟨((KeepsOthers.drew W).trans (KeepsOthers.setCell _ _ _)).from _, (KC.ofBelow (bN (Below.refl _ _) 1) hsz).trans (KC.setCell _ _ _ 0 _ (by omega)), ?_, b0, b1, b2, hbw, fun y hy => ?_⟩
          · rw [HVS.out]
            exact b3
          · rcases List.mem_append.1 hy with hy | hy
            · exact HNOE.out y hy
            · rw [List.mem_singleton] at hy
              rw [hy, HCX.out]
              have h10 := H9.out
              rintro (h11 | h11)
              · exact HBAD.out h11
              · omega
        clear b3 b0 b1 b2 hbw
        gi_wp2_with fail
        exact HFIN.out _
  case stop =>
    rintro D k W hD hk ⟨b0, b1, b2, hbw, q, x, hq, hx⟩ hK
    have HV := vres_stop s k hk q x hq hx
    rw [← HV] at b0 b1 b2
    have hlt0 := HBW.out.size
    have ho := HO.out
    have hD0 : r2 < D := by have := HW5.out.size; omega
    refine marks_ret1 hK (results_cells3 rfl _ _ rfl rfl rfl (plain_of Tryz.underlying178 rfl) (plain_of Tryz.underlying3 rfl) (plain_of Tryz.underlying26 rfl) ((cell_putObj b0 (by omega)).cell 0) ((cell_putObj b1 (by omega)).cell 0) ((cell_putObj b2 (by omega)).cell 0)) ⟨rfl, ?_⟩
    exact hbw.grown (grownBy_putObj' W D (.deferred none)) hbw.size (fun k e => by cases e; omega)
  case done =>
    rintro D W hD ⟨b3, b0, b1, b2, hbw, hnoe⟩ hK
    have HV := Lib.hid (vres_done s hnoe)
    have hlt0 := HBW.out.size
    have ho := HO.out
    have hD0 : r2 < D := by have := HW5.out.size; omega
    have HK := Lib.hid hK
    have HDD := Lib.hid hD
    have d0 : W.cell? ⟨w.heap.size, 0, none⟩ = some (.int .u64 0) := b0.cell 0
    have d1 : W.cell? ⟨r1, 0, none⟩ = some (.int .i64 0) := b1.cell 0
    have d2 : W.cell? ⟨r2, 0, none⟩ = some (.int .i64 0) := b2.cell 0
    have f0 := b0.free 0
    have f1 := b1.free 0
    have f2 := b2.free 0
    have B0 := Lib.hid b0
    have B1 := Lib.hid b1
    have B2 := Lib.hid b2
    have HBB := Lib.hid hbw
    have m1 : r2 ≠ r1 := by omega
    have m2 : r2 ≠ w.heap.size := by omega
    have m3 : r1 ≠ w.heap.size := by omega
    have m4 : r1 ≠ r2 := by omega
    have m5 : w.heap.size ≠ r1 := by omega
    have m6 : w.heap.size ≠ r2 := by omega
    clear hnoe hK b0 b1 b2 b3 hbw
    go_wp2_with fail
    have hD1 := HDD.out
    have b0 := ((B0.out.set 0 (.int .u64 0)).other (a := ⟨r1, 0, none⟩) (.int .i64 0) m5).other (a := ⟨r2, 0, none⟩) (.int .i64 11) m6
    have b1 := ((B1.out.other (a := ⟨w.heap.size, 0, none⟩) (.int .u64 0) m3).set 0 (.int .i64 0)).other (a := ⟨r2, 0, none⟩) (.int .i64 11) m4
    have b2 := ((B2.out.other (a := ⟨w.heap.size, 0, none⟩) (.int .u64 0) m2).other (a := ⟨r1, 0, none⟩) (.int .i64 0) m1).set 0 (.int .i64 11)
    have hK2 : (((W.setCell ⟨w.heap.size, 0, none⟩ (.int .u64 0)).setCell ⟨r1, 0, none⟩ (.int .i64 0)).setCell ⟨r2, 0, none⟩ (.int .i64 11)).heap[D]? = some (.deferred (some [])) := by
      rw [heap_setCell_other _ _ _ _ (by show D ≠ r2; omega), heap_setCell_other _ _ _ _ (by show D ≠ r1; omega), heap_setCell_other _ _ _ _ (by show D ≠ w.heap.size; omega)]
      exact HK.out
    have hb4 : Below w.heap.size w (((W.setCell ⟨w.heap.size, 0, none⟩ (.int .u64 0)).setCell ⟨r1, 0, none⟩ (.int .i64 0)).setCell ⟨r2, 0, none⟩ (.int .i64 11)) := ((HBB.out.setCell (p := ⟨w.heap.size, 0, none⟩) (Nat.le_refl _) _).setCell (p := ⟨r1, 0, none⟩) (by show w.heap.size ≤ r1; omega) _).setCell (p := ⟨r2, 0, none⟩) (by show w.heap.size ≤ r2; omega) _
    generalize ((W.setCell ⟨w.heap.size, 0, none⟩ (.int .u64 0)).setCell ⟨r1, 0, none⟩ (.int .i64 0)).setCell ⟨r2, 0, none⟩ (.int .i64 11) = W4 at *
    refine marks_ret1 hK2 (results_cells3 rfl _ _ rfl rfl rfl (plain_of Tryz.underlying178 rfl) (plain_of Tryz.underlying3 rfl) (plain_of Tryz.underlying26 rfl) ((cell_putObj b0 (by omega)).cell 0) ((cell_putObj b1 (by omega)).cell 0) ((cell_putObj b2 (by omega)).cell 0)) ⟨by rw [HV.out]; rfl, ?_⟩
    exact hb4.grown (grownBy_putObj' W4 D (.deferred none)) hb4.size (fun k e => by cases e; omega)
end Go.Proofs.YtoojpfcnekpboaaGreat
