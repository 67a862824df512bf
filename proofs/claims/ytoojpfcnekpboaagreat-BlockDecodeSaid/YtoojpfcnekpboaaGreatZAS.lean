/- Walks: the chunks with their offsets (an iterator of the program). A region that draws its order, in a round: walked by the plain words. -/
import Derived.Test.YtoojpfcnekpboaaGreatZAK
import Derived.Test.YtoojpfcnekpboaaGreatZAR
import Derived.OrdersIn
import Derived.StillTailTactics
namespace Go.Proofs.YtoojpfcnekpboaaGreat
open Go.RowKit Go.Shelf
attribute [local go_sem] Oper.semAt_some

def offEnc (xs : List Chk) (f : Fin xs.length → Option Addr × Nat) (k : Fin xs.length) : Array Value := #[.int .i64 (offAt xs k.1), .agg (chC (xs[k]).sig (f k).1 (xs[k]).labs.length (f k).2 (xs[k]).zone (xs[k]).data)]
theorem finTake_succ {n k : Nat} (h : k < n) : (List.finRange n).take (k + 1) = (List.finRange n).take k ++ [⟨k, h⟩] := by
  rw [List.take_succ_eq_append_getElem (by simpa using h)]
  simp
theorem finTake_len {n k : Nat} (h : k ≤ n) : ((List.finRange n).take k).length = k := by simp; omega
theorem grown_new {A : World} {o : Obj} {c : Array Value} : A.grownBy ((A.alloc o).setRow A.heap.size c) none :=
  ⟨rfl, rfl, rfl, by simp, fun k hk _ => by rw [setRow_other _ _ _ _ (by omega)]; exact Below.heap_alloc A o k hk⟩

set_option maxRecDepth 100000 in
set_option maxHeartbeats 2000000 in
theorem offsets_in (n : Nat) (hn : 1 ≤ n) (l Bs n₀ b : Nat) (A : Option Addr) (c : Nat) (xs : List Chk) (f : Fin xs.length → Option Addr × Nat) (J Jx : List (Fin xs.length) → World → Prop) (W : World)
    (hJ : AbidesFrom W.heap.size J)
    (hY : ∀ pre x W1, J pre W1 → pre.length < xs.length → YieldAt Fence.wide (n - 1) Tryz.prog l (offEnc xs f x) W1 fun e W' =>
      (e = .returned (.bool true) ∧ J (pre ++ [x]) W' ∧ KC n₀ b W1 W') ∨ (e = .returned (.bool false) ∧ Jx (pre ++ [x]) W'))
    (h0 : J [] W) (hBs : At W Bs #[.slice A xs.length c] 23) (hb : b < W.heap.size) (hnb : n₀ ≤ W.heap.size) (hck : CK n₀ W A xs f) (hd : ∀ x ∈ xs, x.data.size ≤ 71400) (hl : xs.length ≤ 4000) :
    CallsIn Fence.wide n Tryz.prog 87 #[.func (.yield l) #[] #[], .pointer (some ⟨Bs, 0, none⟩)] W fun e W' => (∃ v, e = .returned v) ∧
      ((∃ ys, ys = List.finRange xs.length ∧ J ys W') ∨ (∃ pre, (∃ k, k ≤ xs.length ∧ pre = (List.finRange xs.length).take k) ∧ Jx pre W')) := by
  have HBS := Lib.hid hBs
  have HCK := Lib.hid hck
  have HD := Lib.hid hd
  have HY := Lib.hid hY
  have c0 : W.cell? ⟨Bs, 0, none⟩ = some (.slice A xs.length c) := hBs.cell 0
  have HBL := Lib.hid hBs.lt
  clear hBs hck hd hY
  refine callsIn_of_wp Tryz.func87 rfl trivial ?_ rfl
  simp only [Tryz.ntmps87, List.size_toArray, List.length_cons, List.length_nil, Nat.reduceAdd, Nat.reduceSub, Array.replicate_succ, Array.replicate_zero, List.push_toArray, List.append_toArray, List.nil_append, List.cons_append]
  gi_wp2
  gi_loopw [3, 8] (fun a i wr => ∃ k : Nat, k ≤ xs.length ∧ a = .int .i64 (offAt xs k) ∧ i = .int .i64 k ∧ J ((List.finRange xs.length).take k) wr ∧ Hid (KC n₀ b W wr) ∧ Hid (W.heap.size ≤ wr.heap.size))
    (fun _ i _ => xs.length - (intOf i).toNat)
  case atStart => exact ⟨0, Nat.zero_le _, rfl, rfl, h0, Lib.hid (KC.refl _ _ _), Lib.hid (Nat.le_refl _)⟩
  case round =>
    obtain ⟨k, hk, rfl, rfl, hJs, HK, HS⟩ := hrel
    have hoff : offAt xs k ≤ 71404 * k := offAt_leM HD.out k
    by_cases hlt : k < xs.length
    · obtain ⟨g, o, rfl, hg, hrg, _, _⟩ := (HCK.out.below HK.out.below) ⟨k, hlt⟩
      have HRG : Hid (wr.rangeAt g (o + k * 16) (chC (xs[k]).sig (f ⟨k, hlt⟩).1 (xs[k]).labs.length (f ⟨k, hlt⟩).2 (xs[k]).zone (xs[k]).data).toList) := Lib.hid hrg
      have hds := HD.out _ (List.getElem_mem hlt)
      have HSTP := Lib.hid (offAt_step hlt)
      have hsz := HS.out
      clear hrg
      have hYk := fun W1 h => HY.out ((List.finRange xs.length).take k) ⟨k, hlt⟩ W1 h (by rw [finTake_len hk]; exact hlt)
      have HYK := Lib.hid hYk
      clear hYk
      have hEnc : offEnc xs f ⟨k, hlt⟩ = #[.int .i64 (offAt xs k), .agg (chC (xs[k]).sig (f ⟨k, hlt⟩).1 (xs[k]).labs.length (f ⟨k, hlt⟩).2 (xs[k]).zone (xs[k]).data)] := rfl
      rw [hEnc] at HYK
      clear hEnc
      generalize (f ⟨k, hlt⟩).1 = A' at *
      generalize (f ⟨k, hlt⟩).2 = c' at *
      obtain ⟨x, hx⟩ : ∃ x, xs[k] = x := ⟨_, rfl⟩
      rw [hx] at HRG hds HSTP HYK
      clear hx
      gi_wp2_with (first | (refine wpListIn_load_mid rfl 58 (.tmp 10) rfl g (o + k * 16) rfl (chC x.sig A' x.labs.length c' x.zone x.data).toList _ HRG.out Tryz.underlying58 rfl size_chunk ?_) | (refine wpListIn_store_at rfl 58 (.tmp 5) (.tmp 11) rfl wr.heap.size (chC x.sig A' x.labs.length c' x.zone x.data) rfl rfl 58 _ (At.new _ _ _) size_chunk rfl (chC_one _ _ _ _ _ _) ?_))
      intro w1 HW1
      have hg1 : wr.grownBy w1 none := by rw [HW1.out]; exact grown_new
      have hJ1 : J ((List.finRange xs.length).take k) w1 := hJ _ wr w1 none hJs hg1 (fun r e => by cases e)
      have HX1 : Hid (At w1 wr.heap.size (chC x.sig A' x.labs.length c' x.zone x.data) 58) := Lib.hid (by rw [HW1.out]; exact (At.new _ _ _).row)
      have hbw : Below wr.heap.size wr w1 := ⟨hg1.os, hg1.tape, hg1.output, hg1.size, fun q hq => hg1.block q hq (by simp)⟩
      have HK1 : Hid (KC n₀ b W w1) := Lib.hid (HK.out.trans (KC.ofBelow hbw (by omega)))
      have HS1 : Hid (W.heap.size ≤ w1.heap.size) := Lib.hid (Nat.le_trans HS.out hbw.size)
      obtain ⟨fn, tmps, assign, body, hy, hR⟩ := HYK.out w1 hJ1
      clear HW1 hg1 hbw HYK
      gi_wp2_with (refine wpListIn_load_mid rfl 58 (.tmp 5) rfl wr.heap.size 0 rfl (chC x.sig A' x.labs.length c' x.zone x.data).toList _ (range_at HX1.out) Tryz.underlying58 rfl size_chunk ?_)
      refine hR.mono ?_
      rintro e W3 (⟨rfl, hJ3, hk3⟩ | ⟨rfl, hJx3⟩)
      · have HK3 := Lib.hid (HK1.out.trans hk3)
        have HX3 := Lib.hid (HX1.out.kc hk3 (by omega) (by decide))
        have HS3 : Hid (W.heap.size ≤ W3.heap.size) := Lib.hid (by have := HX3.out.lt; omega)
        have e15 : W3.cell? ⟨wr.heap.size, 15, none⟩ = some (.string x.data) := HX3.out.cell 15
        have HTK : Hid ((List.finRange xs.length).take k ++ [⟨k, hlt⟩] = (List.finRange xs.length).take (k + 1)) := Lib.hid (finTake_succ hlt).symm
        clear hy hR hk3
        gi_wp2
        go_roundw
        case rel => exact ⟨k + 1, hlt, by rw [HSTP.out]; go_num, by go_num, by rw [← HTK.out]; exact hJ3, HK3, HS3⟩
        case measure => simp [intOf]; omega
      · clear hy hR
        gi_wp2
        refine bodyPost_ret (results_none rfl _ _ _) rfl ?_
        exact ⟨⟨_, rfl⟩, .inr ⟨_, ⟨k + 1, by omega, (finTake_succ hlt).symm⟩, hJx3⟩⟩
    · have hke : k = xs.length := by omega
      subst hke
      gi_wp2
      go_end0
      refine ⟨⟨_, rfl⟩, .inl ⟨_, rfl, ?_⟩⟩
      rw [List.take_of_length_le (by simp)] at hJs
      exact hJs
/-- The iterator's contract. -/
theorem offsets_stops (n : Nat) (hn : 1 ≤ n) (Bs n₀ b : Nat) (A : Option Addr) (c : Nat) (xs : List Chk) (f : Fin xs.length → Option Addr × Nat) (w : World)
    (hBs : At w Bs #[.slice A xs.length c] 23) (hb : b < w.heap.size) (hnb : n₀ ≤ w.heap.size) (hck : CK n₀ w A xs f) (hd : ∀ x ∈ xs, x.data.size ≤ 71400) (hl : xs.length ≤ 4000) :
    SeqStopsK Fence.wide n Tryz.prog 87 #[.pointer (some ⟨Bs, 0, none⟩)] (offEnc xs f) (KC n₀ b) (fun l => l = List.finRange xs.length) (fun pre => ∃ k, k ≤ xs.length ∧ pre = (List.finRange xs.length).take k) xs.length w := fun l J Jx W hW hJ _ hY h0 =>
  offsets_in n hn l Bs n₀ b A c xs f J Jx W hJ hY h0 (hBs.below hW) (Nat.lt_of_lt_of_le hb hW.size) (Nat.le_trans hnb hW.size) (hck.below (hW.mono hnb)) hd hl
set_option maxHeartbeats 400000 in
/-- 'offsets' itself: a box for the list, and the iterator. -/
theorem offsets_any (A : Option Addr) (k c : Nat) (w : World) :
    Calls Tryz.prog 61 #[.slice A k c] w fun e w' => e = .returned (.func (.func 87) #[] #[.pointer (some ⟨w.heap.size, 0, none⟩)]) ∧ w' = w.alloc (.cells #[.slice A k c] 23) := by
  go_enter Tryz.func61, Tryz.ntmps61
  go_wp2_with fail
  go_ret
  exact ⟨rfl, rfl⟩
theorem ownFrom_kc {β : Type} {n₀ b B : Nat} {w₀ : World} (hn : n₀ ≤ w₀.heap.size) (hB : n₀ ≤ B) : OwnFrom B (fun (_ : β) W => KC n₀ b w₀ W) := fun _ _ _ _ hs hg hr =>
  ⟨hs.below.grown hg (Nat.le_trans hn hs.below.size) (fun k e => Nat.le_trans hB (hr k e).1), fun k c t fz h1 h2 h3 => by
    have h4 := hs.keep k c t fz h1 h2 h3
    rw [hg.block k (Array.getElem?_eq_some_iff.1 h4).1 (fun e => by
      obtain ⟨_, o, h5, h6⟩ := hr k e.symm
      rw [h4] at h5
      injection h5 with h5
      rw [← h5] at h6
      cases h6)]
    exact h4⟩
theorem own_at {β : Type} (b : β → Nat) (t : TypeId) (f : β → Array Value) : Own (fun s W => At W (b s) (f s) t) := fun s _ _ _ hs hg hr =>
  hs.grown hg (fun e => by obtain ⟨o, ho, hc⟩ := hr (b s) e; rw [hs.out] at ho; injection ho with ho; rw [← ho] at hc; cases hc)
def chZ : Array Value := chC 0 none 0 0 Zn.zero ⟨#[]⟩
/-- 'for at, c := range offsets(l)', the body walked once. -/
theorem range_chunks {g : Operand} {ps : Array Tmp} {assign body : Code} {Q : Exit → Act → World → Prop} {a : Act} {w : World} (n₀ b Bs : Nat) (A : Option Addr) (c : Nat) (xs : List Chk) (f : Fin xs.length → Option Addr × Nat)
    (hg : a.eval g = .func (.func 87) #[] #[.pointer (some ⟨Bs, 0, none⟩)]) (hps : ps.size = 2)
    (hBs : At w Bs #[.slice A xs.length c] 23) (hb : b < w.heap.size) (hnb : n₀ ≤ w.heap.size) (hck : CK n₀ w A xs f) (hd : ∀ x ∈ xs, x.data.size ≤ 71400) (hl : xs.length ≤ 4000)
    (G : Fin xs.length → Nat → Array Value → Array Value) (I : List (Fin xs.length) → World → Prop) (hI : OwnFrom w.heap.size I) (hIs : ∀ pre W, I pre W → w.heap.size ≤ W.heap.size) (h0 : I [] w)
    (hassign : ∀ (l : Nat) (x : Fin xs.length) (W : World) (K : Act → World → Prop),
      (∀ W', Hid (W' = (W.alloc (.cells chZ 58)).setRow W.heap.size (chC (xs[x]).sig (f x).1 (xs[x]).labs.length (f x).2 (xs[x]).zone (xs[x]).data)) → K { tmps := G x W.heap.size a.tmps, defers := [] } W') →
      assign.wpIn (Fence.wide.inRound l) 7 Tryz.prog (Exit.then K (fun _ _ _ => False)) { tmps := (ps.zip (offEnc xs f x)).foldl (fun t (p, v) => t.setIfInBounds p v) a.tmps, defers := [] } W)
    (hbody : ∀ (l : Nat) (pre : List (Fin xs.length)) (x : Fin xs.length) (Bx : Nat) (W : World), I pre W → w.heap.size ≤ Bx → At W Bx (chC (xs[x]).sig (f x).1 (xs[x]).labs.length (f x).2 (xs[x]).zone (xs[x]).data) 58 → pre.length < xs.length →
      body.wpIn (Fence.wide.inRound l) 7 Tryz.prog (ownPostG w.heap.size (KC n₀ b) I (fun _ _ _ => False) (pre ++ [x]) W) { tmps := G x Bx a.tmps, defers := [] } W)
    (hdone : ∀ (D : Nat) (W : World), w.heap.size ≤ D → I (List.finRange xs.length) W → W.heap[D]? = some (.deferred (some [])) → Q .normal { a with defers := { target := .collected D, args := #[] } :: a.defers } W) :
    (Code.rangeFunc g ps assign body).wp Tryz.prog Q a w := by
  refine (wpIn_wide (n := 9)).1 ?_
  refine wpIn_rangeFunc_ownH rfl (by decide) (gf := 87) (lb := #[.pointer (some ⟨Bs, 0, none⟩)]) hg trivial (enters_of Tryz.func87 (by kernel_rfl) rfl)
    (offsets_stops 8 (by decide) Bs n₀ b A c xs f w hBs hb hnb hck hd hl) KC.trans (fun W l o o' hle h hc _ => KC.putObj W l o o' (Nat.le_trans hnb hle) h hc) (Below.refl _ _) (fun _ => by rw [hps]; rfl)
    I (fun _ _ _ => False) hI (fun _ _ _ _ _ h _ _ => h) h0 (fun x a' W => ∃ Bx, w.heap.size ≤ Bx ∧ At W Bx (chC (xs[x]).sig (f x).1 (xs[x]).labs.length (f x).2 (xs[x]).zone (xs[x]).data) 58 ∧ a' = { tmps := G x Bx a.tmps, defers := [] })
    (fun x a' _ X Y row hs hg hr => ?_) ?assign ?body ?done ?stop
  · obtain ⟨Bx, h1, h2, h3⟩ := hs
    exact ⟨Bx, h1, (own_at (β := Unit) (fun _ => Bx) 58 (fun _ => chC (xs[x]).sig (f x).1 (xs[x]).labs.length (f x).2 (xs[x]).zone (xs[x]).data)).from w.heap.size () X Y row h2 hg hr, h3⟩
  case assign =>
    intro l pre x W K hi hK
    refine hassign l x W K fun W' hW' => ?_
    have hgr : W.grownBy W' none := by rw [hW'.out]; exact grown_new
    have hbw : Below W.heap.size W W' := ⟨hgr.os, hgr.tape, hgr.output, hgr.size, fun q hq => hgr.block q hq (by simp)⟩
    have hs := hIs pre W hi
    refine hK _ _ (keeps_of_below hbw) (KC.ofBelow hbw (Nat.le_trans hnb hs)) (hI pre W W' none hi hgr (fun r e => by cases e)) ⟨W.heap.size, hs, ?_, rfl⟩
    rw [hW'.out]
    exact (At.new _ _ _).row
  case body =>
    rintro l pre x a' W _ _ hi ⟨Bx, h1, h2, rfl⟩ hlen
    exact hbody l pre x Bx W hi h1 h2 hlen
  case done =>
    rintro D ys W hD rfl hi hK
    exact hdone D W hD hi hK
  case stop => exact fun _ _ _ _ _ _ h _ => h.elim
end Go.Proofs.YtoojpfcnekpboaaGreat

namespace Go.Proofs.YtoojpfcnekpboaaGreat
open Go.RowKit

def wideR (l : Nat) : Fence := Fence.wide.inRound l
theorem op_in {l n : Nat} {P : Program} {o : Oper} {a : Act} {w : World} {K K' : Act → World → Prop} {Q : Exit → Act → World → Prop} (hd : ∀ c, o.op ≠ .defer c) (hk : ∀ a w, K a w → K' a w) (h : o.wp P a w K Q) : o.wpIn (wideR l) n P a w K' Q := by
  refine ⟨fun _ _ => trivial, ?_⟩
  rw [Oper.semAt_eq _ _ _ hd]
  unfold Oper.wp at h
  generalize (execOp a.eval o).run P w = r at *
  cases r with
  | ok x w' =>
    cases x with
    | value v => exact hk _ _ h
    | skip => exact hk _ _ h
    | defer d => exact hk _ _ h
    | enter f args =>
      refine ⟨fun h2 => (by cases h2), ?_⟩
      refine CallsIn.inRound l (callsIn_wide.2 (Calls.mono h ?_))
      intro e w'' h2
      cases e with
      | returned v => exact hk _ _ h2
      | panicked c => exact h2
      | outgrown => exact h2
    | row r args =>
      refine ⟨fun h2 => (by cases h2), ?_⟩
      intro c cs _
      obtain ⟨v, w', r, s⟩ := h c cs
      exact ⟨v, w', hk _ _ r, stepsIn_wide.2 s⟩
    | _ => exact h.elim
  | halt x w' =>
    cases x with
    | panic v => exact h
    | _ => exact h.elim
theorem any_in {l n : Nat} {P : Program} {md : Region.Mode} {ops : Array Oper} {Q : Exit → Act → World → Prop} (hd : ∀ (i : Nat) o, ops[i]? = some o → ∀ c, o.op ≠ .defer c) (hQ : ¬ LetsOut Q) :
    ∀ (g : Nat) (listed : Array Bool) (a : Act) (w : World), wpAny P md ops Q g listed a w → wpAnyIn (wideR l) n P md ops Q g listed a w
  | 0, _, _, _, h => h
  | g + 1, listed, a, w, h => by
    refine ⟨h.1, fun i hi => ?_⟩
    have h2 := h.2 i hi
    unfold wpOp at h2
    unfold wpOpIn
    rcases ho : ops[i]? with _ | o
    · rw [ho] at h2
      exact any_in hd hQ g _ a w h2
    · rw [ho] at h2
      simp only at h2 ⊢
      by_cases hw : Region.wanted o (yielded ops a.tmps) = true
      · rw [if_pos hw] at h2 ⊢
        rcases h2 with h2 | h2
        · exact op_in (hd i o ho) (fun a w h => any_in hd hQ g _ a w h) h2
        · exact absurd h2.2 hQ
      · rw [if_neg hw] at h2 ⊢
        exact ⟨fun _ _ => trivial, any_in hd hQ g _ _ w h2⟩
def noDefer (ops : List Oper) : Bool := ops.all fun o => match o.op with | .defer _ => false | _ => true
theorem noDefer_spec {l : List Oper} (h : noDefer l = true) : ∀ (i : Nat) o, l.toArray[i]? = some o → ∀ c, o.op ≠ .defer c := fun i o ho c hc => by
  have h2 := List.all_eq_true.1 h o (List.mem_of_getElem? (by simpa using ho))
  rw [hc] at h2
  cases h2
theorem region_in_still_tail {id r nF : Nat} {P : Program} {Q : Exit → Act → World → Prop} {a : Act} {w : World} {l : List Oper} (n : Nat) (hm : P.follows .mixedOrders = true) (hB : Region.lexTailB .any l.toArray n = true) (hdf : noDefer l = true) (hQ : ¬ LetsOut Q)
    (h : wpStill P l.toArray { w with drawn := w.drawn + 1 } (fun a' => wpList P l.toArray Q (l.drop n) a' { w with drawn := w.drawn + 1 }) (l.take n) a) : (Code.region id l.toArray true).wpIn (wideR r) nF P Q a w := by
  simp only [Region.lexTailB, Bool.and_eq_true, decide_eq_true_eq] at hB
  obtain ⟨⟨⟨⟨hsel, hn⟩, hs⟩, hc⟩, hlex⟩ := hB
  have hn' : n < l.length := by simpa using hn
  have htl : (l.take n).length = n := by simp; omega
  have hdl : (l.drop n).length = l.toArray.size - n := by simp
  refine wpIn_region_any hm (any_in (noDefer_spec hdf) hQ _ _ _ _ ?_)
  have inv : HeadInv .any l.toArray n (Array.replicate l.toArray.size false) := ⟨by simp, fun j oj _ hj => (by rw [getD_replicate_false] at hj; cases hj), fun t _ ht => getD_in (by simpa using ht) (getD_replicate_false _ _)⟩
  have h1 := wpAnyL_lex (md := .any) (g := l.toArray.size - n) hsel hs hc hn (l.take n) 0 _ a (fun j hj => by
    have hj' : j < n := by rw [htl] at hj; exact hj
    simp [hj']) (by simpa using htl) inv (by rw [htl]; exact hlex) h
  have h2 := wpAny_of_head (Q' := Q) (g := l.toArray.size - n) (fun listed a' hL => by
    have h3 := wpAny_of_seq (md := .any) (Q' := Q) (l.drop n) n listed a' { w with drawn := w.drawn + 1 } (fun j => by simp [List.getElem?_drop]) (by rw [hdl]; exact hL.1) hL.2
    rwa [hdl] at h3) _ _ _ h1
  rwa [htl, show n + (l.toArray.size - n) = l.toArray.size by omega] at h2
end Go.Proofs.YtoojpfcnekpboaaGreat
