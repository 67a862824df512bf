/- A region that draws its order, in a round: walked by the plain words. -/
import Derived.Test.YtoojpfcnekpboaaMAL
import Derived.OrdersIn
import Derived.StillTailTactics
namespace Go.Proofs.Ytoojpfcnekpboaa
open Go.RowKit

def wideR (l : Nat) : Fence := Fence.wide.inRound l
theorem op_in {l n : Nat} {P : Program} {o : Oper} {a : Act} {w : World} {K K' : Act → World → Prop} {Q : Exit → Act → World → Prop} (hd : ∀ c, o.op ≠ .defer c) (hk : ∀ a w, K a w → K' a w) (h : o.wp P a w K Q) : o.wpIn (wideR l) n P a w K' Q := by
  refine ⟨fun _ _ => trivial, ?_⟩
  rw [Oper.semAt_eq _ _ _ hd]
  unfold Oper.wp at h
  generalize (execOp a.eval o).run P w = r at *
  cases r with
  | ok x w' =>
    cases x with
    | value v => exact hk _ _ h
    | skip => exact hk _ _ h
    | defer d => exact hk _ _ h
    | enter f args =>
      refine ⟨fun h2 => (by cases h2), ?_⟩
      refine CallsIn.inRound l (callsIn_wide.2 (Calls.mono h ?_))
      intro e w'' h2
      cases e with
      | returned v => exact hk _ _ h2
      | panicked c => exact h2
      | outgrown => exact h2
    | row r args =>
      refine ⟨fun h2 => (by cases h2), ?_⟩
      intro c cs _
      obtain ⟨v, w', r, s⟩ := h c cs
      exact ⟨v, w', hk _ _ r, stepsIn_wide.2 s⟩
    | _ => exact h.elim
  | halt x w' =>
    cases x with
    | panic v => exact h
    | _ => exact h.elim
theorem any_in {l n : Nat} {P : Program} {md : Region.Mode} {ops : Array Oper} {Q : Exit → Act → World → Prop} (hd : ∀ (i : Nat) o, ops[i]? = some o → ∀ c, o.op ≠ .defer c) (hQ : ¬ LetsOut Q) :
    ∀ (g : Nat) (listed : Array Bool) (a : Act) (w : World), wpAny P md ops Q g listed a w → wpAnyIn (wideR l) n P md ops Q g listed a w
  | 0, _, _, _, h => h
  | g + 1, listed, a, w, h => by
    refine ⟨h.1, fun i hi => ?_⟩
    have h2 := h.2 i hi
    unfold wpOp at h2
    unfold wpOpIn
    rcases ho : ops[i]? with _ | o
    · rw [ho] at h2
      exact any_in hd hQ g _ a w h2
    · rw [ho] at h2
      simp only at h2 ⊢
      by_cases hw : Region.wanted o (yielded ops a.tmps) = true
      · rw [if_pos hw] at h2 ⊢
        rcases h2 with h2 | h2
        · exact op_in (hd i o ho) (fun a w h => any_in hd hQ g _ a w h) h2
        · exact absurd h2.2 hQ
      · rw [if_neg hw] at h2 ⊢
        exact ⟨fun _ _ => trivial, any_in hd hQ g _ _ w h2⟩
def noDefer (ops : List Oper) : Bool := ops.all fun o => match o.op with | .defer _ => false | _ => true
theorem noDefer_spec {l : List Oper} (h : noDefer l = true) : ∀ (i : Nat) o, l.toArray[i]? = some o → ∀ c, o.op ≠ .defer c := fun i o ho c hc => by
  have h2 := List.all_eq_true.1 h o (List.mem_of_getElem? (by simpa using ho))
  rw [hc] at h2
  cases h2
theorem region_in_still_tail {id r nF : Nat} {P : Program} {Q : Exit → Act → World → Prop} {a : Act} {w : World} {l : List Oper} (n : Nat) (hm : P.follows .mixedOrders = true) (hB : Region.lexTailB .any l.toArray n = true) (hdf : noDefer l = true) (hQ : ¬ LetsOut Q)
    (h : wpStill P l.toArray { w with drawn := w.drawn + 1 } (fun a' => wpList P l.toArray Q (l.drop n) a' { w with drawn := w.drawn + 1 }) (l.take n) a) : (Code.region id l.toArray true).wpIn (wideR r) nF P Q a w := by
  simp only [Region.lexTailB, Bool.and_eq_true, decide_eq_true_eq] at hB
  obtain ⟨⟨⟨⟨hsel, hn⟩, hs⟩, hc⟩, hlex⟩ := hB
  have hn' : n < l.length := by simpa using hn
  have htl : (l.take n).length = n := by simp; omega
  have hdl : (l.drop n).length = l.toArray.size - n := by simp
  refine wpIn_region_any hm (any_in (noDefer_spec hdf) hQ _ _ _ _ ?_)
  have inv : HeadInv .any l.toArray n (Array.replicate l.toArray.size false) := ⟨by simp, fun j oj _ hj => (by rw [getD_replicate_false] at hj; cases hj), fun t _ ht => getD_in (by simpa using ht) (getD_replicate_false _ _)⟩
  have h1 := wpAnyL_lex (md := .any) (g := l.toArray.size - n) hsel hs hc hn (l.take n) 0 _ a (fun j hj => by
    have hj' : j < n := by rw [htl] at hj; exact hj
    simp [hj']) (by simpa using htl) inv (by rw [htl]; exact hlex) h
  have h2 := wpAny_of_head (Q' := Q) (g := l.toArray.size - n) (fun listed a' hL => by
    have h3 := wpAny_of_seq (md := .any) (Q' := Q) (l.drop n) n listed a' { w with drawn := w.drawn + 1 } (fun j => by simp [List.getElem?_drop]) (by rw [hdl]; exact hL.1) hL.2
    rwa [hdl] at h3) _ _ _ h1
  rwa [htl, show n + (l.toArray.size - n) = l.toArray.size by omega] at h2
end Go.Proofs.Ytoojpfcnekpboaa
