/- The reference's walks: reach. The reference's walks: empties. The reference's walks: what ends reads. The reference's walks: ends. The reference's walks: atom. The reference's expression: what its loop keeps. -/
import Derived.Test.YtheblleadjbndaaKaG
import Derived.Test.YtheblleadjbndaaKaB
namespace Go.Proofs.Ytheblleadjbndaa
open Go.RowKit Rx
/-- A set of states in block g. -/
structure BSet (W : World) (g cap : Nat) (s : List Bool) : Prop where
  row : W.ownsRow 0 4 1 (.slice (some ⟨g, 0, none⟩) s.length cap) s.length (s.map .bool)
theorem BSet.cell {W : World} {g cap : Nat} {s : List Bool} (h : BSet W g cap s) {i : Nat} {b : Bool} (hi : s[i]? = some b) : W.cell? ⟨g, i, none⟩ = some (.bool b) := by
  have hl := (List.getElem?_eq_some_iff.1 hi).1
  rw [h.row.cellAt i (by omega), List.getElem?_map, hi]; rfl
theorem BSet.free {W : World} {g cap : Nat} {s : List Bool} (h : BSet W g cap s) (i : Nat) : W.frozen? ⟨g, i, none⟩ = false := h.row.frozenAt i
theorem BSet.set {W : World} {g cap : Nat} {s : List Bool} (h : BSet W g cap s) (i : Nat) (b : Bool) : BSet (W.setCell ⟨g, i, none⟩ (.bool b)) g cap (s.set i b) := by
  have hst := (h.row.stored i (.bool b)).1
  refine ⟨?_⟩
  rw [List.length_set, List.map_set]
  exact hst
theorem BSet.lt {W : World} {g cap : Nat} {s : List Bool} (h : BSet W g cap s) : g < W.heap.size := (h.row.lt g rfl).2
theorem BSet.below {W w' : World} {g cap : Nat} {s : List Bool} (h : BSet W g cap s) (hb : Below W.heap.size W w') : BSet w' g cap s :=
  ⟨owns_same h.row (S := fun k => k = g) (fun _ hk => by injection hk with hk; exact hk.symm) (fun k hk => by subst hk; exact hb.block _ h.lt)⟩
theorem RM.keepX {W w' : World} {B g : Nat} {X : Nat → Prop} {mv : Value} {M : List St} {xs : List (Array Value)} (h : RM W B X mv M xs) (hk : Keep g W w') (hx : X g) : RM w' B X mv M xs :=
  ⟨owns_same h.row (S := fun k => mv.ownBlock = some k) (fun _ hk => hk) (fun k hk2 => hk.block k (h.own k hk2).2 (fun e => h.nx k hk2 (e ▸ hx))), h.len, fun k hk2 => ⟨(h.own k hk2).1, Nat.lt_of_lt_of_le (h.own k hk2).2 hk.size⟩, h.nx,
    fun i s x h1 h2 => (h.st i s x h1 h2).same (fun k hk2 => hk.block k hk2.2.1 (fun e => hk2.2.2.2 (e ▸ hx))) (fun _ hk2 => ⟨hk2.1, Nat.lt_of_lt_of_le hk2.2.1 hk.size, hk2.2.2⟩)⟩
theorem reach_len {M : List St} : ∀ (n : Nat) (s : List Bool) (i : Nat), (reachF M n s i).length = s.length := by
  intro n
  induction n with
  | zero => intro s i; rfl
  | succ n ih =>
    intro s i
    simp only [reachF]
    split
    · rfl
    · split
      · rename_i qs _
        have : ∀ (l : List Nat) (r : List Bool), (l.foldl (fun r q => reachF M n r q) r).length = r.length := by
          intro l
          induction l with
          | nil => intro r; rfl
          | cons q l ihl => intro r; rw [List.foldl_cons, ihl, ih]
        rw [this, List.length_set]
      · rw [List.length_set]
theorem fold_len {M : List St} (n : Nat) (l : List Nat) (r : List Bool) : (l.foldl (fun r q => reachF M n r q) r).length = r.length := by
  induction l generalizing r with
  | nil => rfl
  | cons q l ih => rw [List.foldl_cons, ih, reach_len]
theorem fold_lack {M : List St} (h0 : M[0]? = some (.ep [])) (hOk : Ok M) (n : Nat) : ∀ (l : List Nat) (r : List Bool), (∀ q ∈ l, q < M.length) → r.length = M.length → lack r < n → lack (l.foldl (fun r q => reachF M n r q) r) ≤ lack r
  | [], r, _, _, _ => Nat.le_refl _
  | q :: l, r, hq, hr, hk => by
    rw [List.foldl_cons]
    have h1 := reach_rea M h0 hOk n r q hk hr (hq q (by simp))
    have h2 := fold_lack h0 hOk n l _ (fun x hx => hq x (by simp [hx])) (h1.len.trans hr) (Nat.lt_of_le_of_lt h1.lack hk)
    exact Nat.le_trans h2 h1.lack
theorem irow_shape {S : Nat → Prop} {W : World} {sv : Value} {qs : List Nat} (h : IRow S W sv qs) : (sv = .slice none 0 0 ∧ qs = []) ∨ ∃ g cap, sv = .slice (some ⟨g, 0, none⟩) qs.length cap ∧ qs.length ≤ cap ∧ S g ∧ qs.length ≤ 9223372036854775807 ∧ ∀ j q, qs[j]? = some q → W.cell? ⟨g, j, none⟩ = some (.int .i64 (q : Nat)) := by
  rcases h.row.2 with ⟨e, h0⟩ | ⟨g, cap, cur, rfl, _, _, h3, h4, _⟩
  · exact .inl ⟨e, List.length_eq_zero_iff.1 h0⟩
  · refine .inr ⟨g, cap, rfl, h3, h.own g rfl, by unfold maxLen at h4; omega, fun j q hq => ?_⟩
    have hl := (List.getElem?_eq_some_iff.1 hq).1
    rw [h.row.cellAt j (by omega), List.getElem?_map, hq]; rfl
/-- A state's cells, in the machine's row. -/
theorem RM.cells {W : World} {B gm mc : Nat} {X : Nat → Prop} {M : List St} {xs : List (Array Value)} {i : Nat} {x : Array Value} (h : RM W B X (.slice (some ⟨gm, 0, none⟩) xs.length mc) M xs) (hx : xs[i]? = some x) (j : Nat) (hj : j < 258) : W.cell? ⟨gm, i * 258 + j, none⟩ = x[j]? := by
  have hi := (List.getElem?_eq_some_iff.1 hx).1
  rw [h.row.cellAt _ (by omega), flat_getG (fun x hx => (h.sv x hx).size) i j x hx hj]
def ReachOK (M : List St) (n : Nat) : Prop := ∀ (W : World) (B g cap : Nat) (X : Nat → Prop) (mv : Value) (xs : List (Array Value)) (s : List Bool) (i : Nat), RM W B X mv M xs → X g → BSet W g cap s → s.length = M.length → i < M.length → lack s < n → M.length ≤ 1000 →
  Calls Try.prog 43 #[mv, .slice (some ⟨g, 0, none⟩) s.length cap, .int .i64 i] W fun e w' => e = .returned (.slice (some ⟨g, 0, none⟩) s.length cap) ∧ BSet w' g cap (reachF M n s i) ∧ Keep g W w'
set_option maxRecDepth 100000 in
set_option maxHeartbeats 4000000 in
theorem rreach_ok (M : List St) (h0 : M[0]? = some (.ep [])) (hOk : Ok M) : ∀ n : Nat, ReachOK M n := by
  intro n
  induction n with
  | zero => intro W B g cap X mv xs s i _ _ _ _ _ hk; omega
  | succ n ih =>
    intro W B g cap X mv xs s i hm hx hb hl hi hk hM
    obtain ⟨gm, mc, rfl⟩ : ∃ gm mc, mv = .slice (some ⟨gm, 0, none⟩) xs.length mc := by
      rcases hm.row.2 with ⟨_, h0⟩ | ⟨gm, cap, cur, e, _⟩
      · have := hm.len; omega
      · exact ⟨gm, cap, e⟩
    have hcap : s.length ≤ cap := by
      rcases hb.row.2 with ⟨e, _⟩ | ⟨_, _, _, e, _, _, h3, _⟩
      · cases e
      · injection e with _ _ e; omega
    have hmcap : xs.length ≤ mc := by
      rcases hm.row.2 with ⟨e, _⟩ | ⟨_, _, _, e, _, _, h3, _⟩
      · cases e
      · injection e with _ _ e; omega
    have hil : i < s.length := by omega
    have hixs : i < xs.length := by rw [hm.len]; exact hi
    obtain ⟨b, hsb⟩ : ∃ b, s[i]? = some b := ⟨_, List.getElem?_eq_getElem hil⟩
    have c0 := hb.cell hsb
    have f0 := hb.free i
    have t0 : (i : Int) < (s.length : Int) := by omega
    have t1 : (i : Int) < (xs.length : Int) := by omega
    have hxl : (xs.length : Int) ≤ 1000 := by have := hm.len; omega
    have hil2 : (i : Int) ≤ 1000 := by omega
    cases b
    · obtain ⟨st, hst⟩ : ∃ st, M[i]? = some st := ⟨_, List.getElem?_eq_getElem hi⟩
      obtain ⟨x, hxx⟩ : ∃ x, xs[i]? = some x := ⟨_, List.getElem?_eq_getElem hixs⟩
      have hsne : s[i]? ≠ some true := by rw [hsb]; simp
      have hlk := lack_set (s := s) (i := i) hil hsne
      have hk1 : Keep g W (W.setCell ⟨g, i, none⟩ (.bool true)) := (Keep.refl g W).set i _
      have hm1 := hm.keepX hk1 hx
      have hb1 := hb.set i true
      have hsc := hm1.st i st x hst hxx
      have q0 := hm1.cells hxx 0 (by omega)
      have q7 := hm1.cells hxx 257 (by omega)
      rw [Nat.add_zero] at q0
      have HK1 := Lib.hid hk1
      have HM1 := Lib.hid hm1
      have HB1 := Lib.hid hb1
      have HX := Lib.hid hx
      have HL := Lib.hid hl
      have HM := Lib.hid hM
      rcases st with ⟨f, q⟩ | qs
      · obtain ⟨sv, rfl, _⟩ := hsc
        rw [stateC_reads] at q0
        have HE : Hid (reachF M (n + 1) s i = s.set i true) := Lib.hid (by simp only [reachF]; rw [if_neg hsne, hst])
        clear hm hx hb hl hi hk hM hsb hst hxx hsne hlk hk1 hm1 hb1 q7 hil hixs hcap hmcap
        go_enter Try.func43, Try.ntmps43
        go_upto_region 4 with fail
        generalize W.setCell ⟨g, i, none⟩ (.bool true) = w1 at *
        go_wp2_with fail
        go_loopg [1, 7] 1 (fun k sv kv wr => k = 0 + 1 ∧ sv = .slice (some ⟨g, 0, none⟩) s.length cap ∧ kv = .int .i64 (0 : Nat) ∧ w1 = wr)
        case atStart => exact ⟨rfl, rfl, rfl, rfl⟩
        case round =>
          obtain ⟨_, rfl, rfl, rfl⟩ := hrel
          go_wp2_with fail
          go_ret
          exact ⟨rfl, by rw [HE.out]; exact HB1.out, HK1.out⟩
      · have HE : Hid (reachF M (n + 1) s i = qs.foldl (fun r q => reachF M n r q) (s.set i true)) := Lib.hid (by simp only [reachF]; rw [if_neg hsne, hst])
        have HQ : Hid (∀ q ∈ qs, q < M.length) := Lib.hid (hOk i _ hst)
        have HLK : Hid (lack (s.set i true) < n) := Lib.hid (by omega)
        have HST := Lib.hid hst
        have HXX := Lib.hid hxx
        have HQS : Hid (∀ wr, RM wr B X (.slice (some ⟨gm, 0, none⟩) xs.length mc) M xs → wr.cell? ⟨gm, i * 258, none⟩ = some (.bool false) ∧ ∃ sv, wr.cell? ⟨gm, i * 258 + 257, none⟩ = some sv ∧ IRow (MB B X wr (.slice (some ⟨gm, 0, none⟩) xs.length mc)) wr sv qs ∧ x = stateC false noF sv) := Lib.hid (fun wr hr => by
          obtain ⟨sv, rfl, hir⟩ := hr.st i _ x hst hxx
          have q0 := hr.cells hxx 0 (by omega)
          have q7 := hr.cells hxx 257 (by omega)
          rw [Nat.add_zero, stateC_reads] at q0
          rw [stateC_next] at q7
          exact ⟨q0, sv, q7, hir, rfl⟩)
        clear hm hx hb hl hi hk hM hsb hst hxx hsne hlk hk1 hm1 hb1 hsc q0 q7 hil hixs hcap hmcap
        go_enter Try.func43, Try.ntmps43
        go_upto_region 4 with fail
        generalize W.setCell ⟨g, i, none⟩ (.bool true) = w1 at *
        go_wp2_with fail
        go_loopg [1, 7] qs.length (fun k sv kv wr => ∃ j : Nat, k = qs.length - j ∧ j ≤ qs.length ∧ sv = .slice (some ⟨g, 0, none⟩) s.length cap ∧ kv = .int .i64 j ∧ BSet wr g cap ((qs.take j).foldl (fun r q => reachF M n r q) (s.set i true)) ∧ Keep g W wr ∧ RM wr B X (.slice (some ⟨gm, 0, none⟩) xs.length mc) M xs)
        case atStart => exact ⟨0, rfl, Nat.zero_le _, rfl, rfl, HB1.out, HK1.out, HM1.out⟩
        case round =>
          obtain ⟨j, hk, hj, rfl, rfl, hb, hkp, hm⟩ := hrel
          obtain ⟨q0, sv, q7, hir, _⟩ := HQS.out wr hm
          have HB2 := Lib.hid hb
          have HKP := Lib.hid hkp
          have HM2 := Lib.hid hm
          by_cases hlt : j < qs.length
          · obtain ⟨q, hq⟩ : ∃ q, qs[j]? = some q := ⟨_, List.getElem?_eq_getElem hlt⟩
            rcases irow_shape hir with ⟨_, h0⟩ | ⟨h, hc, rfl, hhc, _, hqb, hcell⟩
            · subst h0; simp at hlt
            have d0 := hcell j q hq
            have hjl : (j : Int) < (qs.length : Int) := by omega
            have hqM : q < M.length := HQ.out q (List.mem_of_getElem? hq)
            have htk : (qs.take (j + 1)).foldl (fun r q => reachF M n r q) (s.set i true) = reachF M n ((qs.take j).foldl (fun r q => reachF M n r q) (s.set i true)) q := by
              rw [List.take_succ_eq_append_getElem hlt, List.foldl_append]
              rw [List.getElem?_eq_getElem hlt] at hq
              injection hq with hq
              rw [hq]; rfl
            have hln : ((qs.take j).foldl (fun r q => reachF M n r q) (s.set i true)).length = s.length := by rw [fold_len, List.length_set]
            have hlk2 := fold_lack h0 hOk n (qs.take j) (s.set i true) (fun y hy => HQ.out y (List.mem_of_mem_take hy)) (by rw [List.length_set, HL.out]) HLK.out
            have hrun := ih wr B g cap X _ xs _ q hm HX.out hb (by rw [hln, HL.out]) hqM (Nat.lt_of_le_of_lt hlk2 HLK.out) HM.out
            rw [hln, ← htk] at hrun
            have HRUN := Lib.hid hrun
            have HMO : Hid (qs.length - (j + 1) < gk) := Lib.hid (by omega)
            have HJ := Lib.hid hlt
            have hjb : (j : Int) < 9223372036854775807 := by omega
            clear hqb hb hkp hm hir hcell hq hqM htk hln hlk2 hrun hk hj hlt
            go_wp2_with fail
            refine (HRUN.out).mono ?_
            rintro e w2 ⟨rfl, hb2, hk2⟩
            have HB3 := Lib.hid hb2
            have HK3 := Lib.hid (HKP.out.trans hk2)
            have HM3 := Lib.hid (HM2.out.keepX hk2 HX.out)
            clear hb2 hk2
            go_wp2_with fail
            go_roundg (qs.length - (j + 1))
            case measure => exact HMO.out
            case rel => exact ⟨j + 1, rfl, HJ.out, rfl, rfl, HB3.out, HK3.out, HM3.out⟩
          · obtain rfl : j = qs.length := by omega
            have HE2 : Hid ((qs.take qs.length).foldl (fun r q => reachF M n r q) (s.set i true) = reachF M (n + 1) s i) := Lib.hid (by rw [HE.out, List.take_length])
            obtain ⟨sva, svc, rfl⟩ : ∃ sva svc, sv = .slice sva qs.length svc := by
              rcases irow_shape hir with ⟨rfl, rfl⟩ | ⟨h, hc, rfl, _⟩
              · exact ⟨none, 0, rfl⟩
              · exact ⟨_, _, rfl⟩
            clear hb hkp hm hir hk hj hlt
            go_wp2_with fail
            go_ret
            exact ⟨rfl, by rw [← HE2.out]; exact HB2.out, HKP.out⟩
    · have HE : Hid (reachF M (n + 1) s i = s) := Lib.hid (by simp only [reachF]; rw [if_pos hsb])
      have HB := Lib.hid hb
      clear hm hx hb hl hi hk hM hsb hil hixs hcap hmcap
      go_enter Try.func43, Try.ntmps43
      go_wp2_with fail
      go_ret
      exact ⟨rfl, by rw [HE.out]; exact HB.out, Keep.refl g W⟩
end Go.Proofs.Ytheblleadjbndaa

namespace Go.Proofs.Ytheblleadjbndaa
open Go.RowKit Rx
theorem info_bool : (Try.prog.info? 4).map (fun i => (i.zero, i.size, i.bytes)) = some (some (.bool false), 1, 1) := by kernel_rfl
theorem len_bool {n : Nat} (h : n ≤ 1001) : n + 1 ≤ maxLen ∧ (n + 1) * 1 ≤ 140737488355328 := by unfold maxLen; omega
theorem one_bool (b : Bool) : ∀ u ∈ [Value.bool b], u.oneCell' = true := by
  intro u hu
  simp at hu
  subst hu
  rfl
/-- A row of bools that grows, in blocks from B on. -/
structure BIn (W : World) (v : Value) (l : List Bool) (w : World) : Prop where
  row : w.ownsRow 0 4 1 v l.length (l.map .bool)
  below : Below W.heap.size W w
  own : ∀ g, v.ownBlock = some g → W.heap.size ≤ g ∧ g < w.heap.size
  shape : ∃ g n c, v = .slice (some ⟨g, 0, none⟩) n c
theorem BIn.lit (W : World) (c : Array Value) (l : List Bool) (h : c.toList = l.map .bool) (hl : l.length ≤ 1000) : BIn W (.slice (some ⟨W.heap.size, 0, none⟩) l.length l.length) l (W.alloc (.cells c 4)) := by
  have hs : c.size = l.length * 1 := by rw [← Array.length_toList, h, List.length_map, Nat.mul_one]
  have h1 := World.ownsRow_lit (base := 0) (e := 4) (size := 1) W c l.length (Nat.zero_le _) (by unfold maxLen; omega) hs
  rw [h] at h1
  exact ⟨h1, (Below.refl _ _).alloc (Nat.le_refl _) _, fun g hg => by injection hg with hg; have e : W.heap.size = g := hg; exact ⟨by omega, by rw [← e]; show W.heap.size < (W.heap.push _).size; simp⟩, _, _, _, rfl⟩
theorem BIn.app {W : World} {v v' : Value} {l : List Bool} {w wm w3 : World} {b : Bool} (h : BIn W v l w) (hb : Below w.heap.size w wm) (h1 : w3.ownsRow 0 4 1 v' (l.length + 1) (l.map .bool ++ [.bool b])) (h2 : wm.grownBy w3 v.ownBlock) (h3 : v'.ownBlock = v.ownBlock ∨ ∃ g, v'.ownBlock = some g ∧ wm.heap.size ≤ g ∧ g < w3.heap.size) : BIn W v' (l ++ [b]) w3 := by
  refine ⟨by rw [List.length_append, List.map_append]; exact h1, (h.below.trans (hb.mono h.below.size)).grown h2 (Nat.le_trans h.below.size hb.size) (fun k hk => (h.own k hk).1), fun g hg => ?_, ?_⟩
  · rcases h3 with h3 | ⟨g', h3, h4, h5⟩
    · rw [h3] at hg
      have := h.own g hg
      exact ⟨this.1, by have := hb.size; have := h2.size; omega⟩
    · rw [h3] at hg
      injection hg with hg
      have := h.below.size
      have := hb.size
      exact ⟨by omega, by omega⟩
  · rcases h1.2 with ⟨_, h0⟩ | ⟨g, cap, cur, e, _⟩
    · omega
    · exact ⟨g, _, cap, e⟩
set_option maxRecDepth 100000 in
set_option maxHeartbeats 1000000 in
theorem rempties_any (n : Nat) (W : World) (hn : n ≤ 1000) : Calls Try.prog 44 #[.int .i64 n] W fun e w' => ∃ v, e = .returned v ∧ BIn W v (noneS n) w' := by
  obtain ⟨i0, hi, hz0, hz1, hz2⟩ := info_parts info_bool
  have HI := Lib.hid hi
  have HZ0 := Lib.hid hz0
  have HZ1 := Lib.hid hz1
  have HZ2 := Lib.hid hz2
  have HN := Lib.hid hn
  have hni : (n : Int) ≤ 1000 := by omega
  have HS : Hid (BIn W (.slice (some ⟨W.heap.size, 0, none⟩) 0 0) [] (W.alloc (.cells #[] 4))) := Lib.hid (BIn.lit W #[] [] rfl (by decide))
  have HNS : Hid (∀ j : Nat, noneS (j + 1) = noneS j ++ [false]) := Lib.hid (fun j => by unfold noneS; rw [List.replicate_succ'])
  have HNL : Hid (∀ j : Nat, (noneS j).length = j) := Lib.hid noneS_len
  clear hi hz0 hz1 hz2 hn
  go_enter Try.func44, Try.ntmps44
  go_wp2_with fail
  go_loopg [3, 4] (n + 1) (fun k v iv wr => ∃ j : Nat, k = n + 1 - j ∧ j ≤ n ∧ iv = .int .i64 j ∧ BIn W v (noneS j) wr)
  case atStart => exact ⟨0, rfl, Nat.zero_le _, rfl, HS.out⟩
  case round =>
    obtain ⟨j, hk, hj, rfl, hin⟩ := hrel
    obtain ⟨g0, vn, vc, rfl⟩ := hin.shape
    have HIN := Lib.hid hin
    have hjl : (j : Int) ≤ 1000 := by have := HN.out; omega
    have HJ := Lib.hid hj
    by_cases hlt : j < n
    · have hlti : (j : Int) < (n : Int) := by omega
      have HMO : Hid (n + 1 - (j + 1) < gk) := Lib.hid (by omega)
      have HLT := Lib.hid hlt
      have HLL : Hid ((noneS j).length ≤ 1001) := Lib.hid (by rw [HNL.out]; have := HN.out; omega)
      clear hk hj hlt hin
      go_wp2_with (at_builtin; (refine wpList_append_where _ rfl (.tmp 11) (.tmp 12) 49 rfl 4 i0 _ 1 1 Try.underlying49 HI.out HZ0.out HZ1.out HZ2.out rfl (by decide) (.slice (some ⟨g0, 0, none⟩) vn vc) (noneS j).length ((noneS j).map .bool) rfl (HIN.out.row.alloc _) ⟨wr.heap.size, 0, none⟩ 1 1 [.bool false] rfl (by decide) rfl (new_one wr (.bool false) 4) (one_bool false) (len_bool HLL.out).1 (len_bool HLL.out).2 ?_))
      intro v' w4 hown hgrow hwh
      have HA := Lib.hid (HIN.out.app (b := false) ((Below.refl _ _).alloc (Nat.le_refl _) _) hown hgrow (by
        rcases hwh with h | h
        · exact .inl h
        · exact .inr ⟨_, h, by show (wr.heap.push _).size ≤ _; simp, (hown.lt _ h).2⟩))
      obtain ⟨xa, xn, xc, rfl⟩ := owns_slice hown
      clear hown hgrow hwh
      go_wp2_with fail
      go_roundg (n + 1 - (j + 1))
      case measure => exact HMO.out
      case rel => exact ⟨j + 1, rfl, HLT.out, rfl, by rw [HNS.out]; exact HA.out⟩
    · obtain rfl : j = n := by omega
      clear hk hj hlt hin
      go_wp2_with fail
      go_ret
      exact ⟨_, rfl, HIN.out⟩
end Go.Proofs.Ytheblleadjbndaa

namespace Go.Proofs.Ytheblleadjbndaa
open Go.RowKit Rx
theorem BIn.bset {W w : World} {v : Value} {l : List Bool} (h : BIn W v l w) (hl : 0 < l.length) : ∃ g c, v = .slice (some ⟨g, 0, none⟩) l.length c ∧ l.length ≤ c ∧ BSet w g c l ∧ W.heap.size ≤ g ∧ g < w.heap.size := by
  obtain ⟨h1, h2⟩ := h.row
  rcases h2 with ⟨_, h0⟩ | ⟨g, cap, cur, rfl, h3⟩
  · omega
  · exact ⟨g, cap, rfl, h3.2.2.1, ⟨h.row⟩, h.own g rfl⟩
theorem BSet.keep {W w' : World} {g p cap : Nat} {s : List Bool} (h : BSet W g cap s) (hk : Keep p W w') (hne : g ≠ p) : BSet w' g cap s :=
  ⟨owns_same h.row (S := fun k => k = g) (fun _ hk => by injection hk with hk; exact hk.symm) (fun k hk2 => by subst hk2; exact hk.block _ h.lt hne)⟩
theorem BSet.grown {W w' : World} {g cap : Nat} {s : List Bool} {r : Option Nat} (h : BSet W g cap s) (hg : W.grownBy w' r) (hne : some g ≠ r) : BSet w' g cap s :=
  ⟨owns_same h.row (S := fun k => k = g) (fun _ hk => by injection hk with hk; exact hk.symm) (fun k hk2 => by subst hk2; exact hg.block _ h.lt hne)⟩
theorem BSet.cap {W : World} {g cap : Nat} {s : List Bool} (h : BSet W g cap s) : s.length ≤ cap := by
  rcases h.row.2 with ⟨e, _⟩ | ⟨_, _, _, e, _, _, h3, _⟩
  · cases e
  · injection e with _ _ e; omega
theorem RM.rd {W : World} {B gm mc : Nat} {X : Nat → Prop} {M : List St} {xs : List (Array Value)} (h : RM W B X (.slice (some ⟨gm, 0, none⟩) xs.length mc) M xs) {i : Nat} {f : UInt8 → Bool} {q : Nat} (hi : M[i]? = some (.rd f q)) :
    W.cell? ⟨gm, i * 258, none⟩ = some (.bool true) ∧ (∀ c : UInt8, W.cell? ⟨gm, i * 258 + (1 + c.toNat), none⟩ = some (.bool (f c))) ∧ ∃ hb hc, W.cell? ⟨gm, i * 258 + 257, none⟩ = some (.slice (some ⟨hb, 0, none⟩) 1 hc) ∧ 1 ≤ hc ∧ W.cell? ⟨hb, 0, none⟩ = some (.int .i64 (q : Nat)) := by
  have hl : i < xs.length := by rw [h.len]; exact (List.getElem?_eq_some_iff.1 hi).1
  obtain ⟨x, hx⟩ : ∃ x, xs[i]? = some x := ⟨_, List.getElem?_eq_getElem hl⟩
  obtain ⟨sv, rfl, hir⟩ := h.st i _ x hi hx
  have q0 := h.cells hx 0 (by omega)
  have q7 := h.cells hx 257 (by omega)
  rw [Nat.add_zero, stateC_reads] at q0
  rw [stateC_next] at q7
  refine ⟨q0, fun c => ?_, ?_⟩
  · have hc : c.toNat < 256 := c.toNat_lt
    rw [h.cells hx _ (by omega), stateC_bit _ _ _ _ hc]
    simp
  · rcases irow_shape hir with ⟨_, h0⟩ | ⟨hb, hc, rfl, h3, _, _, h4⟩
    · cases h0
    · exact ⟨hb, hc, q7, h3, h4 0 q rfl⟩
theorem RM.epc {W : World} {B gm mc : Nat} {X : Nat → Prop} {M : List St} {xs : List (Array Value)} (h : RM W B X (.slice (some ⟨gm, 0, none⟩) xs.length mc) M xs) {i : Nat} {qs : List Nat} (hi : M[i]? = some (.ep qs)) :
    W.cell? ⟨gm, i * 258, none⟩ = some (.bool false) := by
  have hl : i < xs.length := by rw [h.len]; exact (List.getElem?_eq_some_iff.1 hi).1
  obtain ⟨x, hx⟩ : ∃ x, xs[i]? = some x := ⟨_, List.getElem?_eq_getElem hl⟩
  obtain ⟨sv, rfl, hir⟩ := h.st i _ x hi hx
  have q0 := h.cells hx 0 (by omega)
  rwa [Nat.add_zero, stateC_reads] at q0
/-- The machine of one state, new. -/
theorem RM.start {w0 w1 : World} {B : Nat} (hB : B ≤ w0.heap.size) (h : w1 = w0.alloc (.cells (flat [Try.zeroCells81]).toArray 81)) : RM w1 B (fun _ => False) (.slice (some ⟨w0.heap.size, 0, none⟩) 1 1) [.ep []] [Try.zeroCells81] := by
  subst h
  have hsz : (flat [Try.zeroCells81]).toArray.size = 1 * 258 := by
    rw [zero_state]
    simp [flat, stateC_size]
  have h1 := World.ownsRow_lit (base := 0) (e := 81) (size := 258) w0 (flat [Try.zeroCells81]).toArray 1 (Nat.zero_le _) (by unfold maxLen; omega) hsz
  refine ⟨by simpa using h1, rfl, fun g hg => ?_, fun _ _ h => h, fun i s x h1 h2 => ?_⟩
  · injection hg with hg
    have e : w0.heap.size = g := hg
    exact ⟨by omega, by rw [← e]; show w0.heap.size < (w0.heap.push _).size; simp⟩
  · rcases i with _ | i
    · injection h1 with h1
      injection h2 with h2
      subst h1 h2
      exact ⟨nilS, zero_state, IRow.nil _ _⟩
    · simp at h1
theorem step_no {M : List St} {c : UInt8} {s : List Bool} {k : Nat} (h : s[k]? ≠ some true) : stepS M c s (k + 1) = stepS M c s k := by
  rw [stepS_succ]; unfold stepK; rw [if_neg h]
theorem step_ep {M : List St} {c : UInt8} {s : List Bool} {k : Nat} {qs : List Nat} (h : M[k]? = some (.ep qs)) : stepS M c s (k + 1) = stepS M c s k := by
  rw [stepS_succ]; unfold stepK
  split
  · rw [h]
  · rfl
theorem step_f {M : List St} {c : UInt8} {s : List Bool} {k : Nat} {f : UInt8 → Bool} {q : Nat} (h : M[k]? = some (.rd f q)) (hf : f c = false) : stepS M c s (k + 1) = stepS M c s k := by
  rw [stepS_succ]; unfold stepK
  split
  · rw [h]; simp [hf]
  · rfl
theorem step_t {M : List St} {c : UInt8} {s : List Bool} {k : Nat} {f : UInt8 → Bool} {q : Nat} (hs : s[k]? = some true) (h : M[k]? = some (.rd f q)) (hf : f c = true) : stepS M c s (k + 1) = reachF M (M.length + 1) (stepS M c s k) q := by
  rw [stepS_succ]; unfold stepK
  rw [if_pos hs, h]; simp [hf]
/-- What ends tells of the first j bytes. -/
def outs (a : As) (l : List UInt8) (j : Nat) : List Bool := (List.range (j + 1)).map fun k => accR a (l.take k)
theorem outs_len (a : As) (l : List UInt8) (j : Nat) : (outs a l j).length = j + 1 := by simp [outs]
theorem outs_succ (a : As) (l : List UInt8) (j : Nat) : outs a l (j + 1) = outs a l j ++ [accR a (l.take (j + 1))] := by
  unfold outs
  rw [List.range_succ, List.map_append]; rfl
theorem outs_get (a : As) (l : List UInt8) (j k : Nat) (h : k ≤ j) : (outs a l j)[k]? = some (accR a (l.take k)) := by
  unfold outs
  rw [List.getElem?_map, List.getElem?_range (by omega)]; rfl
theorem BIn.base {W w0 w : World} {v : Value} {l : List Bool} (h : BIn w0 v l w) (hb : Below W.heap.size W w0) : BIn W v l w :=
  ⟨h.row, hb.trans (h.below.mono hb.size), fun g hg => ⟨Nat.le_trans hb.size (h.own g hg).1, (h.own g hg).2⟩, h.shape⟩
theorem BSet.drewN {W : World} {g cap : Nat} {s : List Bool} (h : BSet W g cap s) (n : Nat) : BSet (W.drewN n) g cap s := h.below (bN (Below.refl _ _) n)
theorem RM.drewN {W : World} {B : Nat} {X : Nat → Prop} {mv : Value} {M : List St} {xs : List (Array Value)} (h : RM W B X mv M xs) (n : Nat) : RM (W.drewN n) B X mv M xs := h.keep (bN (Below.refl _ _) n)
end Go.Proofs.Ytheblleadjbndaa

namespace Go.Proofs.Ytheblleadjbndaa
open Go.RowKit Rx
/-- What ends' loop holds. -/
structure EL (W : World) (a : As) (l : List UInt8) (gm mc : Nat) (xs : List (Array Value)) (g cap : Nat) (ov : Value) (j : Nat) (w : World) : Prop where
  set : BSet w g cap (setAt (rmach a).2 (rmach a).1 (l.take j))
  len : (setAt (rmach a).2 (rmach a).1 (l.take j)).length = xs.length
  out : BIn W ov (outs a l j) w
  rm : RM w W.heap.size (fun k => False ∨ ov.ownBlock = some k) (.slice (some ⟨gm, 0, none⟩) xs.length mc) (rmach a).2 xs
  ne : ov.ownBlock ≠ some g
theorem EL.cap_le {W : World} {a : As} {l : List UInt8} {gm mc : Nat} {xs : List (Array Value)} {g cap : Nat} {ov : Value} {j : Nat} {w : World} (h : EL W a l gm mc xs g cap ov j w) : xs.length ≤ cap := by
  rw [← h.len]; exact h.set.cap
theorem setAt_len (a : As) (l : List UInt8) : (setAt (rmach a).2 (rmach a).1 l).length = (rmach a).2.length := (setAt_tells (rmach_zero a) (rmach_ok a) (rmach_lt a) l.length l rfl).1
theorem accR_get (a : As) (l : List UInt8) : (setAt (rmach a).2 (rmach a).1 l)[0]? = some (accR a l) := by
  have h4 : 0 < (setAt (rmach a).2 (rmach a).1 l).length := by rw [setAt_len]; have := rmach_lt a; omega
  unfold accR
  rw [List.getElem?_eq_getElem h4]; rfl
theorem rs_first {w1 wr : World} {v : Value} {B gm mc : Nat} {M : List St} {xs : List (Array Value)} {X : Nat → Prop} (hm : RM w1 B X (.slice (some ⟨gm, 0, none⟩) xs.length mc) M xs) (hv : ∀ k, v.ownBlock = some k → w1.heap.size ≤ k) (hb : Below w1.heap.size w1 wr) : RM wr B (fun k => X k ∨ v.ownBlock = some k) (.slice (some ⟨gm, 0, none⟩) xs.length mc) M xs := (hm.excl v hv).keep hb
theorem EL.next {W wo wr w6 : World} {a : As} {l : List UInt8} {gm mc : Nat} {xs : List (Array Value)} {g cap g2 cap2 j : Nat} {ov v' : Value} {y : Nat → Prop} (h : EL W a l gm mc xs g cap ov j wo)
    (hb : BSet wr g2 cap2 (setAt (rmach a).2 (rmach a).1 (l.take (j + 1)))) (hln : (setAt (rmach a).2 (rmach a).1 (l.take (j + 1))).length = xs.length) (hbo : Below wo.heap.size wo wr) (hg2 : wo.heap.size ≤ g2)
    (hrm : RM wr W.heap.size (fun k => (False ∨ ov.ownBlock = some k) ∨ y k) (.slice (some ⟨gm, 0, none⟩) xs.length mc) (rmach a).2 xs)
    (hown : w6.ownsRow 0 4 1 v' ((outs a l j).length + 1) ((outs a l j).map .bool ++ [.bool (accR a (l.take (j + 1)))])) (hgrow : (wr.alloc (.cells #[.bool (accR a (l.take (j + 1)))] 4)).grownBy w6 ov.ownBlock)
    (hwh : v'.ownBlock = ov.ownBlock ∨ ∃ g, v'.ownBlock = some g ∧ (wr.alloc (.cells #[.bool (accR a (l.take (j + 1)))] 4)).heap.size ≤ g ∧ g < w6.heap.size) : EL W a l gm mc xs g2 cap2 v' (j + 1) w6 := by
  have hal : Below wr.heap.size wr (wr.alloc (.cells #[.bool (accR a (l.take (j + 1)))] 4)) := (Below.refl _ _).alloc (Nat.le_refl _) _
  have hne : ov.ownBlock ≠ some g2 := fun e => by have := (h.out.own _ e).2; omega
  have hlt := (hb.below hal).lt
  refine ⟨(hb.below hal).grown hgrow (fun e => hne e.symm), hln, ?_, ?_, ?_⟩
  · rw [outs_succ]
    exact h.out.app (hbo.trans (hal.mono hbo.size)) hown hgrow hwh
  · refine RM.other ((hrm.weak (fun k hk => .inl hk)).keep hal) hgrow ?_
    rcases hwh with h | ⟨g, h1, h2, _⟩
    · exact .inl h
    · exact .inr ⟨g, h1, h2⟩
  · rcases hwh with h | ⟨g, h1, h2, _⟩
    · rw [h]; exact hne
    · rw [h1]; intro e; injection e with e; omega
set_option maxRecDepth 100000 in
set_option maxHeartbeats 4000000 in
theorem rends_any (W : World) (x : Array Value) (a : As) (s : ByteArray) (hx : RnU (fun k => k < W.heap.size) W (.grp a) x) (hz : szU (.grp a) ≤ 900) (hs : s.size ≤ 900) :
    Calls Try.prog 32 #[.agg x, .string s] W fun e w' => ∃ v, e = .returned v ∧ BIn W v (outs a (bs s) s.size) w' := by
  obtain ⟨i0, hi, hz0, hz1, hz2⟩ := info_parts info_bool
  have HI := Lib.hid hi
  have HZ0 := Lib.hid hz0
  have HZ1 := Lib.hid hz1
  have HZ2 := Lib.hid hz2
  have hnv := RnU.nv _ _ hx
  have HNV := Lib.hid hnv
  have hrc := rcU (B := W.heap.size) (.grp a) x hz hx
  have HRC := Lib.hid hrc
  have HZL : Hid ((rmach a).2.length ≤ 902) := Lib.hid (by have := rmach_len a; have := rzU_le (.grp a); simp only [rzU, szU] at *; omega)
  have HA : Hid (At (W.alloc (.cells x 46)) W.heap.size x 46) := Lib.hid (At.new W _ _)
  have HW1 : Hid (Below W.heap.size W (W.alloc (.cells x 46)) ∧ (W.alloc (.cells x 46)).heap.size = W.heap.size + 1) := Lib.hid ⟨(Below.refl _ _).alloc (Nat.le_refl _) _, by show (W.heap.push _).size = _; simp⟩
  have HSV : Hid (SV Try.zeroCells81) := Lib.hid (by rw [zero_state]; exact ⟨stateC_size _ _ _, stateC_one _ _ _ rfl⟩)
  have HZB : Hid (1 + rzU (.grp a) ≤ 1000) := Lib.hid (by have := rzU_le (.grp a); omega)
  have hsi : (s.size : Int) ≤ 900 := by omega
  have HSL : Hid ((bs s).length = s.size) := Lib.hid (bs_length s)
  have HSS := Lib.hid hs
  clear hi hz0 hz1 hz2 hx hz hnv hrc hs
  go_enter Try.func32, Try.ntmps32
  go_upto_region 1 with fail
  generalize W.alloc (.cells x 46) = w0 at *
  go_wp2_with (first | (refine wpList_load_at rfl 46 (.tmp 2) rfl W.heap.size rfl 46 _ _ HA.out Try.underlying46 rfl HNV.out.info ?_) | (refine wpList_state rfl _ rfl Try.zeroCells81 HSV.out ?_ ?_))
  intro w1 hw1
  have hrm := RM.start (B := W.heap.size) (w0 := w0) (by rw [HW1.out.2]; omega) hw1.out
  have hbl1 : Below W.heap.size W w1 := by rw [hw1.out]; exact HW1.out.1.alloc HW1.out.1.size _
  have hrun := HRC.out.run w1 (fun _ => False) _ [.ep []] _ 0 (fun _ h => h.elim) (fun k hk => hbl1.block k hk) hbl1.size hrm (by have := HZB.out; simpa using this)
  have HRUN := Lib.hid hrun
  have HBL1 := Lib.hid hbl1
  have HOW : Hid (∀ g, (Value.slice (some ⟨w0.heap.size, 0, none⟩) 1 1).ownBlock = some g → W.heap.size ≤ g) := Lib.hid (fun g hg => (hrm.own g hg).1)
  clear hw1 hrm hbl1 hrun HA
  go_wp2_with fail
  refine (HRUN.out).mono ?_
  rintro e w2 ⟨mv, xs, rfl, hrm, hgr⟩
  obtain ⟨gm, mc, rfl⟩ : ∃ gm mc, mv = .slice (some ⟨gm, 0, none⟩) xs.length mc := by
    rcases hrm.row.2 with ⟨_, h0⟩ | ⟨gm, cap, cur, e, _⟩
    · have := hrm.len; have := rmach_lt a; change xs.length = (rmach a).2.length at *; omega
    · exact ⟨gm, cap, e⟩
  have hrm' : RM w2 W.heap.size (fun _ => False) (.slice (some ⟨gm, 0, none⟩) xs.length mc) (rmach a).2 xs := hrm
  have hxl : xs.length = (rmach a).2.length := hrm'.len
  have hbl2 : Below W.heap.size W w2 := HBL1.out.trans (hgr.toBelow HBL1.out.size (fun g hg => HOW.out g hg))
  have HBL2 := Lib.hid hbl2
  have HRM2 := Lib.hid hrm'
  have HXL := Lib.hid hxl
  have HX0 : Hid (0 < xs.length) := Lib.hid (by rw [hxl]; have := rmach_lt a; omega)
  have hxi : (0 : Int) < (xs.length : Int) := by have := HX0.out; omega
  have hxj : (xs.length : Int) ≤ 1000 := by have := HZL.out; omega
  have HEM : Hid (∀ w, Calls Try.prog 44 #[.int .i64 xs.length] w fun e w' => ∃ v, e = .returned v ∧ BIn w v (noneS xs.length) w') := Lib.hid (fun w => rempties_any xs.length w (by have := HZL.out; omega))
  have HRE : Hid (ReachOK (rmach a).2 ((rmach a).2.length + 1)) := Lib.hid (rreach_ok _ (rmach_zero a) (rmach_ok a) _)
  have hra : (raU (.grp a) [.ep []] 0).1 = (rmach a).1 := rfl
  rw [hra]
  clear hrm hgr hrm' hxl hbl2 HBL1 HRUN HOW hra HRC HSV HZB HW1 HNV
  go_wp2_with fail
  refine (HEM.out _).mono ?_
  rintro e w3 ⟨v, rfl, hbi⟩
  obtain ⟨g, cap, rfl, hgc, hbs, hg1, hg2⟩ := hbi.bset (by rw [noneS_len]; exact HX0.out)
  rw [noneS_len] at hgc
  have hrm3 := rs_first HRM2.out (v := .slice (some ⟨g, 0, none⟩) (noneS xs.length).length cap) (fun k hk => by injection hk with hk; have hk' : g = k := hk; omega) hbi.below
  have hreach := HRE.out w3 W.heap.size g cap _ _ xs (noneS xs.length) (rmach a).1 hrm3 (.inr rfl) hbs (by rw [noneS_len, HXL.out]) (rmach_lt a) (by rw [noneS_lack, HXL.out]; omega) (by rw [← HXL.out]; have := HZL.out; have := HXL.out; omega)
  rw [noneS_len] at hreach
  have HREACH := Lib.hid hreach
  have HRM3 := Lib.hid hrm3
  have HG : Hid (w2.heap.size ≤ g ∧ xs.length ≤ cap ∧ Below W.heap.size W w3) := Lib.hid ⟨hg1, hgc, HBL2.out.trans (hbi.below.mono HBL2.out.size)⟩
  clear hbi hgc hbs hg1 hg2 hrm3 hreach
  simp only [noneS_len]
  go_wp2_with fail
  refine (HREACH.out).mono ?_
  rintro e w4 ⟨rfl, hb4, hk4⟩
  have hst0 : setAt (rmach a).2 (rmach a).1 ((bs s).take 0) = reachF (rmach a).2 ((rmach a).2.length + 1) (noneS xs.length) (rmach a).1 := by rw [HXL.out]; rfl
  rw [← hst0] at hb4
  have hln : (setAt (rmach a).2 (rmach a).1 ((bs s).take 0)).length = xs.length := by rw [setAt_len, HXL.out]
  have c0 := hb4.cell (accR_get a ((bs s).take 0))
  have HEL0 : Hid (EL W a (bs s) gm mc xs g cap (.slice (some ⟨w4.heap.size, 0, none⟩) 1 1) 0 (w4.alloc (.cells #[.bool (accR a ((bs s).take 0))] 4))) := Lib.hid (by
    have hb34 : Below W.heap.size W w4 := HG.out.2.2.trans (hk4.toBelow (by have := HBL2.out.size; have := HG.out.1; omega) HG.out.2.2.size)
    have hal : Below w4.heap.size w4 (w4.alloc (.cells #[.bool (accR a ((bs s).take 0))] 4)) := (Below.refl _ _).alloc (Nat.le_refl _) _
    refine ⟨?_, hln, (BIn.lit w4 #[.bool (accR a ((bs s).take 0))] (outs a (bs s) 0) rfl (by rw [outs_len]; decide)).base hb34, ?_, fun e => ?_⟩
    · exact hb4.below hal
    · exact (((HRM3.out.keepX hk4 (.inr rfl)).weak (Y := fun _ => False) (fun _ h => h.elim)).excl _ (fun k hk => by injection hk with hk; have hk' : w4.heap.size = k := hk; omega)).keep hal
    · injection e with e
      have e' : w4.heap.size = g := e
      have := hb4.lt
      omega)
  clear hst0 hln hb4 hk4 HG HRM3 HREACH
  go_wp2_with fail
  go_loopg [7, 8, 9] (s.size + 1) (fun k sv ov iv wr => ∃ j g cap : Nat, k = s.size + 1 - j ∧ j ≤ s.size ∧ sv = .slice (some ⟨g, 0, none⟩) xs.length cap ∧ iv = .int .i64 j ∧ EL W a (bs s) gm mc xs g cap ov j wr)
  case atStart => exact ⟨0, g, cap, rfl, Nat.zero_le _, rfl, rfl, HEL0.out⟩
  case round =>
    clear c0 HEL0 HRM2 HBL2
    obtain ⟨wo, rfl⟩ : ∃ wo, wo = wr := ⟨_, rfl⟩
    obtain ⟨j, g, cap, hk, hj, rfl, rfl, hel⟩ := hrel
    have HEL := Lib.hid hel
    have hjl : (j : Int) ≤ 900 := by have := HSS.out; omega
    by_cases hlt : j < s.size
    · have hlti : (j : Int) < (s.size : Int) := by omega
      have HMO : Hid (s.size + 1 - (j + 1) < gk) := Lib.hid (by omega)
      have HLT := Lib.hid hlt
      obtain ⟨og, on, oc, rfl⟩ := hel.out.shape
      obtain ⟨c, hc⟩ : ∃ c, (bs s)[j]? = some c := ⟨_, List.getElem?_eq_getElem (by rw [HSL.out]; exact hlt)⟩
      have hsa : s[j] = c := by
        rw [List.getElem?_eq_getElem (by rw [HSL.out]; exact hlt)] at hc
        injection hc
      have HTK : Hid (setAt (rmach a).2 (rmach a).1 ((bs s).take (j + 1)) = stepS (rmach a).2 c (setAt (rmach a).2 (rmach a).1 ((bs s).take j)) (rmach a).2.length) := Lib.hid (by
        rw [← setAt_snoc]
        congr 1
        rw [List.take_add_one, hc]; rfl)
      subst hsa
      have hlto := hlt
      have hcb : ((s[j]'hlto).toNat : Int) < 256 := by have := (s[j]'hlto).toNat_lt; omega
      clear hk hj hel hc
      go_wp2_with fail
      refine (HEM.out _).mono ?_
      rintro e w5 ⟨v, rfl, hbi⟩
      obtain ⟨g2, cap2, rfl, hgc2, hbs2, hg21, hg22⟩ := hbi.bset (by rw [noneS_len]; exact HX0.out)
      rw [noneS_len] at hgc2
      have hrm5 := rs_first HEL.out.rm (v := .slice (some ⟨g2, 0, none⟩) (noneS xs.length).length cap2) (fun k hk => by injection hk with hk; have hk' : g2 = k := hk; omega) hbi.below
      have HF : Hid (∀ wq, Keep g2 w5 wq → RM wq W.heap.size (fun k => (False ∨ (Value.slice (some ⟨og, 0, none⟩) on oc).ownBlock = some k) ∨ (Value.slice (some ⟨g2, 0, none⟩) (noneS xs.length).length cap2).ownBlock = some k) (.slice (some ⟨gm, 0, none⟩) xs.length mc) (rmach a).2 xs ∧ BSet wq g cap (setAt (rmach a).2 (rmach a).1 ((bs s).take j))) := Lib.hid (fun wq hq => ⟨hrm5.keepX hq (.inr rfl), (HEL.out.set.below hbi.below).keep hq (by have := HEL.out.set.lt; omega)⟩)
      have HG2 : Hid (wo.heap.size ≤ g2 ∧ Below wo.heap.size wo w5) := Lib.hid ⟨hg21, hbi.below⟩
      have HB5 : Hid (BSet w5 g2 cap2 (stepS (rmach a).2 (s[j]'hlto) (setAt (rmach a).2 (rmach a).1 ((bs s).take j)) 0)) := Lib.hid (by have := hbs2; rw [HXL.out] at this; exact this)
      have HCP : Hid (xs.length ≤ cap ∧ xs.length ≤ cap2) := Lib.hid ⟨HEL.out.cap_le, hgc2⟩
      clear hbi hgc2 hbs2 hg21 hg22 hrm5
      simp only [noneS_len]
      go_wp2_with fail
      go_loopg [10, 11] (xs.length + 1) (fun k nv kv wq => ∃ i : Nat, k = xs.length + 1 - i ∧ i ≤ xs.length ∧ nv = .slice (some ⟨g2, 0, none⟩) xs.length cap2 ∧ kv = .int .i64 i ∧ BSet wq g2 cap2 (stepS (rmach a).2 (s[j]'hlto) (setAt (rmach a).2 (rmach a).1 ((bs s).take j)) i) ∧ Keep g2 w5 wq)
      case atStart => exact ⟨0, rfl, Nat.zero_le _, rfl, rfl, HB5.out, Keep.refl _ _⟩
      case round =>
        obtain ⟨i, hk, hi, rfl, rfl, hbq, hkq⟩ := hrel

        obtain ⟨hrq, hsq⟩ := HF.out wr hkq
        have HBQ := Lib.hid hbq
        have HKQ := Lib.hid hkq
        have hil : (i : Int) ≤ 1000 := by omega
        by_cases hlt : i < xs.length
        · have hlti : (i : Int) < (xs.length : Int) := by omega
          have HMI : Hid (xs.length + 1 - (i + 1) < gk) := Lib.hid (by omega)
          have HLI := Lib.hid hlt
          obtain ⟨b, hb⟩ : ∃ b, (setAt (rmach a).2 (rmach a).1 ((bs s).take j))[i]? = some b := ⟨_, List.getElem?_eq_getElem (by rw [HEL.out.len]; exact hlt)⟩
          have c0 := hsq.cell hb
          cases b
          · have HST : Hid (stepS (rmach a).2 (s[j]'hlto) (setAt (rmach a).2 (rmach a).1 ((bs s).take j)) (i + 1) = stepS (rmach a).2 (s[j]'hlto) (setAt (rmach a).2 (rmach a).1 ((bs s).take j)) i) := Lib.hid (step_no (by rw [hb]; simp))
            clear hk hi hlt hbq hkq hrq hsq hb
            go_wp2_with fail
            go_quiet (fail)
            go_wp2_with fail
            go_roundg (xs.length + 1 - (i + 1))
            case measure => exact HMI.out
            case rel => exact ⟨i + 1, rfl, HLI.out, rfl, rfl, by rw [HST.out]; exact HBQ.out.drewN _, HKQ.out.drewN _⟩
          · obtain ⟨st, hst⟩ : ∃ st, (rmach a).2[i]? = some st := ⟨_, List.getElem?_eq_getElem (by rw [← HXL.out]; exact hlt)⟩
            rcases st with ⟨f, q⟩ | qs
            · obtain ⟨c1, cf, hb1, hb2, c3, hb3, c4⟩ := hrq.rd hst
              have c2 := cf (s[j]'hlto)
              have c2' := c2
              rw [← Nat.add_assoc] at c2'
              rcases hfc : f (s[j]'hlto) with _ | _
              · rw [hfc] at c2 c2'
                have HST : Hid (stepS (rmach a).2 (s[j]'hlto) (setAt (rmach a).2 (rmach a).1 ((bs s).take j)) (i + 1) = stepS (rmach a).2 (s[j]'hlto) (setAt (rmach a).2 (rmach a).1 ((bs s).take j)) i) := Lib.hid (step_f hst hfc)
                clear hk hi hlt hbq hkq hrq hsq hb cf c3 c4 hb3 hst hfc
                go_wp2_with fail
                go_quiet (fail)
                go_wp2_with fail
                go_roundg (xs.length + 1 - (i + 1))
                case measure => exact HMI.out
                case rel => exact ⟨i + 1, rfl, HLI.out, rfl, rfl, by rw [HST.out]; exact HBQ.out.drewN _, HKQ.out.drewN _⟩
              · rw [hfc] at c2 c2'
                have HST : Hid (stepS (rmach a).2 (s[j]'hlto) (setAt (rmach a).2 (rmach a).1 ((bs s).take j)) (i + 1) = reachF (rmach a).2 ((rmach a).2.length + 1) (stepS (rmach a).2 (s[j]'hlto) (setAt (rmach a).2 (rmach a).1 ((bs s).take j)) i) q) := Lib.hid (step_t hb hst hfc)
                have hsl := (stepS_tells (rmach_zero a) (rmach_ok a) (s[j]'hlto) (setAt (rmach a).2 (rmach a).1 ((bs s).take j)) i).1
                have hqM : q < (rmach a).2.length := rmach_ok a i _ hst q (by simp [Nx])
                have hrun : ∀ n, _ := fun n => HRE.out (wr.drewN n) W.heap.size g2 cap2 _ _ xs _ q (hrq.drewN n) (.inr rfl) (HBQ.out.drewN n) hsl hqM (by have := lack_le (stepS (rmach a).2 (s[j]'hlto) (setAt (rmach a).2 (rmach a).1 ((bs s).take j)) i); omega) (by have := HZL.out; omega)
                rw [← HST.out, hsl, ← HXL.out] at hrun
                have HRUN := Lib.hid hrun
                clear hk hi hlt hbq hkq hrq hsq hb cf hst hfc hsl hqM hrun
                go_wp2_with fail
                go_quiet (fail)
                go_wp2_with fail
                refine (HRUN.out nq).mono ?_
                rintro e w6 ⟨rfl, hb6, hk6⟩
                have HB6 := Lib.hid hb6
                have HK6 := Lib.hid ((HKQ.out.drewN nq).trans hk6)
                clear hb6 hk6
                go_wp2_with fail
                go_roundg (xs.length + 1 - (i + 1))
                case measure => exact HMI.out
                case rel => exact ⟨i + 1, rfl, HLI.out, rfl, rfl, HB6.out, HK6.out⟩
            · have c1 := hrq.epc hst
              have HST : Hid (stepS (rmach a).2 (s[j]'hlto) (setAt (rmach a).2 (rmach a).1 ((bs s).take j)) (i + 1) = stepS (rmach a).2 (s[j]'hlto) (setAt (rmach a).2 (rmach a).1 ((bs s).take j)) i) := Lib.hid (step_ep hst)
              clear hk hi hlt hbq hkq hrq hsq hb hst
              go_wp2_with fail
              go_quiet (fail)
              go_wp2_with fail
              go_roundg (xs.length + 1 - (i + 1))
              case measure => exact HMI.out
              case rel => exact ⟨i + 1, rfl, HLI.out, rfl, rfl, by rw [HST.out]; exact HBQ.out.drewN _, HKQ.out.drewN _⟩
        · obtain rfl : i = xs.length := by omega
          have hbq' : BSet wr g2 cap2 (setAt (rmach a).2 (rmach a).1 ((bs s).take (j + 1))) := by rw [HTK.out, ← HXL.out]; exact hbq
          have c0 := hbq'.cell (accR_get a ((bs s).take (j + 1)))
          have hbo : Below wo.heap.size wo wr := HG2.out.2.trans (hkq.toBelow HG2.out.1 HG2.out.2.size)
          have HROW : Hid (wr.ownsRow 0 4 1 (.slice (some ⟨og, 0, none⟩) on oc) (outs a (bs s) j).length ((outs a (bs s) j).map .bool)) := Lib.hid (owns_same HEL.out.out.row (S := fun k => k < wo.heap.size) (fun g hg => (HEL.out.out.own g hg).2) (fun k hk => hbo.block k hk))
          have HOL : Hid ((outs a (bs s) j).length ≤ 1001) := Lib.hid (by rw [outs_len]; have := HSS.out; have := HLT.out; omega)
          have HBQ' := Lib.hid hbq'
          have HBO := Lib.hid hbo
          have HRQ := Lib.hid hrq
          clear hk hi hlt hbq hkq hrq hsq hbq' hbo HBQ
          go_wp2_with (at_builtin; (refine wpList_append_where _ rfl (.tmp 77) (.tmp 81) 49 rfl 4 i0 _ 1 1 Try.underlying49 HI.out HZ0.out HZ1.out HZ2.out rfl (by decide) (.slice (some ⟨og, 0, none⟩) on oc) (outs a (bs s) j).length ((outs a (bs s) j).map .bool) rfl (HROW.out.alloc _) ⟨wr.heap.size, 0, none⟩ 1 1 [.bool (accR a ((bs s).take (j + 1)))] rfl (by decide) rfl (new_one wr (.bool (accR a ((bs s).take (j + 1)))) 4) (one_bool _) (len_bool HOL.out).1 (len_bool HOL.out).2 ?_))
          intro v' w6 hown hgrow hwh
          have HEL2 := Lib.hid (HEL.out.next HBQ'.out (by rw [setAt_len, HXL.out]) HBO.out HG2.out.1 HRQ.out hown hgrow (by
            rcases hwh with h | h
            · exact .inl h
            · exact .inr ⟨_, h, by show (wr.heap.push _).size ≤ _; simp, (hown.lt _ h).2⟩))
          obtain ⟨xa, xn, xc, rfl⟩ := owns_slice hown
          clear hown hgrow hwh
          go_wp2_with fail
          go_roundg (s.size + 1 - (j + 1))
          case measure => exact HMO.out
          case rel => exact ⟨j + 1, g2, cap2, rfl, HLT.out, rfl, rfl, HEL2.out⟩
    · obtain rfl : j = s.size := by omega
      clear hk hj hlt hel
      go_wp2_with fail
      go_ret
      exact ⟨_, rfl, HEL.out.out⟩
end Go.Proofs.Ytheblleadjbndaa

namespace Go.Proofs.Ytheblleadjbndaa
open Go.RowKit Rx
theorem rnU_move {W w0 w1 w2 : World} {u : U} {x : Array Value} (h : RnU (Fresh w0 w1) w1 u x) (hW : W.heap.size ≤ w0.heap.size) (hs : ∀ k, w0.heap.size ≤ k → k < w1.heap.size → w2.heap[k]? = w1.heap[k]?) (hsz : w1.heap.size ≤ w2.heap.size) : RnU (Fresh W w2) w2 u x :=
  RnU.same (fun k hk => hs k hk.1 hk.2) (fun _ hk => ⟨Nat.le_trans hW hk.1, Nat.lt_of_lt_of_le hk.2 hsz⟩) u x h
/-- What expression hands back, as a factor. -/
def grpRes (x : Option (As × List UInt8)) : Option (U × List UInt8) := x.map fun y => (U.grp y.1, y.2)
def RExpOK (n : Nat) : Prop := ∀ (W : World) (s : ByteArray) (i : Nat) (l : List UInt8), s.size ≤ 1000 → RP s i l → 4 * l.length + 3 ≤ n → Calls Try.prog 41 #[.string s, .int .i64 i] W (RUPost s W (grpRes (alts n l)))
def RAtomOK (n : Nat) : Prop := ∀ (W : World) (s : ByteArray) (i : Nat) (c : UInt8) (r : List UInt8), s.size ≤ 1000 → RP s i (c :: r) → 4 * (c :: r).length + 1 ≤ n → Calls Try.prog 53 #[.string s, .int .i64 i] W (RUPost s W (atom n (c :: r)))
/-- What is behind a group's expression. -/
def closeRes (a : As) : List UInt8 → Option (U × List UInt8)
  | 41 :: r => some (.grp a, r)
  | _ => none
/-- What a call finds behind the first block that a function makes. -/
structure Room (W w0 : World) : Prop where
  at_ : At w0 W.heap.size (nodeC 0 noF false nilS) 46
  below : Below W.heap.size W w0
  size : w0.heap.size = W.heap.size + 1
theorem Room.new (W : World) : Room W (W.alloc (.cells Try.zeroCells46 46)) :=
  ⟨by rw [← zero_node]; exact At.new W _ _, (Below.refl _ _).alloc (Nat.le_refl _) _, by show (W.heap.push _).size = _; simp⟩
theorem Room.call {W w0 w1 : World} (h : Room W w0) (hb : Below w0.heap.size w0 w1) : At w1 W.heap.size (nodeC 0 noF false nilS) 46 ∧ Below W.heap.size W w1 := ⟨h.at_.below hb, h.below.trans (hb.mono h.below.size)⟩

set_option maxRecDepth 100000 in
set_option maxHeartbeats 2000000 in
theorem ratom_plain (W : World) (s : ByteArray) (i : Nat) (c : UInt8) (r : List UInt8) (hs : s.size ≤ 1000) (hrp : RP s i (c :: r)) (hc : special c = false) : Calls Try.prog 53 #[.string s, .int .i64 i] W (RUPost s W (some (.byte c, r))) := by
  have HS := Lib.hid hs
  have HRP := Lib.hid hrp
  have hlt := hrp.lt
  have hget : s[i]'hlt = c := hrp.get
  have HN := Lib.hid hrp.next
  have hil : (i : Int) ≤ 1000 := by omega
  have hsl : (s.size : Int) ≤ 1000 := by omega
  have hlti : (i : Int) < (s.size : Int) := by omega
  have HSP := Lib.hid (rspecial_any c)
  have HRM := Lib.hid (Room.new W)
  have HSI := Lib.hid (rsingle_any c)
  rw [hc] at HSP
  clear hs hrp hc
  go_enter Try.func53, Try.ntmps53
  go_upto_region 1 with fail
  generalize W.alloc (.cells Try.zeroCells46 46) = w0 at *
  go_wp2_with fail
  refine (HSP.out _).mono ?_
  rintro e w' ⟨rfl, rfl⟩
  go_wp2_with fail
  refine (HSI.out _).mono ?_
  rintro e w1 ⟨rfl, hb⟩
  have H1 := Lib.hid (HRM.out.call hb)
  clear hb
  go_wp2_with (refine wpList_store_at rfl 46 (.tmp 4) (.tmp 22) rfl W.heap.size _ rfl rfl 46 _ H1.out.1 (size_nodeC _ _ _ _) (by rw [nodeC_size, nodeC_size]) (nodeC_one _ _ _ _ rfl) ?_)
  intro w2 hw2
  have H2 : Hid (At w2 W.heap.size (nodeC 1 (fun x => x == c) true nilS) 46) := Lib.hid (by rw [hw2.out]; exact H1.out.1.row)
  have H3 : Hid (Below W.heap.size W w2) := Lib.hid (by rw [hw2.out]; exact below_row H1.out.2 _ _ (Nat.le_refl _))
  clear hw2
  go_wp2_with fail
  refine bodyPost_ret (results_node3 rfl _ _ W.heap.size 46 _ _ rfl H2.out Try.underlying46 rfl (size_nodeC _ _ _ _)) rfl ?_
  exact RUPost.yes _ (i + 1) rfl H3.out (by unfold RnU; rfl) ⟨HN.out.len, HN.out.rest⟩

set_option maxRecDepth 100000 in
set_option maxHeartbeats 2000000 in
theorem ratom_dot (W : World) (s : ByteArray) (i : Nat) (c : UInt8) (r : List UInt8) (hs : s.size ≤ 1000) (hrp : RP s i (c :: r)) (hc : c = 46) : Calls Try.prog 53 #[.string s, .int .i64 i] W (RUPost s W (some (.cls (fun _ => true), r))) := by
  subst hc
  have HS := Lib.hid hs
  have HRP := Lib.hid hrp
  have hlt := hrp.lt
  have hget : s[i]'hlt = 46 := hrp.get
  have HN := Lib.hid hrp.next
  have hil : (i : Int) ≤ 1000 := by omega
  have hsl : (s.size : Int) ≤ 1000 := by omega
  have hlti : (i : Int) < (s.size : Int) := by omega
  have HSP := Lib.hid (rspecial_any 46)
  have HRM := Lib.hid (Room.new W)
  have HBU := Lib.hid built2
  have HZ := Lib.hid zero_node
  rw [show special 46 = true from rfl] at HSP
  clear hs hrp
  go_enter Try.func53, Try.ntmps53
  go_upto_region 1 with fail
  generalize W.alloc (.cells Try.zeroCells46 46) = w0 at *
  go_wp2_with fail
  refine (HSP.out _).mono ?_
  rintro e w' ⟨rfl, rfl⟩
  have h1 := at_two W Try.zeroCells46 Try.zeroCells46 46 46
  have HZB : Hid (At (w0.alloc (.cells Try.zeroCells46 46)) (W.heap.size + 1) (nodeC 0 noF false nilS) 46) := Lib.hid (by have := At.new w0 Try.zeroCells46 46; rw [HRM.out.size, zero_node] at this; rw [zero_node]; exact this)
  have HZA : Hid (At (w0.alloc (.cells Try.zeroCells46 46)) W.heap.size (nodeC 0 noF false nilS) 46) := Lib.hid (HRM.out.at_.alloc _)
  have HZC : Hid (Below W.heap.size W (w0.alloc (.cells Try.zeroCells46 46))) := Lib.hid (HRM.out.below.alloc HRM.out.below.size _)
  have HZS : Hid (w0.heap.size = W.heap.size + 1) := Lib.hid HRM.out.size
  clear h1
  go_wp2_with (refine wpList_store_at rfl 46 (.tmp 8) (.tmp 27) rfl w0.heap.size _ rfl rfl 46 (nodeC 0 noF false nilS) (by rw [HZS.out]; exact HZB.out) (by rw [HBU.out]; exact size_nodeC _ _ _ _) (by rw [HBU.out, nodeC_size, nodeC_size]) (by rw [HBU.out]; exact nodeC_one _ _ _ _ rfl) ?_)
  intro w1 hw1
  have h1 : At w1 w0.heap.size (nodeC 1 noF false nilS) 46 := by rw [hw1.out, HBU.out, HZS.out]; exact HZB.out.row
  have h2 : At w1 W.heap.size (nodeC 0 noF false nilS) 46 := by
    rw [hw1.out]
    exact HZA.out.rowOther (by rw [HZS.out]; omega)
  have h3 : Below W.heap.size W w1 := by
    rw [hw1.out]
    exact below_row HZC.out _ _ (by rw [HZS.out]; omega)
  have H1 := Lib.hid h1
  have H2 := Lib.hid h2
  have H3 := Lib.hid h3
  have HNE : Hid (W.heap.size ≠ w0.heap.size ∧ W.heap.size ≤ w0.heap.size) := Lib.hid (by rw [HZS.out]; omega)
  clear hw1 h1 h2 h3 HZS HZA HZB HZC HRM
  generalize w0.heap.size = B at *
  go_wp2_with fail
  go_loopg [9] 257 (fun k iv wr => ∃ j : Nat, k = 257 - j ∧ j ≤ 256 ∧ iv = .int .i64 j ∧ At wr B (nodeC 1 (fillF (fun _ => true) j) false nilS) 46 ∧ At wr W.heap.size (nodeC 0 noF false nilS) 46 ∧ Below W.heap.size W wr)
  case atStart => exact ⟨0, rfl, by omega, rfl, by rw [fill_zero]; exact H1.out, H2.out, H3.out⟩
  case round =>
    obtain ⟨j, hk, hj, rfl, h1, h2, h3⟩ := hrel
    clear H1 H2 H3
    have H1 := Lib.hid h1
    have H2 := Lib.hid h2
    have H3 := Lib.hid h3
    clear h1 h2 h3
    have hjl : (j : Int) ≤ 256 := by omega
    by_cases hlt : j < 256
    · have hlti : (j : Int) < 256 := by omega
      have hmo : 257 - (j + 1) < gk := by omega
      have HMO := Lib.hid hmo
      have d0 : wr.cell? ⟨B, 1 + j, none⟩ = some (.bool (fillF (fun _ => true) j (UInt8.ofNat j))) := by rw [H1.out.cell, nodeC_bit _ _ _ _ _ hlt]
      have d1 : wr.frozen? ⟨B, 1 + j, none⟩ = false := H1.out.free _
      have HLT := Lib.hid hlt
      have hz : At (wr.setCell ⟨B, 1 + j, none⟩ (.bool true)) B (nodeC 1 (fillF (fun _ => true) (j + 1)) false nilS) 46 ∧ At (wr.setCell ⟨B, 1 + j, none⟩ (.bool true)) W.heap.size (nodeC 0 noF false nilS) 46 ∧ Below W.heap.size W (wr.setCell ⟨B, 1 + j, none⟩ (.bool true)) := by
        refine ⟨?_, H2.out.other _ HNE.out.1, H3.out.setCell HNE.out.2 _⟩
        rw [← nodeC_setBit 1 (fillF (fun _ => true) j) (fillF (fun _ => true) (j + 1)) false nilS j _ hlt (fun x => fill_set _ j x)]
        exact H1.out.set _ _
      have HZZ := Lib.hid hz
      clear hmo hk hz
      generalize fillF (fun _ => true) j (UInt8.ofNat j) = old at *
      go_wp2_with fail
      go_roundg (257 - (j + 1))
      case measure => exact HMO.out
      case rel => exact ⟨j + 1, rfl, by have := HLT.out; omega, rfl, HZZ.out⟩
    · have HJ : Hid (j = 256) := Lib.hid (by omega)
      have hlti : ¬ (j : Int) < 256 := by omega
      have H4 : Hid (At wr B (nodeC 1 (fun _ => true) false nilS) 46) := Lib.hid (by have := H1.out; rw [HJ.out, fill_all] at this; exact this)
      clear hk
      go_wp2_with (first | (refine wpList_load_at rfl 46 (.tmp 8) rfl B rfl 46 _ _ H4.out Try.underlying46 rfl (size_nodeC _ _ _ _) ?_) | (refine wpList_store_at rfl 46 (.tmp 4) (.tmp 35) rfl W.heap.size _ rfl rfl 46 _ H2.out (size_nodeC _ _ _ _) (by rw [nodeC_size, nodeC_size]) (nodeC_one _ _ _ _ rfl) ?_))
      intro w3 hw3
      have H6 : Hid (At w3 W.heap.size (nodeC 1 (fun _ => true) false nilS) 46) := Lib.hid (by rw [hw3.out]; exact H2.out.row)
      have H7 : Hid (Below W.heap.size W w3) := Lib.hid (by rw [hw3.out]; exact below_row H3.out _ _ (Nat.le_refl _))
      clear hw3
      go_wp2_with fail
      refine bodyPost_ret (results_node3 rfl _ _ W.heap.size 46 _ _ rfl H6.out Try.underlying46 rfl (size_nodeC _ _ _ _)) rfl ?_
      exact RUPost.yes _ (i + 1) rfl H7.out (by unfold RnU; rfl) ⟨HN.out.len, HN.out.rest⟩

set_option maxRecDepth 100000 in
set_option maxHeartbeats 2000000 in
theorem ratom_none (W : World) (s : ByteArray) (i : Nat) (c : UInt8) (r : List UInt8) (hs : s.size ≤ 1000) (hrp : RP s i (c :: r)) (hc : special c = true) (h1 : c ≠ 46) (h2 : c = 92 → r = []) (h3 : c ≠ 91) (h4 : c ≠ 40) : Calls Try.prog 53 #[.string s, .int .i64 i] W (RUPost s W none) := by
  have HS := Lib.hid hs
  have HRP := Lib.hid hrp
  have hlt := hrp.lt
  have hget : s[i]'hlt = c := hrp.get
  have HN := Lib.hid hrp.next
  have hil : (i : Int) ≤ 1000 := by omega
  have hsl : (s.size : Int) ≤ 1000 := by omega
  have hlti : (i : Int) < (s.size : Int) := by omega
  have HSP := Lib.hid (rspecial_any c)
  have HRM := Lib.hid (Room.new W)
  have HZ := Lib.hid zero_node
  rw [hc] at HSP
  have d1 : ((c.toNat : Int) == 46) = false := u8_ne h1
  have d3 : ((c.toNat : Int) == 91) = false := u8_ne h3
  have d4 : ((c.toNat : Int) != 40) = true := by rw [bne_iff_ne]; exact beq_eq_false_iff_ne.1 (u8_ne h4)
  by_cases h92 : c = 92
  · obtain rfl := h2 h92
    have d2 : ((c.toNat : Int) == 92) = true := by rw [h92]; rfl
    have d5 : ¬ (i : Int) + 1 < (s.size : Int) := by have := HN.out.nil; omega
    clear hs hrp hc h1 h2 h3 h4 h92
    go_enter Try.func53, Try.ntmps53
    go_upto_region 1 with fail
    generalize W.alloc (.cells Try.zeroCells46 46) = w0 at *
    go_wp2_with fail
    refine (HSP.out _).mono ?_
    rintro e w' ⟨rfl, rfl⟩
    have HFA := Lib.hid (And.intro HRM.out.at_ HRM.out.below)
    go_wp2_with (refine wpList_store_at rfl 46 (.tmp 4) (.tmp 93) rfl W.heap.size _ rfl rfl 46 _ HFA.out.1 (by rw [HZ.out]; exact size_nodeC _ _ _ _) (by rw [HZ.out]) (by rw [HZ.out]; exact nodeC_one _ _ _ _ rfl) ?_)
    intro w2 hw2
    have H2 : Hid (At w2 W.heap.size (nodeC 0 noF false nilS) 46) := Lib.hid (by rw [hw2.out]; have := HFA.out.1.row (c' := Try.zeroCells46); rwa [HZ.out] at this ⊢)
    have H3 : Hid (Below W.heap.size W w2) := Lib.hid (by rw [hw2.out]; exact below_row HFA.out.2 _ _ (Nat.le_refl _))
    clear hw2
    go_wp2_with fail
    refine bodyPost_ret (results_node3 rfl _ _ W.heap.size 46 _ _ rfl H2.out Try.underlying46 rfl (size_nodeC _ _ _ _)) rfl ?_
    exact RUPost.no _ _ rfl H3.out (NV.node _ _ _ _ rfl)
  · have d2 : ((c.toNat : Int) == 92) = false := u8_ne h92
    clear hs hrp hc h1 h2 h3 h4 h92
    go_enter Try.func53, Try.ntmps53
    go_upto_region 1 with fail
    generalize W.alloc (.cells Try.zeroCells46 46) = w0 at *
    go_wp2_with fail
    refine (HSP.out _).mono ?_
    rintro e w' ⟨rfl, rfl⟩
    have HFA := Lib.hid (And.intro HRM.out.at_ HRM.out.below)
    go_wp2_with (refine wpList_store_at rfl 46 (.tmp 4) (.tmp 93) rfl W.heap.size _ rfl rfl 46 _ HFA.out.1 (by rw [HZ.out]; exact size_nodeC _ _ _ _) (by rw [HZ.out]) (by rw [HZ.out]; exact nodeC_one _ _ _ _ rfl) ?_)
    intro w2 hw2
    have H2 : Hid (At w2 W.heap.size (nodeC 0 noF false nilS) 46) := Lib.hid (by rw [hw2.out]; have := HFA.out.1.row (c' := Try.zeroCells46); rwa [HZ.out] at this ⊢)
    have H3 : Hid (Below W.heap.size W w2) := Lib.hid (by rw [hw2.out]; exact below_row HFA.out.2 _ _ (Nat.le_refl _))
    clear hw2
    go_wp2_with fail
    refine bodyPost_ret (results_node3 rfl _ _ W.heap.size 46 _ _ rfl H2.out Try.underlying46 rfl (size_nodeC _ _ _ _)) rfl ?_
    exact RUPost.no _ _ rfl H3.out (NV.node _ _ _ _ rfl)

set_option maxRecDepth 100000 in
set_option maxHeartbeats 2000000 in
theorem ratom_esc (W : World) (s : ByteArray) (i : Nat) (c : UInt8) (r : List UInt8) (hs : s.size ≤ 1000) (hrp : RP s i (c :: r)) (d : UInt8) (r' : List UInt8) (hc : c = 92) (hr : r = d :: r') : Calls Try.prog 53 #[.string s, .int .i64 i] W (RUPost s W ((escU d).map fun u => (u, r'))) := by
  subst hc hr
  have HS := Lib.hid hs
  have HRP := Lib.hid hrp
  have hlt := hrp.lt
  have hget : s[i]'hlt = 92 := hrp.get
  have HN := Lib.hid hrp.next
  have hil : (i : Int) ≤ 1000 := by omega
  have hsl : (s.size : Int) ≤ 1000 := by omega
  have hlti : (i : Int) < (s.size : Int) := by omega
  have HSP := Lib.hid (rspecial_any 92)
  have HRM := Lib.hid (Room.new W)
  rw [show special 92 = true from rfl] at HSP
  have hlt2 := HN.out.lt
  have hget2 : s[i + 1]'hlt2 = d := HN.out.get
  have HN2 := Lib.hid HN.out.next
  have d5 : (i : Int) + 1 < (s.size : Int) := by omega
  have HES := Lib.hid (rescape_any d)
  have HZ := Lib.hid zero_node
  clear hs hrp
  go_enter Try.func53, Try.ntmps53
  go_upto_region 1 with fail
  generalize W.alloc (.cells Try.zeroCells46 46) = w0 at *
  go_wp2_with fail
  refine (HSP.out _).mono ?_
  rintro e w' ⟨rfl, rfl⟩
  go_wp2_with fail
  refine (HES.out _).mono ?_
  rintro e w1 ⟨hb, hres⟩
  have HC := Lib.hid (HRM.out.call hb)
  have HSZ : Hid (W.heap.size + 1 ≤ w1.heap.size) := Lib.hid (by have := hb.size; rw [HRM.out.size] at this; exact this)
  obtain ⟨x, ok, rfl, hnv, hfin⟩ : ∃ (x : Array Value) (ok : Bool), e = .returned (.tuple #[.agg x, .bool ok]) ∧ NV x ∧ ∀ w', Below W.heap.size W w' → RUPost s W ((escU d).map fun u => (u, r')) (.returned (.tuple #[.agg x, .int .i64 ((i + 2 : Nat) : Int), .bool ok])) w' := by
    rcases he : escU d with _ | u
    · rw [he] at hres
      obtain ⟨x, hx, rfl⟩ := hres
      exact ⟨x, false, rfl, hx, fun w' hw => RUPost.no x _ rfl hw hx⟩
    · rw [he] at hres
      obtain ⟨x, hx, hn, rfl⟩ := hres
      exact ⟨x, true, rfl, hn, fun w' hw => RUPost.yes x (i + 2) rfl hw (hx _ _) ⟨HN2.out.len, HN2.out.rest⟩⟩
  have HNV := Lib.hid hnv
  have HFIN := Lib.hid hfin
  have HW1 : Hid (At (w1.alloc (.cells Try.zeroCells46 46)) w1.heap.size (nodeC 0 noF false nilS) 46) := Lib.hid (by rw [zero_node]; exact At.new w1 _ _)
  have HW2 : Hid (At (w1.alloc (.cells Try.zeroCells46 46)) W.heap.size (nodeC 0 noF false nilS) 46 ∧ Below W.heap.size W (w1.alloc (.cells Try.zeroCells46 46))) := Lib.hid ⟨HC.out.1.alloc _, HC.out.2.alloc HC.out.2.size _⟩
  clear hb hres hnv hfin
  go_wp2_with (refine wpList_store_at rfl 46 (.tmp 10) (.tmp 53) rfl w1.heap.size x rfl rfl 46 _ HW1.out HNV.out.info (by rw [nodeC_size, HNV.out.size]) HNV.out.one ?_)
  intro w2 hw2
  have H4 : Hid (At w2 w1.heap.size x 46) := Lib.hid (by rw [hw2.out]; exact HW1.out.row)
  have H5 : Hid (At w2 W.heap.size (nodeC 0 noF false nilS) 46) := Lib.hid (by rw [hw2.out]; exact HW2.out.1.rowOther (by have := HSZ.out; omega))
  have H6 : Hid (Below W.heap.size W w2) := Lib.hid (by rw [hw2.out]; exact below_row HW2.out.2 _ _ (by have := HSZ.out; omega))
  clear hw2 HW1 HW2
  generalize w1.heap.size = B at *
  go_wp2_with (first | (refine wpList_load_at rfl 46 (.tmp 10) rfl B rfl 46 _ _ H4.out Try.underlying46 rfl HNV.out.info ?_) | (refine wpList_store_at rfl 46 (.tmp 4) (.tmp 55) rfl W.heap.size _ rfl rfl 46 _ H5.out HNV.out.info (by rw [nodeC_size, HNV.out.size]) HNV.out.one ?_))
  intro w3 hw3
  have H7 : Hid (At w3 W.heap.size x 46) := Lib.hid (by rw [hw3.out]; exact H5.out.row)
  have H8 : Hid (Below W.heap.size W w3) := Lib.hid (by rw [hw3.out]; exact below_row H6.out _ _ (Nat.le_refl _))
  clear hw3
  go_wp2_with fail
  refine bodyPost_ret (results_node3 rfl _ _ W.heap.size 46 _ _ rfl H7.out Try.underlying46 rfl HNV.out.info) rfl ?_
  exact HFIN.out _ H8.out

set_option maxRecDepth 100000 in
set_option maxHeartbeats 2000000 in
theorem ratom_inv (W : World) (s : ByteArray) (i : Nat) (c : UInt8) (r : List UInt8) (hs : s.size ≤ 1000) (hrp : RP s i (c :: r)) (r' : List UInt8) (hc : c = 91) (hr : r = 94 :: r') : Calls Try.prog 53 #[.string s, .int .i64 i] W (RUPost s W (brRes true (items (r'.length + 1) noF r'))) := by
  subst hc
  subst hr
  have HS := Lib.hid hs
  have HRP := Lib.hid hrp
  have hlt := hrp.lt
  have hget : s[i]'hlt = 91 := hrp.get
  have HN := Lib.hid hrp.next
  have hil : (i : Int) ≤ 1000 := by omega
  have hsl : (s.size : Int) ≤ 1000 := by omega
  have hlti : (i : Int) < (s.size : Int) := by omega
  have HSP := Lib.hid (rspecial_any 91)
  have HRM := Lib.hid (Room.new W)
  rw [show special 91 = true from rfl] at HSP
  have hlt2 := HN.out.lt
  have hget2 : s[i + 1]'hlt2 = 94 := HN.out.get
  have d5 : (i : Int) + 1 < (s.size : Int) := by omega
  have HBR : Hid (∀ w, Calls Try.prog 64 #[.string s, .int .i64 ((i : Int) + 2), .bool true] w (RUPost s w (brRes true (items (r'.length + 1) noF r')))) := Lib.hid (fun w => rbrackets_any s (i + 2) r' true w hs HN.out.next)
  clear hs hrp
  go_enter Try.func53, Try.ntmps53
  go_upto_region 1 with fail
  generalize W.alloc (.cells Try.zeroCells46 46) = w0 at *
  go_wp2_with fail
  refine (HSP.out _).mono ?_
  rintro e w' ⟨rfl, rfl⟩
  go_wp2_with fail
  refine (HBR.out _).mono ?_
  rintro e w1 ⟨hb, hres⟩
  have HC := Lib.hid (HRM.out.call hb)
  obtain ⟨x, j, ok, rfl, hnv, hfin⟩ : ∃ (x : Array Value) (j : Int) (ok : Bool), e = .returned (.tuple #[.agg x, .int .i64 j, .bool ok]) ∧ NV x ∧ ∀ y, RUPost s W (brRes true (items (r'.length + 1) noF r')) (.returned (.tuple #[.agg x, .int .i64 j, .bool ok])) (w1.setRow W.heap.size y) := by
    have hbw : ∀ y, Below W.heap.size W (w1.setRow W.heap.size y) := fun y => below_row HC.out.2 _ _ (Nat.le_refl _)
    rcases he : (brRes true (items (r'.length + 1) noF r')) with _ | ⟨u, l'⟩
    · rw [he] at hres
      obtain ⟨x, j, hx, rfl⟩ := hres
      exact ⟨x, j, false, rfl, hx, fun y => RUPost.no x _ rfl (hbw y) hx⟩
    · rw [he] at hres
      obtain ⟨x, j, hx, hj, rfl⟩ := hres
      exact ⟨x, j, true, rfl, hx.nv, fun y => RUPost.yes x j rfl (hbw y) (rnU_move hx (by rw [HRM.out.size]; omega) (fun k hk _ => by rw [setRow_other w1 _ _ _ (by rw [HRM.out.size] at hk; omega)]) (by rw [size_setRow]; exact Nat.le_refl _)) hj⟩
  have HNV := Lib.hid hnv
  have HFIN := Lib.hid hfin
  clear hb hres hnv hfin
  go_wp2_with (refine wpList_store_at rfl 46 (.tmp 4) (.tmp 79) rfl W.heap.size x rfl rfl 46 _ HC.out.1 HNV.out.info (by rw [nodeC_size, HNV.out.size]) HNV.out.one ?_)
  intro w2 hw2
  have H7 : Hid (At w2 W.heap.size x 46) := Lib.hid (by rw [hw2.out]; exact HC.out.1.row)
  go_wp2_with fail
  refine bodyPost_ret (results_node3 rfl _ _ W.heap.size 46 _ _ rfl H7.out Try.underlying46 rfl HNV.out.info) rfl ?_
  rw [hw2.out]
  exact HFIN.out _

set_option maxRecDepth 100000 in
set_option maxHeartbeats 2000000 in
theorem ratom_cls0 (W : World) (s : ByteArray) (i : Nat) (c : UInt8) (r : List UInt8) (hs : s.size ≤ 1000) (hrp : RP s i (c :: r)) (hc : c = 91) (hr : r = []) : Calls Try.prog 53 #[.string s, .int .i64 i] W (RUPost s W (brRes false (items (r.length + 1) noF r))) := by
  subst hc
  have HS := Lib.hid hs
  have HRP := Lib.hid hrp
  have hlt := hrp.lt
  have hget : s[i]'hlt = 91 := hrp.get
  have HN := Lib.hid hrp.next
  have hil : (i : Int) ≤ 1000 := by omega
  have hsl : (s.size : Int) ≤ 1000 := by omega
  have hlti : (i : Int) < (s.size : Int) := by omega
  have HSP := Lib.hid (rspecial_any 91)
  have HRM := Lib.hid (Room.new W)
  rw [show special 91 = true from rfl] at HSP
  have d5 : ¬ (i : Int) + 1 < (s.size : Int) := by subst hr; have := HN.out.nil; omega
  clear hr
  have HBR : Hid (∀ w, Calls Try.prog 64 #[.string s, .int .i64 ((i : Int) + 1), .bool false] w (RUPost s w (brRes false (items (r.length + 1) noF r)))) := Lib.hid (fun w => rbrackets_any s (i + 1) r false w hs HN.out)
  clear hs hrp
  go_enter Try.func53, Try.ntmps53
  go_upto_region 1 with fail
  generalize W.alloc (.cells Try.zeroCells46 46) = w0 at *
  go_wp2_with fail
  refine (HSP.out _).mono ?_
  rintro e w' ⟨rfl, rfl⟩
  go_wp2_with fail
  refine (HBR.out _).mono ?_
  rintro e w1 ⟨hb, hres⟩
  have HC := Lib.hid (HRM.out.call hb)
  obtain ⟨x, j, ok, rfl, hnv, hfin⟩ : ∃ (x : Array Value) (j : Int) (ok : Bool), e = .returned (.tuple #[.agg x, .int .i64 j, .bool ok]) ∧ NV x ∧ ∀ y, RUPost s W (brRes false (items (r.length + 1) noF r)) (.returned (.tuple #[.agg x, .int .i64 j, .bool ok])) (w1.setRow W.heap.size y) := by
    have hbw : ∀ y, Below W.heap.size W (w1.setRow W.heap.size y) := fun y => below_row HC.out.2 _ _ (Nat.le_refl _)
    rcases he : (brRes false (items (r.length + 1) noF r)) with _ | ⟨u, l'⟩
    · rw [he] at hres
      obtain ⟨x, j, hx, rfl⟩ := hres
      exact ⟨x, j, false, rfl, hx, fun y => RUPost.no x _ rfl (hbw y) hx⟩
    · rw [he] at hres
      obtain ⟨x, j, hx, hj, rfl⟩ := hres
      exact ⟨x, j, true, rfl, hx.nv, fun y => RUPost.yes x j rfl (hbw y) (rnU_move hx (by rw [HRM.out.size]; omega) (fun k hk _ => by rw [setRow_other w1 _ _ _ (by rw [HRM.out.size] at hk; omega)]) (by rw [size_setRow]; exact Nat.le_refl _)) hj⟩
  have HNV := Lib.hid hnv
  have HFIN := Lib.hid hfin
  clear hb hres hnv hfin
  go_wp2_with (refine wpList_store_at rfl 46 (.tmp 4) (.tmp 88) rfl W.heap.size x rfl rfl 46 _ HC.out.1 HNV.out.info (by rw [nodeC_size, HNV.out.size]) HNV.out.one ?_)
  intro w2 hw2
  have H7 : Hid (At w2 W.heap.size x 46) := Lib.hid (by rw [hw2.out]; exact HC.out.1.row)
  go_wp2_with fail
  refine bodyPost_ret (results_node3 rfl _ _ W.heap.size 46 _ _ rfl H7.out Try.underlying46 rfl HNV.out.info) rfl ?_
  rw [hw2.out]
  exact HFIN.out _

set_option maxRecDepth 100000 in
set_option maxHeartbeats 2000000 in
theorem ratom_cls1 (W : World) (s : ByteArray) (i : Nat) (c : UInt8) (r : List UInt8) (hs : s.size ≤ 1000) (hrp : RP s i (c :: r)) (d : UInt8) (r' : List UInt8) (hc : c = 91) (hr : r = d :: r') (hd : d ≠ 94) : Calls Try.prog 53 #[.string s, .int .i64 i] W (RUPost s W (brRes false (items (r.length + 1) noF r))) := by
  subst hc
  have HS := Lib.hid hs
  have HRP := Lib.hid hrp
  have hlt := hrp.lt
  have hget : s[i]'hlt = 91 := hrp.get
  have HN := Lib.hid hrp.next
  have hil : (i : Int) ≤ 1000 := by omega
  have hsl : (s.size : Int) ≤ 1000 := by omega
  have hlti : (i : Int) < (s.size : Int) := by omega
  have HSP := Lib.hid (rspecial_any 91)
  have HRM := Lib.hid (Room.new W)
  rw [show special 91 = true from rfl] at HSP
  have HN1 : Hid (RP s (i + 1) (d :: r')) := Lib.hid (by rw [← hr]; exact HN.out)
  have hlt2 := HN1.out.lt
  have hget2 : s[i + 1]'hlt2 = d := HN1.out.get
  have d5 : (i : Int) + 1 < (s.size : Int) := by omega
  have d6 : ((d.toNat : Int) == 94) = false := u8_ne hd
  clear hr hd
  have HBR : Hid (∀ w, Calls Try.prog 64 #[.string s, .int .i64 ((i : Int) + 1), .bool false] w (RUPost s w (brRes false (items (r.length + 1) noF r)))) := Lib.hid (fun w => rbrackets_any s (i + 1) r false w hs HN.out)
  clear hs hrp
  go_enter Try.func53, Try.ntmps53
  go_upto_region 1 with fail
  generalize W.alloc (.cells Try.zeroCells46 46) = w0 at *
  go_wp2_with fail
  refine (HSP.out _).mono ?_
  rintro e w' ⟨rfl, rfl⟩
  go_wp2_with fail
  refine (HBR.out _).mono ?_
  rintro e w1 ⟨hb, hres⟩
  have HC := Lib.hid (HRM.out.call hb)
  obtain ⟨x, j, ok, rfl, hnv, hfin⟩ : ∃ (x : Array Value) (j : Int) (ok : Bool), e = .returned (.tuple #[.agg x, .int .i64 j, .bool ok]) ∧ NV x ∧ ∀ y, RUPost s W (brRes false (items (r.length + 1) noF r)) (.returned (.tuple #[.agg x, .int .i64 j, .bool ok])) (w1.setRow W.heap.size y) := by
    have hbw : ∀ y, Below W.heap.size W (w1.setRow W.heap.size y) := fun y => below_row HC.out.2 _ _ (Nat.le_refl _)
    rcases he : (brRes false (items (r.length + 1) noF r)) with _ | ⟨u, l'⟩
    · rw [he] at hres
      obtain ⟨x, j, hx, rfl⟩ := hres
      exact ⟨x, j, false, rfl, hx, fun y => RUPost.no x _ rfl (hbw y) hx⟩
    · rw [he] at hres
      obtain ⟨x, j, hx, hj, rfl⟩ := hres
      exact ⟨x, j, true, rfl, hx.nv, fun y => RUPost.yes x j rfl (hbw y) (rnU_move hx (by rw [HRM.out.size]; omega) (fun k hk _ => by rw [setRow_other w1 _ _ _ (by rw [HRM.out.size] at hk; omega)]) (by rw [size_setRow]; exact Nat.le_refl _)) hj⟩
  have HNV := Lib.hid hnv
  have HFIN := Lib.hid hfin
  clear hb hres hnv hfin
  go_wp2_with (refine wpList_store_at rfl 46 (.tmp 4) (.tmp 88) rfl W.heap.size x rfl rfl 46 _ HC.out.1 HNV.out.info (by rw [nodeC_size, HNV.out.size]) HNV.out.one ?_)
  intro w2 hw2
  have H7 : Hid (At w2 W.heap.size x 46) := Lib.hid (by rw [hw2.out]; exact HC.out.1.row)
  go_wp2_with fail
  refine bodyPost_ret (results_node3 rfl _ _ W.heap.size 46 _ _ rfl H7.out Try.underlying46 rfl HNV.out.info) rfl ?_
  rw [hw2.out]
  exact HFIN.out _

set_option maxRecDepth 100000 in
set_option maxHeartbeats 2000000 in
theorem ratom_grp (W : World) (s : ByteArray) (i : Nat) (c : UInt8) (r : List UInt8) (hs : s.size ≤ 1000) (hrp : RP s i (c :: r)) (n : Nat) (hc : c = 40) (hA : RExpOK n) (hn : 4 * r.length + 3 ≤ n) : Calls Try.prog 53 #[.string s, .int .i64 i] W (RUPost s W ((alts n r).bind fun y => closeRes y.1 y.2)) := by
  subst hc
  obtain ⟨R, hR⟩ : ∃ R, ((alts n r).bind fun y => closeRes y.1 y.2) = R := ⟨_, rfl⟩
  rw [hR]
  have HRR := Lib.hid hR
  clear hR
  have HS := Lib.hid hs
  have HRP := Lib.hid hrp
  have hlt := hrp.lt
  have hget : s[i]'hlt = 40 := hrp.get
  have HN := Lib.hid hrp.next
  have hil : (i : Int) ≤ 1000 := by omega
  have hsl : (s.size : Int) ≤ 1000 := by omega
  have hlti : (i : Int) < (s.size : Int) := by omega
  have HSP := Lib.hid (rspecial_any 40)
  have HRM := Lib.hid (Room.new W)
  rw [show special 40 = true from rfl] at HSP
  have HEX : Hid (∀ w, Calls Try.prog 41 #[.string s, .int .i64 ((i : Int) + 1)] w (RUPost s w (grpRes (alts n r)))) := Lib.hid (fun w => hA w s (i + 1) r hs HN.out hn)
  have HZ := Lib.hid zero_node
  clear hs hrp hA hn
  go_enter Try.func53, Try.ntmps53
  go_upto_region 1 with fail
  generalize W.alloc (.cells Try.zeroCells46 46) = w0 at *
  go_wp2_with fail
  refine (HSP.out _).mono ?_
  rintro e w' ⟨rfl, rfl⟩
  go_wp2_with fail
  refine (HEX.out _).mono ?_
  rintro e w1 ⟨hb, hres⟩
  have HC := Lib.hid (HRM.out.call hb)
  have HSZ : Hid (W.heap.size + 1 ≤ w1.heap.size) := Lib.hid (by have := hb.size; rw [HRM.out.size] at this; exact this)
  have HWS : Hid (w0.heap.size = W.heap.size + 1) := Lib.hid HRM.out.size
  have HW1 : Hid (At (w1.alloc (.cells Try.zeroCells46 46)) w1.heap.size (nodeC 0 noF false nilS) 46) := Lib.hid (by rw [zero_node]; exact At.new w1 _ _)
  have HW2 : Hid (At (w1.alloc (.cells Try.zeroCells46 46)) W.heap.size (nodeC 0 noF false nilS) 46 ∧ Below W.heap.size W (w1.alloc (.cells Try.zeroCells46 46))) := Lib.hid ⟨HC.out.1.alloc _, HC.out.2.alloc HC.out.2.size _⟩
  clear hb
  rcases ha : alts n r with _ | ⟨a, r1⟩
  · rw [ha] at hres
    obtain ⟨x, j, hnv, rfl⟩ := hres
    have HNV := Lib.hid hnv
    have HNO : Hid (R = none) := Lib.hid (by rw [← HRR.out, ha]; rfl)
    clear ha hnv
    go_wp2_with (refine wpList_store_at rfl 46 (.tmp 12) (.tmp 100) rfl w1.heap.size x rfl rfl 46 _ HW1.out HNV.out.info (by rw [nodeC_size, HNV.out.size]) HNV.out.one ?_)
    intro w2 hw2
    have HFA : Hid (At w2 W.heap.size (nodeC 0 noF false nilS) 46 ∧ Below W.heap.size W w2) := Lib.hid (by
      refine ⟨?_, ?_⟩
      · rw [hw2.out]; exact HW2.out.1.rowOther (by have := HSZ.out; omega)
      · rw [hw2.out]; exact below_row HW2.out.2 _ _ (by have := HSZ.out; omega))
    clear hw2 HW1 HW2
    generalize w1.heap.size = B at *
    go_wp2_with (refine wpList_store_at rfl 46 (.tmp 4) (.tmp 117) rfl W.heap.size _ rfl rfl 46 _ HFA.out.1 (by rw [HZ.out]; exact size_nodeC _ _ _ _) (by rw [HZ.out]) (by rw [HZ.out]; exact nodeC_one _ _ _ _ rfl) ?_)
    intro w2 hw2
    have H2 : Hid (At w2 W.heap.size (nodeC 0 noF false nilS) 46) := Lib.hid (by rw [hw2.out]; have := HFA.out.1.row (c' := Try.zeroCells46); rwa [HZ.out] at this ⊢)
    have H3 : Hid (Below W.heap.size W w2) := Lib.hid (by rw [hw2.out]; exact below_row HFA.out.2 _ _ (Nat.le_refl _))
    clear hw2
    go_wp2_with fail
    refine bodyPost_ret (results_node3 rfl _ _ W.heap.size 46 _ _ rfl H2.out Try.underlying46 rfl (size_nodeC _ _ _ _)) rfl ?_
    exact RUPost.no _ _ HNO.out H3.out (NV.node _ _ _ _ rfl)
  · rw [ha] at hres
    obtain ⟨x, j, hx, ⟨hj1, hj2⟩, rfl⟩ := hres
    have hnv := hx.nv
    have HNV := Lib.hid hnv
    have HRX := Lib.hid hx
    have hjp : RP s j r1 := ⟨by omega, hj2⟩
    have hjl : (j : Int) ≤ 1000 := by omega
    have HRS : Hid (R = closeRes a r1) := Lib.hid (by rw [← HRR.out, ha]; rfl)
    clear ha hnv hx hj1 hj2 HRR
    go_wp2_with (refine wpList_store_at rfl 46 (.tmp 12) (.tmp 100) rfl w1.heap.size x rfl rfl 46 _ HW1.out HNV.out.info (by rw [nodeC_size, HNV.out.size]) HNV.out.one ?_)
    intro w2 hw2
    have HFA : Hid (At w2 W.heap.size (nodeC 0 noF false nilS) 46 ∧ Below W.heap.size W w2) := Lib.hid (by
      refine ⟨?_, ?_⟩
      · rw [hw2.out]; exact HW2.out.1.rowOther (by have := HSZ.out; omega)
      · rw [hw2.out]; exact below_row HW2.out.2 _ _ (by have := HSZ.out; omega))
    have HX2 : Hid (At w2 w1.heap.size x 46) := Lib.hid (by rw [hw2.out]; exact HW1.out.row)
    have HS2 : Hid (∀ (y : Array Value) (k : Nat), w0.heap.size ≤ k → k < w1.heap.size → (w2.setRow W.heap.size y).heap[k]? = w1.heap[k]?) := Lib.hid (fun y k hk1 hk2 => by
      rw [setRow_other w2 _ _ _ (by have := HWS.out; omega), hw2.out, setRow_other _ _ _ _ (by omega), Below.heap_alloc _ _ _ hk2])
    have HS3 : Hid (∀ y : Array Value, w1.heap.size ≤ (w2.setRow W.heap.size y).heap.size) := Lib.hid (fun y => by
      rw [size_setRow, hw2.out, size_setRow]; show w1.heap.size ≤ (w1.heap.push _).size; simp)
    clear hw2 HW1 HW2
    rcases r1 with _ | ⟨c2, r2⟩
    · have d5 : (j : Int) ≥ (s.size : Int) := by have := hjp.nil; omega
      have d5n : s.size ≤ j := by have := hjp.nil; omega
      have HNO : Hid (R = none) := Lib.hid (by rw [HRS.out]; rfl)
      clear hjp HS2 HS3 HX2
      generalize w1.heap.size = B at *
      go_wp2_with (refine wpList_store_at rfl 46 (.tmp 4) (.tmp 117) rfl W.heap.size _ rfl rfl 46 _ HFA.out.1 (by rw [HZ.out]; exact size_nodeC _ _ _ _) (by rw [HZ.out]) (by rw [HZ.out]; exact nodeC_one _ _ _ _ rfl) ?_)
      intro w2 hw2
      have H2 : Hid (At w2 W.heap.size (nodeC 0 noF false nilS) 46) := Lib.hid (by rw [hw2.out]; have := HFA.out.1.row (c' := Try.zeroCells46); rwa [HZ.out] at this ⊢)
      have H3 : Hid (Below W.heap.size W w2) := Lib.hid (by rw [hw2.out]; exact below_row HFA.out.2 _ _ (Nat.le_refl _))
      clear hw2
      go_wp2_with fail
      refine bodyPost_ret (results_node3 rfl _ _ W.heap.size 46 _ _ rfl H2.out Try.underlying46 rfl (size_nodeC _ _ _ _)) rfl ?_
      exact RUPost.no _ _ HNO.out H3.out (NV.node _ _ _ _ rfl)
    · have hjlt := hjp.lt
      have hjget : s[j]'hjlt = c2 := hjp.get
      have HJN := Lib.hid hjp.next
      have d5 : ¬ (j : Int) ≥ (s.size : Int) := by omega
      have d5n : ¬ s.size ≤ j := by omega
      clear hjp
      by_cases h41 : c2 = 41
      · subst h41
        generalize hB : w1.heap.size = B at *
        go_wp2_with (first | (refine wpList_load_at rfl 46 (.tmp 12) rfl B rfl 46 _ _ HX2.out Try.underlying46 rfl HNV.out.info ?_) | (refine wpList_store_at rfl 46 (.tmp 4) (.tmp 119) rfl W.heap.size _ rfl rfl 46 _ HFA.out.1 HNV.out.info (by rw [nodeC_size, HNV.out.size]) HNV.out.one ?_))
        intro w3 hw3
        have H7 : Hid (At w3 W.heap.size x 46) := Lib.hid (by rw [hw3.out]; exact HFA.out.1.row)
        have H8 : Hid (Below W.heap.size W w3) := Lib.hid (by rw [hw3.out]; exact below_row HFA.out.2 _ _ (Nat.le_refl _))
        go_wp2_with fail
        refine bodyPost_ret (results_node3 rfl _ _ W.heap.size 46 _ _ rfl H7.out Try.underlying46 rfl HNV.out.info) rfl ?_
        refine RUPost.yes x (j + 1) (by rw [HRS.out]; rfl) H8.out ?_ ⟨HJN.out.len, HJN.out.rest⟩
        rw [hw3.out]
        exact rnU_move HRX.out (by have := HWS.out; omega) (fun k hk1 hk2 => HS2.out x k hk1 (by rw [hB] at hk2; exact hk2)) (by rw [hB]; exact HS3.out x)
      · have d6 : ((c2.toNat : Int) != 41) = true := by rw [bne_iff_ne]; exact beq_eq_false_iff_ne.1 (u8_ne h41)
        have HNO : Hid (R = none) := Lib.hid (by
          rw [HRS.out]
          unfold closeRes
          split
          · rename_i h; injection h with h _; exact absurd h h41
          · rfl)
        clear h41 HS2 HS3 HX2
        generalize w1.heap.size = B at *
        go_wp2_with (refine wpList_store_at rfl 46 (.tmp 4) (.tmp 117) rfl W.heap.size _ rfl rfl 46 _ HFA.out.1 (by rw [HZ.out]; exact size_nodeC _ _ _ _) (by rw [HZ.out]) (by rw [HZ.out]; exact nodeC_one _ _ _ _ rfl) ?_)
        intro w2 hw2
        have H2 : Hid (At w2 W.heap.size (nodeC 0 noF false nilS) 46) := Lib.hid (by rw [hw2.out]; have := HFA.out.1.row (c' := Try.zeroCells46); rwa [HZ.out] at this ⊢)
        have H3 : Hid (Below W.heap.size W w2) := Lib.hid (by rw [hw2.out]; exact below_row HFA.out.2 _ _ (Nat.le_refl _))
        clear hw2
        go_wp2_with fail
        refine bodyPost_ret (results_node3 rfl _ _ W.heap.size 46 _ _ rfl H2.out Try.underlying46 rfl (size_nodeC _ _ _ _)) rfl ?_
        exact RUPost.no _ _ HNO.out H3.out (NV.node _ _ _ _ rfl)

theorem ratom_ok (n : Nat) (hA : RExpOK n) : RAtomOK (n + 1) := by
  intro W s i c r hs hrp hn
  simp only [List.length_cons] at hn
  by_cases e40 : c = 40
  · have h := ratom_grp W s i c r hs hrp n e40 hA (by omega)
    subst e40
    simp only [atom, if_true]
    have e : ∀ x : Option (As × List UInt8), (x.bind fun y => closeRes y.1 y.2) = x.bind fun (a, r') => match r' with | 41 :: r'' => some (U.grp a, r'') | _ => none := by
      intro x
      congr 1
    rw [e] at h
    exact h
  by_cases e91 : c = 91
  · subst e91
    simp only [atom]
    rw [if_neg (by decide), if_pos trivial]
    rcases r with _ | ⟨d, r'⟩
    · exact ratom_cls0 W s i 91 [] hs hrp rfl rfl
    · by_cases hd : d = 94
      · subst hd
        exact ratom_inv W s i 91 (94 :: r') hs hrp r' rfl rfl
      · have h := ratom_cls1 W s i 91 (d :: r') hs hrp d r' rfl rfl hd
        have e : bracket (d :: r') = brRes false (items ((d :: r').length + 1) noF (d :: r')) := by
          unfold bracket
          split
          · rename_i h2; injection h2 with h2 _; exact absurd h2 hd
          · rfl
        rw [e]
        exact h
  by_cases e46 : c = 46
  · subst e46
    simp only [atom]
    rw [if_neg (by decide), if_neg (by decide), if_pos trivial]
    exact ratom_dot W s i 46 r hs hrp rfl
  by_cases e92 : c = 92
  · subst e92
    simp only [atom]
    rw [if_neg (by decide), if_neg (by decide), if_neg (by decide), if_pos trivial]
    rcases r with _ | ⟨d, r'⟩
    · exact ratom_none W s i 92 [] hs hrp rfl (by decide) (fun _ => rfl) (by decide) (by decide)
    · exact ratom_esc W s i 92 (d :: r') hs hrp d r' rfl rfl
  simp only [atom]
  rw [if_neg e40, if_neg e91, if_neg e46, if_neg e92]
  rcases hsp : special c with _ | _
  · rw [if_neg (by decide)]
    exact ratom_plain W s i c r hs hrp hsp
  · rw [if_pos rfl]
    exact ratom_none W s i c r hs hrp hsp e46 (fun h => absurd h e92) e91 e40
end Go.Proofs.Ytheblleadjbndaa

namespace Go.Proofs.Ytheblleadjbndaa
open Go.RowKit Rx
/-- The nodes of sequences. -/
def RnL (S : Nat → Prop) (W : World) : List Ss → List (Array Value) → Prop
  | [], xs => xs = []
  | s :: ss, xs => ∃ x zs sv ys, xs = x :: zs ∧ x = nodeC 2 noF false sv ∧ RRow S W sv ys ∧ RnS S W s ys ∧ RnL S W ss zs
theorem RnL.same {S S' : Nat → Prop} {W W' : World} (hs : Same S W W') (hc : ∀ k, S k → S' k) : ∀ (ss : List Ss) (xs : List (Array Value)), RnL S W ss xs → RnL S' W' ss xs
  | [], xs, h => h
  | s :: ss, xs, h => by
    obtain ⟨x, zs, sv, ys, h1, h2, h3, h4, h5⟩ := h
    exact ⟨x, zs, sv, ys, h1, h2, h3.same hs hc, RnS.same hs hc s ys h4, RnL.same hs hc ss zs h5⟩
theorem RnL.snoc {S : Nat → Prop} {W : World} {d : Ss} {sv : Value} {ys : List (Array Value)} (hr : RRow S W sv ys) (hd : RnS S W d ys) : ∀ (ss : List Ss) (xs : List (Array Value)), RnL S W ss xs → RnL S W (ss ++ [d]) (xs ++ [nodeC 2 noF false sv])
  | [], xs, h => by
    obtain rfl : xs = [] := h
    exact ⟨_, [], sv, ys, rfl, rfl, hr, hd, rfl⟩
  | s :: ss, xs, h => by
    obtain ⟨x, zs, sv', ys', h1, h2, h3, h4, h5⟩ := h
    subst h1
    exact ⟨x, _, sv', ys', rfl, h2, h3, h4, RnL.snoc hr hd ss zs h5⟩
theorem RnL.toA {S : Nat → Prop} {W : World} {d : Ss} : ∀ (ss : List Ss) (xs : List (Array Value)), RnL S W (ss ++ [d]) xs → RnA S W (ahd ss (.one d)) xs
  | [], xs, h => by
    obtain ⟨x, zs, sv, ys, h1, h2, h3, h4, h5⟩ := h
    obtain rfl : zs = [] := h5
    unfold ahd RnA
    exact ⟨x, sv, ys, h1, h2, h3, h4⟩
  | s :: ss, xs, h => by
    obtain ⟨x, zs, sv, ys, h1, h2, h3, h4, h5⟩ := h
    unfold ahd RnA
    exact ⟨x, zs, sv, ys, h1, h2, h3, h4, RnL.toA ss zs h5⟩
theorem RnL.nv {S : Nat → Prop} {W : World} : ∀ (ss : List Ss) (xs : List (Array Value)), RnL S W ss xs → ∀ x ∈ xs, NV x
  | [], xs, h, x, hx => by obtain rfl : xs = [] := h; simp at hx
  | s :: ss, xs, h, x, hx => by
    obtain ⟨y, zs, sv, ys, rfl, rfl, h3, h4, h5⟩ := h
    rcases List.mem_cons.1 hx with rfl | hx
    · exact NV.node _ _ _ _ h3.one
    · exact RnL.nv ss zs h5 x hx
theorem RnS.snoc {S : Nat → Prop} {W : World} {u : U} {x : Array Value} (hx : RnU S W u x) : ∀ (d : Ss) (ys : List (Array Value)), RnS S W d ys → RnS S W (cat d (.cons u .nil)) (ys ++ [x]) := by
  intro d
  induction d using Ss.rec (motive_1 := fun _ => True) (motive_3 := fun _ => True) with
  | nil =>
    intro ys h
    unfold RnS at h
    subst h
    unfold cat RnS
    exact ⟨x, [], rfl, hx, by unfold RnS; rfl⟩
  | cons u' d _ ih =>
    intro ys h
    unfold RnS at h
    obtain ⟨y, zs, rfl, h1, h2⟩ := h
    unfold cat RnS
    exact ⟨y, _, rfl, h1, ih zs h2⟩
  | _ => trivial
theorem RnS.nv {S : Nat → Prop} {W : World} : ∀ (d : Ss) (ys : List (Array Value)), RnS S W d ys → ∀ x ∈ ys, NV x := by
  intro d
  induction d using Ss.rec (motive_1 := fun _ => True) (motive_3 := fun _ => True) with
  | nil => intro ys h x hx; unfold RnS at h; subst h; simp at hx
  | cons u' d _ ih =>
    intro ys h x hx
    unfold RnS at h
    obtain ⟨y, zs, rfl, h1, h2⟩ := h
    rcases List.mem_cons.1 hx with rfl | hx
    · exact h1.nv
    · exact ih zs h2 x hx
  | _ => trivial
/-- Blocks of what is done: behind the function's own three, and neither row that grows. -/
def Nest (A : Nat) (w : World) (p q : Value) (k : Nat) : Prop := A + 3 ≤ k ∧ k < w.heap.size ∧ p.ownBlock ≠ some k ∧ q.ownBlock ≠ some k
/-- What expression's loop keeps: W at the call, A the first of its blocks, ss the sequences that are done, d the one that is read. -/
structure EIn (W : World) (A : Nat) (ss : List Ss) (d : Ss) (wr : World) (p q : Value) (xs ys : List (Array Value)) : Prop where
  a : At wr A (nodeC 0 noF false nilS) 46
  b : At wr (A + 1) (nodeC 3 noF false p) 46
  c : At wr (A + 2) (nodeC 2 noF false q) 46
  below : Below A W wr
  size : A + 3 ≤ wr.heap.size
  r1 : wr.ownsRow 0 46 259 p xs.length (flat xs)
  r2 : wr.ownsRow 0 46 259 q ys.length (flat ys)
  o1 : ∀ g, p.ownBlock = some g → A + 3 ≤ g ∧ g < wr.heap.size
  o2 : ∀ g, q.ownBlock = some g → A + 3 ≤ g ∧ g < wr.heap.size
  ne : ∀ g, p.ownBlock = some g → q.ownBlock ≠ some g
  n1 : RnL (Nest A wr p q) wr ss xs
  n2 : RnS (Nest A wr p q) wr d ys
theorem nest_same {A : Nat} {w w' : World} {p q : Value} (h : ∀ k, k < w.heap.size → w'.heap[k]? = w.heap[k]?) (hs : w.heap.size ≤ w'.heap.size) : Same (Nest A w p q) w w' ∧ ∀ k, Nest A w p q k → Nest A w' p q k :=
  ⟨fun k hk => h k hk.2.1, fun _ hk => ⟨hk.1, Nat.lt_of_lt_of_le hk.2.1 hs, hk.2.2⟩⟩
theorem one_row {w : World} {e size n : Nat} {v : Value} {xs : List Value} (h : w.ownsRow 0 e size v n xs) : v.oneCell' = true := by
  rcases h.2 with ⟨rfl, _⟩ | ⟨g, cap, cur, rfl, _⟩ <;> rfl
section
variable {W : World} {A : Nat} {ss : List Ss} {d : Ss} {wr w2 : World} {p q : Value} {xs ys : List (Array Value)}
/-- All old blocks stay. -/
theorem EIn.keep (h : EIn W A ss d wr p q xs ys) (hb : Below wr.heap.size wr w2) : EIn W A ss d w2 p q xs ys := by
  have hn := nest_same (A := A) (p := p) (q := q) hb.block hb.size
  exact ⟨h.a.below hb, h.b.below hb, h.c.below hb, h.below.trans (hb.mono (by have := h.size; omega)), Nat.le_trans h.size hb.size,
    owns_same h.r1 (S := fun k => k < wr.heap.size) (fun g hg => (h.o1 g hg).2) (fun k hk => hb.block k hk), owns_same h.r2 (S := fun k => k < wr.heap.size) (fun g hg => (h.o2 g hg).2) (fun k hk => hb.block k hk),
    fun g hg => ⟨(h.o1 g hg).1, Nat.lt_of_lt_of_le (h.o1 g hg).2 hb.size⟩, fun g hg => ⟨(h.o2 g hg).1, Nat.lt_of_lt_of_le (h.o2 g hg).2 hb.size⟩, h.ne, RnL.same hn.1 hn.2 ss xs h.n1, RnS.same hn.1 hn.2 d ys h.n2⟩
theorem EIn.drewN (h : EIn W A ss d wr p q xs ys) (n : Nat) : EIn W A ss d (wr.drewN n) p q xs ys := h.keep ⟨rfl, rfl, rfl, Nat.le_refl _, fun _ _ => rfl⟩
theorem EIn.drew (h : EIn W A ss d wr p q xs ys) : EIn W A ss d wr.drew p q xs ys := h.keep ⟨rfl, rfl, rfl, Nat.le_refl _, fun _ _ => rfl⟩
/-- A store of a whole node into the block of a variable that is none of these. -/
theorem EIn.rowNew (h : EIn W A ss d wr p q xs ys) (B : Nat) (y : Array Value) (hB : wr.heap.size ≤ B) : EIn W A ss d (wr.setRow B y) p q xs ys :=
  h.keep ⟨rfl, rfl, rfl, by rw [size_setRow]; exact Nat.le_refl _, fun k hk => setRow_other wr B k y (by omega)⟩
/-- The sequence that is read grows. -/
theorem EIn.put {u : U} {x : Array Value} {wm w3 w4 : World} {q' : Value} {S : Nat → Prop} (h : EIn W A ss d wr p q xs ys) (hx : RnU S wr u x)
    (hS : ∀ k, S k → Nest A wr p q k) (hb : Below wr.heap.size wr wm)
    (hown : w3.ownsRow 0 46 259 q' (ys.length + 1) (flat ys ++ x.toList)) (hgrow : wm.grownBy w3 q.ownBlock) (hwh : q'.ownBlock = q.ownBlock ∨ ∃ g, q'.ownBlock = some g ∧ wm.heap.size ≤ g ∧ g < w3.heap.size)
    (hw4 : w4 = w3.setCell ⟨A + 2, 258, none⟩ q') : EIn W A ss (cat d (.cons u .nil)) w4 p q' xs (ys ++ [x]) := by
  have hm := h.keep hb
  have hq : ∀ k, q.ownBlock = some k → A + 3 ≤ k := fun k hk => (h.o2 k hk).1
  have hsz3 : wm.heap.size ≤ w3.heap.size := hgrow.size
  have hsz4 : w3.heap.size = w4.heap.size := by rw [hw4]; simp
  have hold : ∀ k, k < wm.heap.size → q.ownBlock ≠ some k → k ≠ A + 2 → w4.heap[k]? = wm.heap[k]? := fun k hk hne hk2 => by
    rw [hw4, Below.heap_setCell w3 ⟨A + 2, 258, none⟩ q' k hk2]
    exact hgrow.block k hk (fun e => hne e.symm)
  have hq1 : q'.oneCell' = true := one_row hown
  have hnest : ∀ k, Nest A wm p q k → Nest A w4 p q' k := fun k hk => ⟨hk.1, by have := hk.2.1; omega, hk.2.2.1, fun e => by
    rcases hwh with h1 | ⟨g, h1, h2, h3⟩
    · rw [h1] at e; exact hk.2.2.2 e
    · rw [h1] at e
      injection e with e
      have := hk.2.1
      omega⟩
  have hsame : Same (Nest A wm p q) wm w4 := fun k hk => hold k hk.2.1 hk.2.2.2 (by have := hk.1; omega)
  have hwr := nest_same (A := A) (p := p) (q := q) hb.block hb.size
  refine ⟨?_, ?_, ?_, ?_, by have := hm.size; omega, ?_, ?_, ?_, ?_, ?_, RnL.same hsame hnest ss xs hm.n1, ?_⟩
  · exact ⟨by rw [hold A (by have := hm.size; omega) (fun e => by have := hq _ e; omega) (by omega)]; exact hm.a.out⟩
  · exact ⟨by rw [hold (A + 1) (by have := hm.size; omega) (fun e => by have := hq _ e; omega) (by omega)]; exact hm.b.out⟩
  · rw [hw4, ← nodeC_setArgs 2 noF false q q']
    exact At.set ⟨by rw [hgrow.block (A + 2) (by have := hm.size; omega) (fun e => by have := hq _ e.symm; omega)]; exact hm.c.out⟩ 258 q'
  · rw [hw4]
    refine Below.setCell ?_ (by show A ≤ A + 2; omega) _
    exact (hm.below).grown hgrow (by have := hm.size; omega) (fun k hk => by have := hq k hk; omega)
  · refine owns_same hm.r1 (S := fun k => p.ownBlock = some k) (fun g hg => hg) (fun k hk => hold k (hm.o1 k hk).2 (fun e => hm.ne k hk e) (by have := (hm.o1 k hk).1; omega))
  · have h4 : w4.ownsRow 0 46 259 q' (ys.length + 1) (flat ys ++ x.toList) := by
      refine owns_same hown (S := fun k => q'.ownBlock = some k) (fun g hg => hg) (fun k hk => ?_)
      rw [hw4, Below.heap_setCell w3 ⟨A + 2, 258, none⟩ q' k (by
        show k ≠ A + 2
        rcases hwh with h1 | ⟨g, h1, h2, h3⟩
        · rw [h1] at hk; have := hq k hk; omega
        · rw [h1] at hk
          injection hk with hk
          have := hm.size; omega)]
    rw [flat_snoc, List.length_append]
    exact h4
  · exact fun g hg => ⟨(hm.o1 g hg).1, by have := (hm.o1 g hg).2; omega⟩
  · intro g hg
    rcases hwh with h1 | ⟨g', h1, h2, h3⟩
    · rw [h1] at hg
      exact ⟨hq g hg, by have := (hm.o2 g hg).2; omega⟩
    · rw [h1] at hg
      injection hg with hg
      have := hm.size
      exact ⟨by omega, by omega⟩
  · intro g hg e
    rcases hwh with h1 | ⟨g', h1, h2, h3⟩
    · rw [h1] at e; exact hm.ne g hg e
    · rw [h1] at e
      injection e with e
      have := (hm.o1 g hg).2
      omega
  · refine RnS.snoc ?_ d ys (RnS.same hsame hnest d ys hm.n2)
    exact RnU.same (fun k hk => hsame k hk) (fun k hk => hnest k hk) u x (RnU.same (fun k hk => hwr.1 k (hS k hk)) (fun k hk => hwr.2 k (hS k hk)) u x hx)
/-- The sequence that was read joins those that are done. -/
theorem EIn.push {wm w3 w4 : World} {p' : Value} (h : EIn W A ss d wr p q xs ys) (hb : Below wr.heap.size wr wm)
    (hown : w3.ownsRow 0 46 259 p' (xs.length + 1) (flat xs ++ (nodeC 2 noF false q).toList)) (hgrow : wm.grownBy w3 p.ownBlock) (hwh : p'.ownBlock = p.ownBlock ∨ ∃ g, p'.ownBlock = some g ∧ wm.heap.size ≤ g ∧ g < w3.heap.size)
    (hw4 : w4 = w3.setCell ⟨A + 1, 258, none⟩ p') : EIn W A (ss ++ [d]) .nil (w4.setRow (A + 2) (nodeC 2 noF false nilS)) p' nilS (xs ++ [nodeC 2 noF false q]) [] := by
  have hm := h.keep hb
  have hp : ∀ k, p.ownBlock = some k → A + 3 ≤ k := fun k hk => (h.o1 k hk).1
  have hsz3 : wm.heap.size ≤ w3.heap.size := hgrow.size
  have hsz4 : w3.heap.size = w4.heap.size := by rw [hw4]; simp
  have hszr : (w4.setRow (A + 2) (nodeC 2 noF false nilS)).heap.size = w4.heap.size := size_setRow _ _ _
  have hold : ∀ k, k < wm.heap.size → p.ownBlock ≠ some k → k ≠ A + 1 → k ≠ A + 2 → (w4.setRow (A + 2) (nodeC 2 noF false nilS)).heap[k]? = wm.heap[k]? := fun k hk hne hk2 hk3 => by
    rw [setRow_other w4 _ _ _ hk3, hw4, Below.heap_setCell w3 ⟨A + 1, 258, none⟩ p' k hk2]
    exact hgrow.block k hk (fun e => hne e.symm)
  have hq2 : ∀ g, q.ownBlock = some g → Nest A (w4.setRow (A + 2) (nodeC 2 noF false nilS)) p' nilS g := fun g hg => by
    have h1 := hm.o2 g hg
    refine ⟨h1.1, by omega, fun e => ?_, fun e => by cases e⟩
    rcases hwh with h2 | ⟨g', h2, h3, h4⟩
    · rw [h2] at e; exact hm.ne g e hg
    · rw [h2] at e
      injection e with e
      omega
  have hnest : ∀ k, Nest A wm p q k → Nest A (w4.setRow (A + 2) (nodeC 2 noF false nilS)) p' nilS k := fun k hk => ⟨hk.1, by have := hk.2.1; omega, fun e => by
    rcases hwh with h1 | ⟨g, h1, h2, h3⟩
    · rw [h1] at e; exact hk.2.2.1 e
    · rw [h1] at e
      injection e with e
      have := hk.2.1
      omega, fun e => by cases e⟩
  have hsame : Same (Nest A wm p q) wm (w4.setRow (A + 2) (nodeC 2 noF false nilS)) := fun k hk => hold k hk.2.1 hk.2.2.1 (by have := hk.1; omega) (by have := hk.1; omega)
  have hrow : RRow (Nest A (w4.setRow (A + 2) (nodeC 2 noF false nilS)) p' nilS) (w4.setRow (A + 2) (nodeC 2 noF false nilS)) q ys := by
    refine ⟨owns_same hm.r2 (S := fun k => q.ownBlock = some k) (fun g hg => hg) (fun k hk => hold k (hm.o2 k hk).2 (fun e => hm.ne k e hk) (by have := (hm.o2 k hk).1; omega) (by have := (hm.o2 k hk).1; omega)), RnS.nv d ys h.n2, hq2⟩
  refine ⟨?_, ?_, ?_, ?_, by have := hm.size; omega, ?_, World.ownsRow_nil _ _ _ _, ?_, fun g hg => (by cases hg), fun g _ e => (by cases e), ?_, by unfold RnS; rfl⟩
  · exact ⟨by rw [hold A (by have := hm.size; omega) (fun e => by have := hp _ e; omega) (by omega) (by omega)]; exact hm.a.out⟩
  · refine At.rowOther ?_ (by omega)
    rw [hw4, ← nodeC_setArgs 3 noF false p p']
    exact At.set ⟨by rw [hgrow.block (A + 1) (by have := hm.size; omega) (fun e => by have := hp _ e.symm; omega)]; exact hm.b.out⟩ 258 p'
  · refine At.row (c := nodeC 2 noF false q) ?_
    rw [hw4]
    exact ⟨by rw [Below.heap_setCell w3 ⟨A + 1, 258, none⟩ p' (A + 2) (by show A + 2 ≠ A + 1; omega), hgrow.block (A + 2) (by have := hm.size; omega) (fun e => by have := hp _ e.symm; omega)]; exact hm.c.out⟩
  · have h1 : Below A W w4 := by
      rw [hw4]
      exact Below.setCell ((hm.below).grown hgrow (by have := hm.size; omega) (fun k hk => by have := hp k hk; omega)) (by show A ≤ A + 1; omega) _
    exact ⟨h1.os, h1.tape, h1.output, by rw [hszr]; exact h1.size, fun k hk => by rw [setRow_other w4 _ _ _ (by omega)]; exact h1.block k hk⟩
  · have h4 : (w4.setRow (A + 2) (nodeC 2 noF false nilS)).ownsRow 0 46 259 p' (xs.length + 1) (flat xs ++ (nodeC 2 noF false q).toList) := by
      refine owns_same hown (S := fun k => p'.ownBlock = some k) (fun g hg => hg) (fun k hk => ?_)
      have hk3 : A + 3 ≤ k := by
        rcases hwh with h1 | ⟨g, h1, h2, h3⟩
        · rw [h1] at hk; exact hp k hk
        · rw [h1] at hk
          injection hk with hk
          have := hm.size; omega
      rw [setRow_other w4 _ _ _ (by omega), hw4, Below.heap_setCell w3 ⟨A + 1, 258, none⟩ p' k (by show k ≠ A + 1; omega)]
    rw [flat_snoc, List.length_append]
    exact h4
  · intro g hg
    rcases hwh with h1 | ⟨g', h1, h2, h3⟩
    · rw [h1] at hg
      exact ⟨hp g hg, by have := (hm.o1 g hg).2; omega⟩
    · rw [h1] at hg
      injection hg with hg
      have := hm.size
      exact ⟨by omega, by omega⟩
  · exact RnL.snoc hrow (RnS.same hsame hnest d ys hm.n2) ss xs (RnL.same hsame hnest ss xs hm.n1)
end
/-! ### What is left to read -/
def altRest (m : Nat) (ss : List Ss) (d : Ss) : List UInt8 → Option (As × List UInt8)
  | 124 :: r => (alts m r).map fun y => (ahd ss (.more d y.1), y.2)
  | r => some (ahd ss (.one d), r)
def expRest (m1 m2 : Nat) (ss : List Ss) (d : Ss) (l : List UInt8) : Option (As × List UInt8) := (seqs m1 l).bind fun x => altRest m2 ss (cat d x.1) x.2
theorem cat_nil_l (s : Ss) : cat .nil s = s := rfl
theorem altRest_map (m : Nat) (ss : List Ss) (s : Ss) (r : List UInt8) : altRest m ss s r = (altRest m [] s r).map fun y => (ahd ss y.1, y.2) := by
  unfold altRest
  split
  · rw [Option.map_map]; rfl
  · rfl
theorem alts_rest (m : Nat) (l : List UInt8) : alts (m + 1) l = expRest m m [] .nil l := by
  rw [alts]
  unfold expRest
  congr 1
  funext x
  obtain ⟨s, r⟩ := x
  show _ = altRest m [] s r
  by_cases h : ∃ r', r = 124 :: r'
  · obtain ⟨r', rfl⟩ := h
    rfl
  · unfold altRest
    rcases r with _ | ⟨c, r⟩
    · rfl
    · have hc : c ≠ 124 := fun e => h ⟨r, by rw [e]⟩
      simp only [ahd]
      split
      · rename_i e1; injection e1 with e1 _; exact absurd e1 hc
      · split
        · rename_i e1; injection e1 with e1 _; exact absurd e1 hc
        · rfl
theorem exp_bar (m1 k : Nat) (ss : List Ss) (d : Ss) (r : List UInt8) : expRest (m1 + 1) (k + 1) ss d (124 :: r) = expRest k k (ss ++ [d]) .nil r := by
  have h1 : seqs (m1 + 1) (124 :: r) = some (.nil, 124 :: r) := by simp [seqs]
  unfold expRest
  rw [h1]
  simp only [Option.bind_some, cat_nil]
  show (alts (k + 1) r).map _ = _
  rw [alts_rest]
  unfold expRest
  rw [Option.map_bind]
  congr 1
  funext x
  obtain ⟨s, l⟩ := x
  show (altRest k [] (cat .nil s) l).map _ = altRest k (ss ++ [d]) (cat .nil s) l
  rw [altRest_map k (ss ++ [d])]
  congr 1
  funext y
  rw [ahd_snoc]
theorem exp_end (m1 m2 : Nat) (ss : List Ss) (d : Ss) (l : List UInt8) (h : l = [] ∨ ∃ r, l = 41 :: r) : expRest (m1 + 1) m2 ss d l = some (ahd ss (.one d), l) := by
  unfold expRest
  rcases h with rfl | ⟨r, rfl⟩
  · have h1 : seqs (m1 + 1) [] = some (.nil, []) := by simp [seqs]
    rw [h1]
    simp only [Option.bind_some, cat_nil]
    rfl
  · have h1 : seqs (m1 + 1) (41 :: r) = some (.nil, 41 :: r) := by simp [seqs]
    rw [h1]
    simp only [Option.bind_some, cat_nil]
    rfl
theorem exp_none (m1 m2 : Nat) (ss : List Ss) (d : Ss) (c : UInt8) (r : List UInt8) (h1 : c ≠ 124) (h2 : c ≠ 41) (h : atom m1 (c :: r) = none) : expRest (m1 + 1) m2 ss d (c :: r) = none := by
  unfold expRest
  rw [seqs]
  simp only
  rw [if_neg (by rintro (e | e); exact h1 e; exact h2 e), h]
  rfl
theorem exp_some (m1 m2 : Nat) (ss : List Ss) (d : Ss) (c : UInt8) (r r1 : List UInt8) (u : U) (h1 : c ≠ 124) (h2 : c ≠ 41) (h : atom m1 (c :: r) = some (u, r1)) : expRest (m1 + 1) m2 ss d (c :: r) = expRest m1 m2 ss (cat d (.cons (quant u r1).1 .nil)) (quant u r1).2 := by
  unfold expRest
  rw [seqs]
  simp only
  rw [if_neg (by rintro (e | e); exact h1 e; exact h2 e), h]
  simp only [Option.bind_some]
  rw [Option.bind_map]
  congr 1
  funext x
  simp only [Function.comp]
  rw [cat_snoc]
theorem exp_quant (m1 m2 : Nat) (ss : List Ss) (d : Ss) (c : UInt8) (r : List UInt8) (h : c = 42 ∨ c = 43 ∨ c = 63) : expRest (m1 + 2) m2 ss d (c :: r) = none := by
  have hc : c ≠ 124 ∧ c ≠ 41 := by rcases h with rfl | rfl | rfl <;> decide
  refine exp_none (m1 + 1) m2 ss d c r hc.1 hc.2 ?_
  rcases h with rfl | rfl | rfl <;> rfl
end Go.Proofs.Ytheblleadjbndaa
