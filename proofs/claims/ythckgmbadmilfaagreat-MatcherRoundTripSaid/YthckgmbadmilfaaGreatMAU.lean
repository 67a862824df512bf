/- The search's walk: find. -/
import Derived.Test.YthckgmbadmilfaaGreatMAT
import Derived.Deep.DeepCutAuto
import Derived.Deep.LoopGhost
import Derived.StillTailTactics
namespace Go.Proofs.YthckgmbadmilfaaGreat
open Go.RowKit Rx

/-- What find hands back. -/
def foundV (x : Option (Nat × Nat)) : Value := .tuple #[.agg (bestV x), .bool x.isSome]

set_option maxRecDepth 100000 in
set_option maxHeartbeats 40000000 in
theorem find_any (anch : Bool) (s : ByteArray) (B : Nat) (Z : Nat → Prop) (W : World) (m st : Nat) (M : List St) (hM : Mach B Z m st M W) (hOk : Ok M) (hst : st < M.length) (hMl : M.length ≤ 9000) (hs : s.size ≤ 40000) (hZ : ∀ k, Z k → k < W.heap.size) :
    Calls Tryz.prog 125 #[ptr m, .string s, .bool anch] W fun e w' => e = .returned (foundV (findF M (M.length + 1) st anch (bs s) 0 [] (List.replicate M.length 0) none)) ∧ Below W.heap.size W w' := by
  obtain ⟨i0, hi, hz0, hz1, hz2⟩ := info_parts info_int
  have HI := Lib.hid hi
  have HZ0 := Lib.hid hz0
  have HZ1 := Lib.hid hz1
  have HZ2 := Lib.hid hz2
  clear hi hz0 hz1 hz2
  have hM1 : Mach B Z m st M (W.alloc (.cells #[.int .i64 0, .int .i64 0] 137)) := hM.frM ((Below.refl _ _).alloc (Nat.le_refl _) _)
  obtain ⟨g0, cap, fv, nv, m0, e1, e2, e3, hml, e4, hcap⟩ := hM.read (q := st) (s := M[st]) (List.getElem?_eq_getElem hst)
  clear e1 e2 e3 e4 fv nv
  have hA : ∃ sv, At W m #[sv, .int .i64 st] 166 := by obtain ⟨sv, xs, h, _⟩ := hM; exact ⟨sv, h⟩
  have HM := Lib.hid hM
  have m0a : (W.alloc (.cells #[.int .i64 0, .int .i64 0] 137)).cell? ⟨m, 0, none⟩ = some (.slice (some ⟨g0, 0, none⟩) M.length cap) := by rw [World.cell?_alloc_past _ _ _ hml]; exact m0
  clear hM hM1 m0
  unfold ptr
  go_enter Tryz.func125, Tryz.ntmps125
  go_wp2_with (at_make; refine wpList_make_full _ rfl _ _ 75 rfl 0 3 i0 (.int .i64 0) 1 Tryz.underlying75 HI.out HZ0.out HZ1.out _ _ _ _ M.length rfl rfl rfl rfl (by rw [HZ2.out]; omega) (by unfold maxLen; omega) (Nat.zero_le _) ?_)
  intro w1 hown hgrow
  have HMK := Lib.hid (Marks.made hown)
  have HB1 : Hid (Below W.heap.size W w1) := Lib.hid (((Below.refl W.heap.size W).alloc (Nat.le_refl _) (.cells #[.int .i64 0, .int .i64 0] 137)).grown hgrow (by show W.heap.size ≤ (W.heap.push _).size; simp) (fun k hk => by cases hk))
  have HRS : Hid (At w1 W.heap.size #[.int .i64 0, .int .i64 0] 137) := Lib.hid ((At.new W #[.int .i64 0, .int .i64 0] 137).grown hgrow (by simp))
  have hl1 : W.heap.size + 1 < w1.heap.size := HMK.out.lt
  have HF0 : Hid (FIn B Z m st M W (W.heap.size + 1) w1.heap.size W.heap.size (.slice none 0 0) (.slice none 0 0) [] [] (List.replicate M.length 0) none (w1.alloc (.cells #[.int .i64 0, .int .i64 0] 137))) := Lib.hid
    ⟨(HM.out.frM HB1.out).frM ((Below.refl _ _).alloc (Nat.le_refl _) _), HMK.out.alloc _, World.ownsRow_nil _ _ _ _, World.ownsRow_nil _ _ _ _, At.new _ _ _, HRS.out.alloc _, (fun g hg => by cases hg), HB1.out.alloc HB1.out.size _, by omega, by omega, Nat.le_refl _, by omega, (fun g hg => by cases hg), (fun g hg => by cases hg), fun h => by have := hZ _ h; omega⟩
  have HR0 : Hid (FRel B Z m st M W (W.heap.size + 1) w1.heap.size W.heap.size anch (bs s) (findF M (M.length + 1) st anch (bs s) 0 [] (List.replicate M.length 0) none) (.slice none 0 0) (.slice none 0 0) (.bool false) (.int .i64 0) 0 (w1.alloc (.cells #[.int .i64 0, .int .i64 0] 137))) := Lib.hid
    ⟨⟨[], [], _, none, HF0.out, rfl, rfl, Nat.zero_le _, ⟨fun t h => by simp at h, by simp, Nat.zero_le _⟩, by have := free_le (0 + 1) (List.replicate M.length 0); simp at this ⊢; exact this, rfl⟩⟩
  generalize hRQ : findF M (M.length + 1) st anch (bs s) 0 [] (List.replicate M.length 0) none = R at *
  have HRQ := Lib.hid hRQ
  clear hRQ
  clear hown hgrow m0a HRS HF0 HMK hA
  have HA : Hid (M.length ≤ 9000 ∧ st < M.length ∧ s.size ≤ 40000) := Lib.hid ⟨hMl, hst, hs⟩
  clear hMl hst hs
  go_wp2_with fail
  go_loopg [9, 10, 12, 13] (s.size + 1) (fun g v9 v10 v12 v13 wr => ∃ a : Nat, g = s.size + 1 - a ∧ FRel B Z m st M W (W.heap.size + 1) w1.heap.size W.heap.size anch (bs s) R v9 v10 v12 v13 a wr)
  case atStart => exact ⟨0, rfl, HR0.out⟩
  case round =>
    obtain ⟨a, hg, hrel⟩ := hrel
    have hmo0 : a < s.size → s.size - a < gk := by omega
    have HMO := Lib.hid hmo0
    clear hmo0
    obtain ⟨now, nxt, mk, best, hin, rfl, rfl, ha, hgd, hfr, hR⟩ := hrel.ex
    clear hrel
    obtain ⟨na, nn, nc, rfl⟩ := owns_slice hin.now
    obtain ⟨xa, xn, xc, rfl⟩ := owns_slice hin.nxt
    have HN := Lib.hid (findF_next hR)
    have HG := Lib.hid (begin_good (n := M.length + 1) hOk HA.out.2.1 anch best hgd hfr)
    have HX : Hid (Gd M a now mk ∧ now.length + free (a + 1) mk ≤ M.length ∧ g0 = g0) := Lib.hid ⟨hgd, hfr, rfl⟩
    have HI2 := Lib.hid hin
    have hal : (a : Int) < 100000 := by
      have := HA.out.2.2
      have e : (bs s).length = s.size := by simp [bs]
      omega
    clear hin hgd hfr hR HR0
    go_upto_region 7 with fail
    go_cut [36] (fun v wx => wr = wx ∧ v = .bool (decide (best = none ∧ (a = 0 ∨ anch = false))))
    case first =>
      clear HN HG HX HI2
      have h1 : ((a : Int) == 0) = decide (a = 0) := by by_cases e : a = 0 <;> simp [e]
      generalize hz : decide (a = 0) = z at h1
      have HZ := Lib.hid hz
      clear hz
      rcases best with _ | x <;> cases anch <;> cases z
      all_goals (
        simp only [Option.isSome_none, Option.isSome_some]
        go_wp2_with fail
        go_meet
        refine ⟨rfl, ?_⟩
        have h2 := HZ.out
        simp only [decide_eq_true_eq, decide_eq_false_iff_not] at h2
        first | rfl | (simp [h2]; done))
    case rest =>
      obtain ⟨rfl, rfl⟩ := hcut
      have hm1 : wr.cell? ⟨m, 1, none⟩ = some (.int .i64 st) := by obtain ⟨sv, xs, h, _⟩ := HI2.out.mach; exact h.cell 1
      generalize hP : begin_ M (M.length + 1) st anch a now mk best = P at *
      go_upto_if 36 with fail
      go_cut [9] (fun v9 wx => ∃ na nn nc, v9 = .slice na nn nc ∧ FIn B Z m st M W (W.heap.size + 1) w1.heap.size W.heap.size v9 (.slice xa xn xc) P.1 nxt P.2 best wx)
      case first =>
        by_cases hc : best = none ∧ (a = 0 ∨ anch = false)
        · rw [show decide (best = none ∧ (a = 0 ∨ anch = false)) = true from decide_eq_true hc]
          have hP2 : P = spreadF M (M.length + 1) now mk st a (a + 1) := by rw [← hP, begin_, if_pos hc]
          have hcl := spread_ok (M.length + 1) B Z wr m (W.heap.size + 1) st M (.slice na nn nc) now mk st a (a + 1) HI2.out.mach hOk HI2.out.now HI2.out.marks HI2.out.zb HX.out.1.len HA.out.2.1 HA.out.1 (by have h1 := free_le (a + 1) mk; have h2 := HX.out.1.len; omega) (by have h1 := HX.out.2.1; have := HA.out.1; omega) (by omega) (by omega)
          rw [← hP2, HX.out.1.len, show ((a + 1 : Nat) : Int) = (a : Int) + 1 from by omega] at hcl
          have HC := Lib.hid hcl
          clear hcl hP hP2 hc
          unfold ptr at *
          go_wp2_with fail
          refine (HC.out).mono ?_
          rintro e w5 ⟨sv5, rfl, g1, g2, g3, g4⟩
          have HS5 := Lib.hid (HI2.out.spread g1 g2 g3 g4)
          obtain ⟨ya, yn, yc, rfl⟩ := owns_slice g1
          clear g1 g2 g3 g4
          go_wp2_with fail
          go_meet
          exact ⟨_, _, _, rfl, HS5.out⟩
        · rw [show decide (best = none ∧ (a = 0 ∨ anch = false)) = false from decide_eq_false hc]
          have hP2 : P = (now, mk) := by rw [← hP, begin_, if_neg hc]
          have HP := Lib.hid hP2
          clear hP2 hP hc
          go_wp2_with fail
          go_meet
          exact ⟨_, _, _, rfl, by rw [HP.out]; exact HI2.out⟩
      case rest =>
        clear hm1 HI2 HX hP
        obtain ⟨na, nn, nc, rfl, hin⟩ := hcut
        obtain rfl := hin.now.len
        have HI3 := Lib.hid hin
        clear hin
        go_wp2_with fail
        go_loopg [12, 51] P.1.length (fun g v12 v51 wr2 => ∃ j : Nat, j ≤ P.1.length ∧ g = P.1.length - j ∧ v51 = .int .i64 j ∧ ∃ b2, b2 = scan a (P.1.take j) best ∧ v12 = .bool b2.isSome ∧ FIn B Z m st M W (W.heap.size + 1) w1.heap.size W.heap.size (.slice na P.1.length nc) (.slice xa xn xc) P.1 nxt P.2 b2 wr2)
        case atStart => exact ⟨0, Nat.zero_le _, rfl, rfl, best, rfl, rfl, HI3.out⟩
        case round =>
          obtain ⟨j, hj, hgj, rfl, b2, hb2, rfl, hin⟩ := hrel
          clear HI3
          have HB2 := Lib.hid hb2
          have HG2 := Lib.hid (And.intro hgj hj)
          clear hb2 hgj hj
          have hjl : (j : Int) ≤ 9000 := by have h1 := HG2.out.2; have h2 := HG.out.bound; have h3 := HA.out.1; omega
          by_cases hlt : j < P.1.length
          case pos =>
            obtain ⟨t, ht⟩ : ∃ t, P.1[j]? = some t := ⟨_, List.getElem?_eq_getElem hlt⟩
            obtain ⟨_, hnc, g, rfl, c1, c2, hgl⟩ := hin.now.read ht
            have c3 : ∀ x, b2 = some x → wr.cell? ⟨w1.heap.size, 0, none⟩ = some (.int .i64 x.1) := fun x hx => by have := hin.best.cell 0; rw [hx] at this; exact this
            have c4 : (wr.alloc (.cells #[.int .i64 t.1, .int .i64 t.2] 171)).cell? ⟨w1.heap.size, 0, none⟩ = wr.cell? ⟨w1.heap.size, 0, none⟩ := by rw [World.cell?_alloc_past _ _ _ hin.best.lt]
            have HTK : Hid (scan a (P.1.take (j + 1)) best = if t.1 = 0 ∧ (∀ x, b2 = some x → t.2 ≤ x.1) then some (t.2, a) else b2) := Lib.hid (by
              rw [List.take_succ_eq_append_getElem hlt, scan_append, ← HB2.out]
              have : P.1[j] = t := by rw [List.getElem?_eq_getElem hlt] at ht; exact Option.some.inj ht
              rw [this]; rfl)
            obtain ⟨q, f⟩ := t
            simp only at c1 c2 c4 HTK
            have HIN := Lib.hid hin
            have hlti : (j : Int) < (P.1.length : Int) := by omega
            clear hin ht
            have HFIN : ∀ b3 w3, b3 = scan a (P.1.take (j + 1)) best → FIn B Z m st M W (W.heap.size + 1) w1.heap.size W.heap.size (.slice (some ⟨g, 0, none⟩) P.1.length nc) (.slice xa xn xc) P.1 nxt P.2 b3 w3 → ∃ j' : Nat, j' ≤ P.1.length ∧ P.1.length - (j + 1) = P.1.length - j' ∧ Value.int .i64 ((j : Int) + 1) = .int .i64 j' ∧ ∃ b2, b2 = scan a (P.1.take j') best ∧ Value.bool b3.isSome = .bool b2.isSome ∧ FIn B Z m st M W (W.heap.size + 1) w1.heap.size W.heap.size (.slice (some ⟨g, 0, none⟩) P.1.length nc) (.slice xa xn xc) P.1 nxt P.2 b2 w3 := fun b3 w3 h1 h2 => ⟨j + 1, by omega, rfl, rfl, b3, h1, rfl, h2⟩
            have HFIN' := Lib.hid HFIN
            clear HFIN
            have hmz : P.1.length - (j + 1) < gk := by have := HG2.out.1; omega
            have HAL : Hid (FIn B Z m st M W (W.heap.size + 1) w1.heap.size W.heap.size (.slice (some ⟨g, 0, none⟩) P.1.length nc) (.slice xa xn xc) P.1 nxt P.2 b2 (wr.alloc (.cells #[.int .i64 q, .int .i64 f] 171))) := Lib.hid (HIN.out.more ((Below.refl _ _).alloc (Nat.le_refl _) _))
            have df0 : (wr.alloc (.cells #[.int .i64 q, .int .i64 f] 171)).frozen? ⟨w1.heap.size, 0, none⟩ = false := HAL.out.best.free 0
            have df1 : (wr.alloc (.cells #[.int .i64 q, .int .i64 f] 171)).frozen? ⟨w1.heap.size, 1, none⟩ = false := HAL.out.best.free 1
            have HCC := Lib.hid (And.intro c3 c4)
            clear c3 c4
            by_cases hq : q = 0
            · have e0 : ((q : Int) == 0) = true := by simp [hq]
              have HQ := Lib.hid hq
              clear hq
              rcases b2 with _ | x
              · have HE : Hid (some (f, a) = scan a (P.1.take (j + 1)) best) := Lib.hid (by rw [HTK.out, if_pos ⟨HQ.out, by simp⟩])
                have HFW : Hid (FIn B Z m st M W (W.heap.size + 1) w1.heap.size W.heap.size (.slice (some ⟨g, 0, none⟩) P.1.length nc) (.slice xa xn xc) P.1 nxt P.2 (some (f, a)) _) := Lib.hid (HAL.out.found (f, a) rfl)
                have d1 : (wr.alloc (.cells #[.int .i64 q, .int .i64 f] 171)).cell? ⟨w1.heap.size, 0, none⟩ = some (.int .i64 0) := HAL.out.best.cell 0
                have d2 : (wr.alloc (.cells #[.int .i64 q, .int .i64 f] 171)).cell? ⟨w1.heap.size, 1, none⟩ = some (.int .i64 0) := HAL.out.best.cell 1
                simp only [Option.isSome_none]
                go_wp2_with fail
                go_roundg (P.1.length - (j + 1))
                case measure => exact hmz
                case rel => exact HFIN'.out _ _ HE.out HFW.out
              · obtain ⟨x1, x2⟩ := x
                have d1 : (wr.alloc (.cells #[.int .i64 q, .int .i64 f] 171)).cell? ⟨w1.heap.size, 0, none⟩ = some (.int .i64 x1) := by rw [HCC.out.2]; exact HCC.out.1 _ rfl
                have d2 : (wr.alloc (.cells #[.int .i64 q, .int .i64 f] 171)).cell? ⟨w1.heap.size, 1, none⟩ = some (.int .i64 x2) := HAL.out.best.cell 1
                simp only [Option.isSome_some]
                by_cases hfx : f ≤ x1
                · have HE : Hid (some (f, a) = scan a (P.1.take (j + 1)) best) := Lib.hid (by rw [HTK.out, if_pos ⟨HQ.out, fun x hx => by cases hx; exact hfx⟩])
                  have HFW : Hid (FIn B Z m st M W (W.heap.size + 1) w1.heap.size W.heap.size (.slice (some ⟨g, 0, none⟩) P.1.length nc) (.slice xa xn xc) P.1 nxt P.2 (some (f, a)) _) := Lib.hid (HAL.out.found (f, a) rfl)
                  have hfi : (f : Int) ≤ (x1 : Int) := by omega
                  clear hfx
                  go_wp2_with fail
                  go_roundg (P.1.length - (j + 1))
                  case measure => exact hmz
                  case rel => exact HFIN'.out _ _ HE.out HFW.out
                · have HE : Hid (some (x1, x2) = scan a (P.1.take (j + 1)) best) := Lib.hid (by rw [HTK.out, if_neg (fun h => hfx (h.2 _ rfl))])
                  have hfi : ¬ (f : Int) ≤ (x1 : Int) := by omega
                  clear hfx
                  go_wp2_with fail
                  go_roundg (P.1.length - (j + 1))
                  case measure => exact hmz
                  case rel => exact HFIN'.out _ _ HE.out HAL.out
            · have e0 : ((q : Int) == 0) = false := by simp [hq]
              have HE : Hid (b2 = scan a (P.1.take (j + 1)) best) := Lib.hid (by rw [HTK.out, if_neg (fun h => hq h.1)])
              clear hq
              go_wp2_with fail
              go_roundg (P.1.length - (j + 1))
              case measure => exact hmz
              case rel => exact HFIN'.out _ _ HE.out HAL.out
          case neg =>
            obtain rfl : j = P.1.length := by have := HG2.out.2; omega
            have HB3 : Hid (b2 = scan a P.1 best) := Lib.hid (by rw [HB2.out, List.take_of_length_le (Nat.le_refl _)])
            have HI4 := Lib.hid hin
            clear hin HB2 HG2 hlt
            go_upto_region 16 with fail
            go_cut [88] (fun v wx => wr = wx ∧ v = .bool (decide (a = s.size ∨ (P.1 = [] ∧ (b2.isSome = true ∨ anch = true)))))
            case first =>
              have h1 : ((a : Int) == (s.size : Int)) = decide (a = s.size) := by
                by_cases e : a = s.size
                · simp [e]
                · have : ¬ (a : Int) = (s.size : Int) := by omega
                  simp [e, this]
              have h2 : ((P.1.length : Int) == 0) = decide (P.1 = []) := by
                by_cases e : P.1 = []
                · simp [e]
                · simp [e]
              generalize hz1 : decide (a = s.size) = z1 at h1
              generalize hz2 : decide (P.1 = []) = z2 at h2
              have HFX : Hid ((z1 || (z2 && (b2.isSome || anch))) = decide (a = s.size ∨ (P.1 = [] ∧ (b2.isSome = true ∨ anch = true)))) := Lib.hid (by subst hz1 hz2; simp)
              clear hz1 hz2 HI4 HB3 HN HG
              cases z1
              · cases z2
                · go_wp2_with fail
                  go_meet
                  exact ⟨rfl, by rw [← HFX.out]; rfl⟩
                · rcases b2 with _ | x
                  · simp only [Option.isSome_none]
                    cases anch
                    · go_wp2_with fail
                      go_meet
                      exact ⟨rfl, by rw [← HFX.out]; rfl⟩
                    · go_wp2_with fail
                      go_meet
                      exact ⟨rfl, by rw [← HFX.out]; rfl⟩
                  · simp only [Option.isSome_some]
                    go_wp2_with fail
                    go_meet
                    exact ⟨rfl, by rw [← HFX.out]; rfl⟩
              · go_wp2_with fail
                go_meet
                exact ⟨rfl, by rw [← HFX.out]; rfl⟩
            case rest =>
              obtain ⟨rfl, rfl⟩ := hcut
              have hsl : (bs s).length = s.size := by simp [bs]
              by_cases hc : a = s.size ∨ (P.1 = [] ∧ (b2.isSome = true ∨ anch = true))
              · rw [show decide (a = s.size ∨ (P.1 = [] ∧ (b2.isSome = true ∨ anch = true))) = true from decide_eq_true hc]
                have HR : Hid (R = b2) := Lib.hid (by
                  have h3 := HN.out
                  rw [← HB3.out] at h3
                  rcases Nat.lt_or_ge a s.size with h4 | h4
                  · obtain ⟨c, hcc⟩ : ∃ c, (bs s)[a]? = some c := ⟨_, List.getElem?_eq_getElem (by omega)⟩
                    rw [h3.2 c hcc, if_pos]
                    rcases hc with h5 | h5
                    · omega
                    · exact h5
                  · exact h3.1 (by omega))
                clear hc hsl
                obtain ⟨y1, y2, hy⟩ : ∃ y1 y2 : Int, bestV b2 = #[.int .i64 y1, .int .i64 y2] := by rcases b2 with _ | x <;> exact ⟨_, _, rfl⟩
                have hbe := HI4.out.best
                have hre := HI4.out.res
                rw [hy] at hbe
                have d1 : wr.cell? ⟨w1.heap.size, 0, none⟩ = some (.int .i64 y1) := hbe.cell 0
                have d2 : wr.cell? ⟨w1.heap.size, 1, none⟩ = some (.int .i64 y2) := hbe.cell 1
                have d3 : wr.cell? ⟨W.heap.size, 0, none⟩ = some (.int .i64 0) := hre.cell 0
                have d4 : wr.cell? ⟨W.heap.size, 1, none⟩ = some (.int .i64 0) := hre.cell 1
                have d5 : wr.frozen? ⟨W.heap.size, 0, none⟩ = false := hre.free 0
                have d6 : wr.frozen? ⟨W.heap.size, 1, none⟩ = false := hre.free 1
                have HFV : Hid (foundV R = .tuple #[.agg #[.int .i64 y1, .int .i64 y2], .bool b2.isSome]) := Lib.hid (by rw [HR.out, foundV, hy])
                have HRE := Lib.hid hre
                have HBL : Hid (Below W.heap.size W ((wr.setCell ⟨W.heap.size, 0, none⟩ (.int .i64 y1)).setCell ⟨W.heap.size, 1, none⟩ (.int .i64 y2))) := Lib.hid ((HI4.out.below.setCell (Nat.le_refl _) _).setCell (Nat.le_refl _) _)
                have hrf : At ((wr.setCell ⟨W.heap.size, 0, none⟩ (.int .i64 y1)).setCell ⟨W.heap.size, 1, none⟩ (.int .i64 y2)) W.heap.size #[.int .i64 y1, .int .i64 y2] 137 := (hre.set 0 (.int .i64 y1)).set 1 (.int .i64 y2)
                have HRF := Lib.hid hrf
                clear hbe hre hrf hy HR HB3
                go_wp2_with fail
                have q0 := HRF.out.cell 0
                have q1 := HRF.out.cell 1
                refine bodyPost_ret (v := .tuple #[.agg #[.int .i64 y1, .int .i64 y2], .bool b2.isSome]) (by simp [results, Tryz.results125, go_sem, q0, q1]) rfl ⟨by rw [HRQ.out, HFV.out], HBL.out⟩
              · have hP0 : Hid (¬ (P.1 = [] ∧ (b2.isSome = true ∨ anch = true))) := Lib.hid fun h => hc (.inr h)
                have hal2 : a < s.size := by
                  have : a ≠ s.size := fun h => hc (.inl h)
                  omega
                rw [show decide (a = s.size ∨ (P.1 = [] ∧ (b2.isSome = true ∨ anch = true))) = false from decide_eq_false hc]
                obtain ⟨c, hcc⟩ : ∃ c, (bs s)[a]? = some c := ⟨_, List.getElem?_eq_getElem (by omega)⟩
                have HR : Hid (R = findF M (M.length + 1) st anch ((bs s).drop (a + 1)) (a + 1) (Rx.step M (M.length + 1) b2 c (a + 2) P.1 ([], P.2)).1 (Rx.step M (M.length + 1) b2 c (a + 2) P.1 ([], P.2)).2 b2) := Lib.hid (by
                  have h3 := HN.out.2 c hcc
                  rw [← HB3.out, if_neg hP0.out] at h3
                  exact h3)
                have HCH := Lib.hid hcc
                have HI5 : Hid (FIn B Z m st M W (W.heap.size + 1) w1.heap.size W.heap.size (.slice na P.1.length nc) (.slice xa 0 xc) P.1 [] P.2 b2 wr) := Lib.hid HI4.out.emp
                clear hc hP0 hcc HI4
                have hxa : xa = none ∧ xc = 0 ∨ ∃ g, xa = some ⟨g, 0, none⟩ := by
                  rcases HI5.out.nxt.2 with ⟨e, _⟩ | ⟨g, cap, cur, e, _⟩
                  · injection e with e1 e2 e3; exact .inl ⟨e1, e3⟩
                  · injection e with e1 e2 e3; exact .inr ⟨g, e1⟩
                go_upto_region 18 with fail
                go_cut [10] (fun v wx => wr = wx ∧ v = .slice xa 0 xc)
                case first =>
                  rcases hxa with ⟨rfl, rfl⟩ | ⟨gx, rfl⟩
                  · go_wp2_with fail
                    go_meet
                    exact ⟨rfl, rfl⟩
                  · go_wp2_with fail
                    go_meet
                    exact ⟨rfl, rfl⟩
                case rest =>
                  obtain ⟨rfl, rfl⟩ := hcut
                  clear hxa
                  have HG4 := Lib.hid (step_good (n := M.length + 1) hOk b2 c HG.out)
                  have HEND : Hid (∀ v10 w, FIn B Z m st M W (W.heap.size + 1) w1.heap.size W.heap.size (.slice na P.1.length nc) v10 P.1 (Rx.step M (M.length + 1) b2 c (a + 2) P.1 ([], P.2)).1 (Rx.step M (M.length + 1) b2 c (a + 2) P.1 ([], P.2)).2 b2 w → ∃ a' : Nat, s.size - a = s.size + 1 - a' ∧ FRel B Z m st M W (W.heap.size + 1) w1.heap.size W.heap.size anch (bs s) R v10 (.slice na P.1.length nc) (.bool b2.isSome) (.int .i64 ((a : Int) + 1)) a' w) := Lib.hid (fun v10 w hw => ⟨a + 1, by omega, ⟨_, _, _, _, hw.swap, rfl, rfl, by omega, HG4.out.1, HG4.out.2, HR.out⟩⟩)
                  have hmo := HMO.out hal2
                  go_wp2_with fail
                  go_loopg [10, 95] P.1.length (fun g v10 v95 wr2 => ∃ j : Nat, j ≤ P.1.length ∧ g = P.1.length - j ∧ v95 = .int .i64 j ∧ ∃ r : List Th × List Nat, Rx.step M (M.length + 1) b2 c (a + 2) P.1 ([], P.2) = Rx.step M (M.length + 1) b2 c (a + 2) (P.1.drop j) r ∧ Fct (a + 2) [] P.2 r ∧ FIn B Z m st M W (W.heap.size + 1) w1.heap.size W.heap.size (.slice na P.1.length nc) v10 P.1 r.1 r.2 b2 wr2)
                  case atStart => exact ⟨0, Nat.zero_le _, rfl, rfl, ([], P.2), rfl, Fct.refl _ _ _, HI5.out⟩
                  case round =>
                    obtain ⟨j, hj, hgj, rfl, r, hr, hfr, hin⟩ := hrel
                    obtain ⟨ya, yn, yc, rfl⟩ := owns_slice hin.nxt
                    have HST := Lib.hid hr
                    have HFC := Lib.hid hfr
                    have HI6 := Lib.hid hin
                    have HG2 := Lib.hid (And.intro hgj hj)
                    have hjl : (j : Int) ≤ 9000 := by have h1 := HG2.out.2; have h2 := HG.out.bound; have h3 := HA.out.1; omega
                    clear hr hfr hin hgj hj HI5
                    have hml2 := HI6.out.below.size
                    by_cases hlt : j < P.1.length
                    case pos =>
                      obtain ⟨t, ht⟩ : ∃ t, P.1[j]? = some t := ⟨_, List.getElem?_eq_getElem hlt⟩
                      obtain ⟨_, hnc, g, rfl, c1, c2, hgl⟩ := HI6.out.now.read ht
                      have hlti : (j : Int) < (P.1.length : Int) := by omega
                      have HT := Lib.hid ht
                      have htm := HG.out.mem t (List.mem_of_getElem? ht)
                      have HDR : Hid (P.1.drop j = t :: P.1.drop (j + 1)) := Lib.hid (by rw [List.drop_eq_getElem_cons hlt]; congr 1; rw [List.getElem?_eq_getElem hlt] at ht; exact Option.some.inj ht)
                      obtain ⟨q, f⟩ := t
                      simp only at c1 c2 htm
                      obtain ⟨hq, hf⟩ := htm
                      clear ht
                      have HCC : Hid (∀ x, b2 = some x → (wr.alloc (.cells #[.int .i64 q, .int .i64 f] 171)).cell? ⟨w1.heap.size, 0, none⟩ = some (.int .i64 x.1)) := Lib.hid (fun x hx => by
                        rw [World.cell?_alloc_past _ _ _ HI6.out.best.lt]
                        have := HI6.out.best.cell 0; rw [hx] at this; exact this)
                      have HAL : Hid (FIn B Z m st M W (W.heap.size + 1) w1.heap.size W.heap.size (.slice (some ⟨g, 0, none⟩) P.1.length nc) (.slice ya yn yc) P.1 r.1 r.2 b2 (wr.alloc (.cells #[.int .i64 q, .int .i64 f] 171))) := Lib.hid (HI6.out.more ((Below.refl _ _).alloc (Nat.le_refl _) _))
                      have HTB : Hid (At (wr.alloc (.cells #[.int .i64 q, .int .i64 f] 171)) wr.heap.size #[.int .i64 q, .int .i64 f] 171) := Lib.hid (At.new _ _ _)
                      go_upto_region 22 with fail
                      go_cut [106] (fun v wx => (wr.alloc (.cells #[.int .i64 q, .int .i64 f] 171)) = wx ∧ v = .bool (decide (∃ x, b2 = some x ∧ x.1 < f)))
                      case first =>
                        clear HAL HEND HG4 HR HN HG HST HFC HI6 HRQ
                        rcases b2 with _ | ⟨x1, x2⟩
                        · simp only [Option.isSome_none]
                          go_wp2_with fail
                          go_meet
                          exact ⟨rfl, by simp⟩
                        · have d1 : (wr.alloc (.cells #[.int .i64 q, .int .i64 f] 171)).cell? ⟨w1.heap.size, 0, none⟩ = some (.int .i64 x1) := HCC.out _ rfl
                          have t1 := HTB.out.cell 1
                          simp only [Option.isSome_some]
                          by_cases hx : x1 < f
                          · have hxi : (f : Int) > (x1 : Int) := by omega
                            go_wp2_with fail
                            go_meet
                            exact ⟨rfl, by simp [hx]⟩
                          · have hxi : ¬ (f : Int) > (x1 : Int) := by omega
                            go_wp2_with fail
                            go_meet
                            exact ⟨rfl, by simp [hx]⟩
                      case rest =>
                        obtain ⟨hwx, rfl⟩ := hcut
                        rw [hwx] at HAL HTB
                        clear hwx HCC
                        by_cases hbk : ∃ x, b2 = some x ∧ x.1 < f
                        · rw [show decide (∃ x, b2 = some x ∧ x.1 < f) = true from decide_eq_true hbk]
                          have HSE : Hid (Rx.step M (M.length + 1) b2 c (a + 2) P.1 ([], P.2) = r) := Lib.hid (by rw [HST.out, HDR.out, Rx.step, if_pos hbk])
                          have HFIN := Lib.hid (HEND.out (.slice ya yn yc) wc (by rw [HSE.out]; exact HAL.out))
                          clear hlt HG2 hbk
                          go_wp2_with fail
                          go_roundg (s.size - a)
                          case measure => first | exact hmo | omega
                          case rel => exact HFIN.out
                        · rw [show decide (∃ x, b2 = some x ∧ x.1 < f) = false from decide_eq_false hbk]
                          obtain ⟨sst, hsst⟩ : ∃ x, M[q]? = some x := ⟨_, List.getElem?_eq_getElem hq⟩
                          have HNX : Hid (∀ (r' : List Th × List Nat) v10 w, Rx.step M (M.length + 1) b2 c (a + 2) P.1 ([], P.2) = Rx.step M (M.length + 1) b2 c (a + 2) (P.1.drop (j + 1)) r' → Fct (a + 2) [] P.2 r' → FIn B Z m st M W (W.heap.size + 1) w1.heap.size W.heap.size (.slice (some ⟨g, 0, none⟩) P.1.length nc) v10 P.1 r'.1 r'.2 b2 w → ∃ j' : Nat, j' ≤ P.1.length ∧ P.1.length - (j + 1) = P.1.length - j' ∧ Value.int .i64 ((j : Int) + 1) = .int .i64 j' ∧ ∃ r : List Th × List Nat, Rx.step M (M.length + 1) b2 c (a + 2) P.1 ([], P.2) = Rx.step M (M.length + 1) b2 c (a + 2) (P.1.drop j') r ∧ Fct (a + 2) [] P.2 r ∧ FIn B Z m st M W (W.heap.size + 1) w1.heap.size W.heap.size (.slice (some ⟨g, 0, none⟩) P.1.length nc) v10 P.1 r.1 r.2 b2 w) := Lib.hid (fun r' v10 w h1 h2 h3 => ⟨j + 1, by omega, rfl, rfl, r', h1, h2, h3⟩)
                          have hmz : P.1.length - (j + 1) < gk := by have := HG2.out.1; omega
                          obtain ⟨g1, cap1, fv, nv, m0, m1, m2, hsx, hml3, hgl3, hcap3⟩ := HAL.out.mach.read hsst
                          have t0 : wc.cell? ⟨wr.heap.size, 0, none⟩ = some (.int .i64 q) := HTB.out.cell 0
                          have t1 : wc.cell? ⟨wr.heap.size, 1, none⟩ = some (.int .i64 f) := HTB.out.cell 1
                          obtain ⟨sa, sn, sc, rfl, hfv⟩ := hsx.shape
                          have m0a : (wc.alloc (.cells #[.nilFunc, .slice none 0 0] 173)).cell? ⟨m, 0, none⟩ = some (.slice (some ⟨g1, 0, none⟩) M.length cap1) := by rw [World.cell?_alloc_past _ _ _ hml3]; exact m0
                          have m1a : (wc.alloc (.cells #[.nilFunc, .slice none 0 0] 173)).cell? ⟨g1, q * 2, none⟩ = some fv := by rw [World.cell?_alloc_past _ _ _ hgl3]; exact m1
                          have m2a : (wc.alloc (.cells #[.nilFunc, .slice none 0 0] 173)).cell? ⟨g1, q * 2 + 1, none⟩ = some (.slice sa sn sc) := by rw [World.cell?_alloc_past _ _ _ hgl3]; exact m2
                          have t0a : (wc.alloc (.cells #[.nilFunc, .slice none 0 0] 173)).cell? ⟨wr.heap.size, 0, none⟩ = some (.int .i64 q) := by rw [World.cell?_alloc_past _ _ _ HTB.out.lt]; exact t0
                          have hqi : (q : Int) < (M.length : Int) := by omega
                          have HQM := Lib.hid hq
                          have hsa : s[a] = c := by
                            have h3 := HCH.out
                            rw [List.getElem?_eq_getElem (by omega)] at h3
                            exact Option.some.inj h3
                          have HHF := Lib.hid hf
                          clear c1 c2 hgl hnc hlt hq hf HCH
                          rcases sst with ⟨gg, q'⟩ | qs
                          · have HSE : Hid (Rx.step M (M.length + 1) b2 c (a + 2) P.1 ([], P.2) = Rx.step M (M.length + 1) b2 c (a + 2) (P.1.drop (j + 1)) (if gg c then spreadF M (M.length + 1) r.1 r.2 q' f (a + 2) else r)) := Lib.hid (by rw [HST.out, HDR.out, Rx.step, if_neg hbk, hsst])
                            have HQ' : Hid (q' < M.length) := Lib.hid (hOk _ _ hsst q' (by simp [Nx]))
                            clear hbk hsst
                            obtain ⟨fk, fb, rfl⟩ : ∃ fk fb, fv = .func (.func fk) #[] #[fb] := by
                              rcases hfv with h | h
                              · subst h
                                rcases hsx.1 with ⟨_, _, e, _⟩ | ⟨_, _, e, _⟩ <;> cases e
                              · exact h
                            have HSX : Hid (IsSt Z (wc.alloc (.cells #[.func (.func fk) #[] #[fb], .slice sa sn sc] 173)) (.rd gg q') (.func (.func fk) #[] #[fb]) (.slice sa sn sc)) := Lib.hid (hsx.frM (B := 0) (Fr.below ((Below.refl _ _).alloc (Nat.le_refl _) _)))
                            clear hsx hfv
                            go_wp2_with fail
                            go_region
                            have HA3 := Lib.hid (HAL.out.more ((Below.refl _ _).alloc (Nat.le_refl _) (.cells #[.func (.func fk) #[] #[fb], .slice sa sn sc] 173)))
                            have hsb3 : At (wc.alloc (.cells #[.func (.func fk) #[] #[fb], .slice sa sn sc] 173)) wc.heap.size #[.func (.func fk) #[] #[fb], .slice sa sn sc] 173 := At.new _ _ _
                            have HT3 := Lib.hid (HTB.out.alloc (.cells #[.func (.func fk) #[] #[fb], .slice sa sn sc] 173))
                            clear m0 m1 m2 m0a m1a m2a t0 t1 t0a
                            generalize (wc.alloc (.cells #[.func (.func fk) #[] #[fb], .slice sa sn sc] 173)) = w3 at *
                            have s0 : w3.cell? ⟨wc.heap.size, 0, none⟩ = some (.func (.func fk) #[] #[fb]) := hsb3.cell 0
                            have HB3' := Lib.hid hsb3
                            have hfe := fn_ne fk fb
                            clear hsb3
                            go_upto_region 24 with fail
                            go_cut [125] (fun v wx => (∃ n, w3.drewN n = wx) ∧ v = .bool (gg c))
                            case first =>
                              obtain ⟨k, bq, he, hk, hcf⟩ := fn_calls (w := w3.drew) (HSX.out.frM (B := 0) (Fr.below ((Below.refl _ _).drew))).1 c
                              injection he with he1 he2 he3
                              injection he1 with he1
                              subst he1
                              have hfb : fb = ptr bq := by have h3 := congrArg (fun (x : Array Value) => x[0]?) he3; simpa using h3
                              subst hfb
                              have s0' : w3.drew.cell? ⟨wc.heap.size, 0, none⟩ = some (.func (.func fk) #[] #[ptr bq]) := s0
                              have HW4 : Hid (∀ n, ∃ l, w3.drewN l = w3.drew.drewN n) := Lib.hid (fun n => ⟨1 + n, by show _ = (w3.drewN 1).drewN n; rw [World.drewN_drewN]⟩)
                              clear he2 he3 s0 HB3' HT3 HA3 HSX
                              generalize w3.drew = w4 at *
                              have HCF := Lib.hid hcf
                              clear hcf
                              unfold ptr at *
                              rcases hk with rfl | rfl
                              · go_quiet (first | (go_at_call 169; refine Calls.quiet_of_same (HCF.out _)))
                                go_wp2_with fail
                                go_meet
                                exact ⟨HW4.out _, rfl⟩
                              · go_quiet (first | (go_at_call 170; refine Calls.quiet_of_same (HCF.out _)))
                                go_wp2_with fail
                                go_meet
                                exact ⟨HW4.out _, rfl⟩
                            case rest =>
                              obtain ⟨⟨n3, hn3⟩, rfl⟩ := hcut
                              have HA4 : Hid (FIn B Z m st M W (W.heap.size + 1) w1.heap.size W.heap.size (.slice (some ⟨g, 0, none⟩) P.1.length nc) (.slice ya yn yc) P.1 r.1 r.2 b2 wc) := Lib.hid (by rw [← hn3]; exact HA3.out.drewN n3)
                              have hsq := HSX.out.2.1
                              have hsh : ∃ ng, sa = some ⟨ng, 0, none⟩ ∧ sn = 1 ∧ sn ≤ sc := by
                                rcases hsq.2 with ⟨e, h0⟩ | ⟨ng, cap, cur, e, _, _, h3, _⟩
                                · exact absurd h0 (by simp)
                                · injection e with e1 e2 e3; exact ⟨ng, e1, e2, by omega⟩
                              obtain ⟨ng, rfl, rfl, hsc⟩ := hsh
                              have hce : ∀ x, wc.cell? x = w3.cell? x := fun x => by rw [← hn3]; exact World.cell?_drewN _ _ _
                              have p0 : wc.cell? ⟨ng, 0, none⟩ = some (.int .i64 q') := by rw [hce]; exact owns_cell hsq rfl (j := 0) rfl
                              have s1 := HB3'.out.cell 1
                              rw [← hce] at s1
                              have s1 : wc.cell? ⟨_, 1, none⟩ = some (.slice (some ⟨ng, 0, none⟩) 1 sc) := s1
                              have t1 := HT3.out.cell 1
                              rw [← hce] at t1
                              have t1 : wc.cell? ⟨wr.heap.size, 1, none⟩ = some (.int .i64 f) := t1
                              clear hsq hce hn3 HA3 HB3' HT3 s0 hfe
                              cases hgg : gg c
                              · have HSE2 : Hid (Rx.step M (M.length + 1) b2 c (a + 2) P.1 ([], P.2) = Rx.step M (M.length + 1) b2 c (a + 2) (P.1.drop (j + 1)) r) := Lib.hid (by rw [HSE.out, if_neg (by simp [hgg])])
                                clear hgg
                                go_wp2_with fail
                                go_roundg (P.1.length - (j + 1))
                                case measure => exact hmz
                                case rel => exact HNX.out _ _ _ HSE2.out HFC.out HA4.out
                              · have HSE2 : Hid (Rx.step M (M.length + 1) b2 c (a + 2) P.1 ([], P.2) = Rx.step M (M.length + 1) b2 c (a + 2) (P.1.drop (j + 1)) (spreadF M (M.length + 1) r.1 r.2 q' f (a + 2))) := Lib.hid (by rw [HSE.out, if_pos hgg])
                                clear hgg
                                have hrl : r.2.length = M.length := HFC.out.1.trans HG.out.len
                                have hff := spread_facts M hOk (a + 2) f (M.length + 1) r.1 r.2 q' hrl HQ'.out
                                have HFC2 := Lib.hid (HFC.out.trans hff)
                                have hb1 := free_le (a + 2) r.2
                                have hb2 := HFC.out.2.2
                                have hb3 := free_le (a + 2) P.2
                                have hb4 := HG.out.len
                                have hb5 := HA.out.1
                                have hb6 := HHF.out
                                have hb7 := HA.out.2.2
                                simp only [List.length_nil] at hb2
                                have HC : Hid (∀ n, Calls Tryz.prog 146 #[ptr m, .slice ya yn yc, .slice (some ⟨W.heap.size + 1, 0, none⟩) M.length M.length, .agg #[.int .i64 q', .int .i64 f], .int .i64 ((a : Int) + 2)] (wc.drewN n) (SpreadPost (W.heap.size + 1) (.slice ya yn yc) (wc.drewN n) (spreadF M (M.length + 1) r.1 r.2 q' f (a + 2)))) := Lib.hid (fun n => by
                                  have h1 := (HA4.out.drewN n).swap
                                  have h2 := spread_ok (M.length + 1) B Z (wc.drewN n) m (W.heap.size + 1) st M (.slice ya yn yc) r.1 r.2 q' f (a + 2) h1.mach hOk h1.now h1.marks h1.zb hrl HQ'.out HA.out.1 (by omega) (by omega) (by omega) (by omega)
                                  rw [hrl, show ((a + 2 : Nat) : Int) = (a : Int) + 2 from by omega] at h2
                                  exact h2)
                                generalize spreadF M (M.length + 1) r.1 r.2 q' f (a + 2) = r5 at *
                                clear hff hb1 hb2 hb3 hb4 hb5 hb6 hb7 hrl
                                unfold ptr at *
                                go_upto_region 25 with fail
                                go_still_tail 12, (by kernel_rfl)
                                change wpList _ _ _ _ _ (wc.drewN 1)
                                have HC1 := Lib.hid (HC.out 1)
                                have HA5 := Lib.hid (HA4.out.drewN 1)
                                clear HC p0 s1 t1 HA4
                                generalize wc.drewN 1 = w5 at *
                                go_wp2_with fail
                                refine (HC1.out).mono ?_
                                rintro e w6 ⟨sv5, rfl, x1, x2, x3, x4⟩
                                have HS5 := Lib.hid (HA5.out.swap.spread x1 x2 x3 x4).swap
                                obtain ⟨za, zn, zc, rfl⟩ := owns_slice x1
                                clear x1 x2 x3 x4
                                go_wp2_with fail
                                go_roundg (P.1.length - (j + 1))
                                case measure => exact hmz
                                case rel => exact HNX.out _ _ _ HSE2.out HFC2.out HS5.out
                          · have HSE : Hid (Rx.step M (M.length + 1) b2 c (a + 2) P.1 ([], P.2) = Rx.step M (M.length + 1) b2 c (a + 2) (P.1.drop (j + 1)) r) := Lib.hid (by rw [HST.out, HDR.out, Rx.step, if_neg hbk, hsst])
                            clear hbk hsst
                            obtain rfl : fv = .nilFunc := hsx.1
                            have HSX := Lib.hid hsx
                            clear hsx hfv
                            go_wp2_with fail
                            go_region
                            have HA3 := Lib.hid (HAL.out.more ((Below.refl _ _).alloc (Nat.le_refl _) (.cells #[.nilFunc, .slice sa sn sc] 173)))
                            have hsb3 : At (wc.alloc (.cells #[.nilFunc, .slice sa sn sc] 173)) wc.heap.size #[.nilFunc, .slice sa sn sc] 173 := At.new _ _ _
                            clear m0 m1 m2 m0a m1a m2a t0 t1 t0a
                            generalize (wc.alloc (.cells #[.nilFunc, .slice sa sn sc] 173)) = w3 at *
                            have s0 : w3.cell? ⟨wc.heap.size, 0, none⟩ = some .nilFunc := hsb3.cell 0
                            have hfe := fn_eq
                            clear hsb3
                            go_wp2_with fail
                            go_quiet (fail)
                            go_wp2_with fail
                            go_roundg (P.1.length - (j + 1))
                            case measure => exact hmz
                            case rel => exact HNX.out _ _ _ HSE.out HFC.out (HA3.out.drewN _)
                    case neg =>
                      obtain rfl : j = P.1.length := by have := HG2.out.2; omega
                      have HSE : Hid (Rx.step M (M.length + 1) b2 c (a + 2) P.1 ([], P.2) = r) := Lib.hid (by rw [HST.out, List.drop_of_length_le (Nat.le_refl _)]; rfl)
                      have HFIN := Lib.hid (HEND.out (.slice ya yn yc) wr (by rw [HSE.out]; exact HI6.out))
                      clear hlt HG2
                      go_wp2_with fail
                      go_roundg (s.size - a)
                      case measure => first | exact hmo | omega
                      case rel => exact HFIN.out
end Go.Proofs.YthckgmbadmilfaaGreat
