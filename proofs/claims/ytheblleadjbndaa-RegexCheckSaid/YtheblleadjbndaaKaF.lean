/- The walk of Prefix. awake. great. Words that the walks of the laws use. Nodes of the reference in memory: their cells, whole loads and stores. Trees of the reference in memory. The reference's machines in memory. The reference's walks: bytes and items of classes. The reference's walks: single, escape. The reference's walks: escape. The reference's walks: escape, for a class. -/
import Derived.Test.YtheblleadjbndaaKaD
import Derived.Test.YtheblleadjbndaaKaE
import Derived.Test.YtheblleadjbndaaKaC
import Derived.Deep.LoopGhost
import Derived.Test.YtheblleadjbndaaKaB
import Derived.Deep.DeepCutAuto
import Derived.Laws.Rows
import Derived.Laws.Tables
import Derived.Lib.Hide
import Derived.StillTail
import Derived.Test.YtheblleadjbndaaKaA
import Derived.Great.BuildSlice
import Derived.Laws.OwnMore
namespace Go.Proofs.Ytheblleadjbndaa
open Go.RowKit Rx
namespace Rx
def szSs : Ss → Nat
  | .nil => 0
  | .cons _ s => szSs s + 1
theorem szSs_le : ∀ s : Ss, szSs s ≤ szS s := by
  intro s
  induction s using Ss.rec (motive_1 := fun _ => True) (motive_3 := fun _ => True) with
  | nil => exact Nat.le_refl _
  | cons u s _ ih => have := szU_byte_pos u; simp only [szSs, szS]; omega
  | _ => trivial
end Rx
/-- What a factor's node tells Prefix. -/
theorem part_of {S : Nat → Prop} {W : World} (u : U) (x : Value) (h : IsU S W u x) : ∃ b kind pl ch cl sv, x = ptr b ∧ At W b (nd kind pl ch cl sv) 54 ∧ ((∃ c, u = .byte c ∧ pl = true ∧ ch = c.toNat) ∨ (pl = false ∧ ∀ s, pre (.cons u s) = ([], false))) := by
  have hnode : ∀ kind v P, Node S W kind v P → ∃ b kind pl ch cl sv, v = ptr b ∧ At W b (nd kind pl ch cl sv) 54 ∧ pl = false := fun kind v P ⟨b, sv, xs, _, h1, h2, _⟩ => ⟨b, kind, false, 0, .pointer none, sv, h1, h2, rfl⟩
  rcases u with c | f | a | u | u | u
  · obtain ⟨b, _, rfl, h1⟩ := h
    exact ⟨b, _, _, _, _, _, rfl, h1, .inl ⟨c, rfl, rfl, rfl⟩⟩
  · obtain ⟨b, k, _, _, rfl, h1, _⟩ := h
    exact ⟨b, _, _, _, _, _, rfl, h1, .inr ⟨rfl, fun _ => rfl⟩⟩
  · have h2 : ∃ kind P, Node S W kind x P := by rcases a with s | ⟨s, a⟩ <;> exact ⟨_, _, h⟩
    obtain ⟨kind, P, h2⟩ := h2
    obtain ⟨b, k, pl, ch, cl, sv, h3, h4, h5⟩ := hnode _ _ _ h2
    exact ⟨b, k, pl, ch, cl, sv, h3, h4, .inr ⟨h5, fun _ => rfl⟩⟩
  all_goals
    obtain ⟨b, k, pl, ch, cl, sv, h3, h4, h5⟩ := hnode _ _ _ h
    exact ⟨b, k, pl, ch, cl, sv, h3, h4, .inr ⟨h5, fun _ => rfl⟩⟩
theorem IsSl.len {S : Nat → Prop} {W : World} : ∀ (s : Ss) (xs : List Value), IsSl S W s xs → xs.length = szSs s := by
  intro s
  induction s using Ss.rec (motive_1 := fun _ => True) (motive_3 := fun _ => True) with
  | nil => intro xs h; rw [show xs = [] from h]; rfl
  | cons u s _ ih => rintro xs ⟨x, ys, rfl, _, h⟩; simp only [List.length_cons, szSs]; rw [ih ys h]
  | _ => trivial

set_option maxRecDepth 100000 in
set_option maxHeartbeats 2000000 in
theorem prefix_any (p : ByteArray) (W : World) : Calls Try.prog 20 #[.string p] W fun e w' => e = .returned (.tuple #[.string ⟨(prefR (bs p)).1.toArray⟩, .bool (prefR (bs p)).2]) ∧ Below W.heap.size W w' := by
  obtain ⟨i0, hi, hz0, hz1, hz2⟩ := info_parts info_u8
  have HI := Lib.hid hi
  have HZ0 := Lib.hid hz0
  have HZ1 := Lib.hid hz1
  have HZ2 := Lib.hid hz2
  clear hi hz0 hz1 hz2
  have HP := Lib.hid (parse_any p W)
  go_enter Try.func20, Try.ntmps20
  go_wp2_with fail
  refine (HP.out).mono ?_
  rintro e w1 ⟨hb, hp⟩
  have HB := Lib.hid hb
  clear hb HP
  rcases ha : parse (bs p) with _ | a
  · rw [ha] at hp
    simp only at hp
    obtain rfl := hp
    have HE2 : Hid (prefR (bs p) = ([], false)) := Lib.hid (by unfold prefR; rw [ha])
    clear ha
    go_wp2_with fail
    go_ret2
    exact ⟨by rw [HE2.out]; rfl, HB.out⟩
  · rw [ha] at hp
    simp only at hp
    obtain ⟨v, rfl, hv⟩ := hp
    have hsz := parse_sz ha
    rcases a with sq | ⟨sq, a2⟩
    · have HE2 : Hid (prefR (bs p) = pre sq) := Lib.hid (by unfold prefR; rw [ha])
      obtain ⟨tb, sv, xs, _, rfl, hat, hpa, hsl⟩ := hv
      have c0 : w1.cell? ⟨tb, 0, none⟩ = some (.int .i64 1) := hat.cell 0
      have c4 : w1.cell? ⟨tb, 4, none⟩ = some sv := hat.cell 4
      obtain ⟨sa, sn, sc, rfl⟩ := owns_slice hpa.1
      obtain rfl : sn = xs.length := by
        rcases hpa.1.2 with ⟨e, h0⟩ | ⟨g, cap, cur, e, _⟩
        · injection e with _ e _; omega
        · injection e with _ e _
      have hxl := IsSl.len sq xs hsl
      have hxs : xs.length ≤ 200 := by have := szSs_le sq; simp only [szA] at hsz; omega
      have HPA := Lib.hid hpa.1
      have HSL := Lib.hid hsl
      have HXS := Lib.hid hxs
      clear ha hat hpa hsl hsz hxl hxs
      unfold ptr
      go_wp2_with fail
      go_loopg [6, 28] xs.length (fun g v i wr => ∃ (j : Nat) (dn ys : List Value) (s' : Ss) (l : List UInt8), g = xs.length - j ∧ xs = dn ++ ys ∧ dn.length = j ∧ i = .int .i64 j ∧ IsSl (Fresh W w1) w1 s' ys ∧ pre sq = (l ++ (pre s').1, (pre s').2) ∧ l.length = j ∧ QIn w1 v l wr)
      case atStart => exact ⟨0, [], xs, sq, [], rfl, rfl, rfl, rfl, HSL.out, rfl, rfl, QIn.start w1⟩
      case round =>
        obtain ⟨j, dn, ys, s', l, hg, hxs, hdn, rfl, hsl, hpre, hll, hin⟩ := hrel
        obtain ⟨va, vn, vc, rfl⟩ := owns_slice hin.row
        have HIN := Lib.hid hin
        have HPR := Lib.hid hpre
        have hjx : j + ys.length = xs.length := by rw [hxs, List.length_append]; omega
        have HLL : Hid (l.length = j) := Lib.hid hll
        have hjl : (j : Int) ≤ 200 := by have := HXS.out; omega
        have HBW : Hid (Below W.heap.size W wr) := Lib.hid (HB.out.trans (hin.below.mono HB.out.size))
        have kc := hin.str 0
        have kc2 : (convert 55 9 (.slice va vn vc)).run Try.prog wr = .ok (.string ⟨l.toArray⟩) wr := kc
        clear hin hpre hll kc
        rcases ys with _ | ⟨x, ys⟩
        · have hs' : s' = .nil := by
            rcases s' with _ | ⟨u, s'⟩
            · rfl
            · obtain ⟨x, zs, e, _⟩ := hsl; cases e
          subst hs'
          obtain rfl : j = xs.length := by simpa using hjx
          have HE3 : Hid (prefR (bs p) = (l, true)) := Lib.hid (by rw [HE2.out, HPR.out]; simp [pre])
          clear hsl hjx hg hxs hdn
          go_wp2_with fail
          go_ret2
          exact ⟨by rw [HE3.out]; rfl, HBW.out⟩
        · rcases s' with _ | ⟨u, s'⟩
          · cases hsl
          obtain ⟨x', zs, e, hu, hsl2⟩ := hsl
          injection e with e1 e2
          subst e1 e2
          obtain ⟨b, kind, pl, ch, cl, psv, rfl, hat, hpl⟩ := part_of u x hu
          have hjlt : j < xs.length := by simp at hjx; omega
          have hjlti : (j : Int) < (xs.length : Int) := by omega
          have hxj : xs[j]? = some (ptr b) := by rw [hxs, List.getElem?_append_right (by omega), hdn, Nat.sub_self]; rfl
          have hsa : ∃ g, sa = some ⟨g, 0, none⟩ ∧ xs.length ≤ sc := by
            rcases HPA.out.2 with ⟨e, h0⟩ | ⟨g, cap, cur, e, _, _, h3, _⟩
            · omega
            · injection e with e1 _ e3; exact ⟨g, e1, by omega⟩
          obtain ⟨g, rfl, hsc⟩ := hsa
          have hgl : g < w1.heap.size := by obtain ⟨C, hC⟩ := owns_type HPA.out (g := g) rfl; exact hC.lt
          have d1 : wr.cell? ⟨g, j, none⟩ = some (ptr b) := by rw [HIN.out.below.cell hgl]; exact owns_cell HPA.out rfl hxj
          have hat2 := hat.below HIN.out.below
          have d2 : wr.cell? ⟨b, 1, none⟩ = some (.bool pl) := hat2.cell 1
          have d3 : wr.cell? ⟨b, 2, none⟩ = some (.int .u8 ch) := hat2.cell 2
          have hmo : xs.length - (j + 1) < gk := by omega
          have HMO := Lib.hid hmo
          have HDN : Hid (xs = (dn ++ [ptr b]) ++ ys ∧ (dn ++ [ptr b]).length = j + 1) := Lib.hid ⟨by rw [hxs]; simp, by simp [hdn]⟩
          have HSL2 := Lib.hid hsl2
          clear hat hat2 hu hsl2 hxj hgl hmo hg hxs hdn hjx
          unfold ptr at d1
          rcases hpl with ⟨c, rfl, rfl, rfl⟩ | ⟨rfl, hpf⟩
          · have HPR2 : Hid (pre sq = ((l ++ [c]) ++ (pre s').1, (pre s').2)) := Lib.hid (by rw [HPR.out]; simp [pre])
            have hlb : l.length ≤ 100000 := by have := HLL.out; have := HXS.out; omega
            clear kc2
            go_wp2_with (at_builtin; (refine wpList_append_where _ rfl (.tmp 39) (.tmp 44) 55 rfl 5 i0 _ 1 1 Try.underlying55 HI.out HZ0.out HZ1.out HZ2.out rfl (by decide) (.slice va vn vc) l.length (l.map u8V) rfl (HIN.out.row.alloc _) ⟨wr.heap.size, 0, none⟩ 1 1 [u8V c] rfl (by decide) rfl (World.news_of_block (cs := #[u8V c]) (t := 5) (fr := (0, 0)) (heap_alloc_new _ _)) (one_u8 c) (len_u8 hlb) (bytes_u8 hlb) ?_))
            intro v' w4 hown hgrow hwhere
            have HA := Lib.hid (HIN.out.app hown hgrow hwhere)
            obtain ⟨ya, yn, yc, rfl⟩ := owns_slice hown
            clear hown hgrow hwhere
            go_wp2_with fail
            go_roundg (xs.length - (j + 1))
            case measure => exact HMO.out
            case rel => exact ⟨j + 1, dn ++ [ptr b], ys, s', l ++ [c], rfl, HDN.out.1, HDN.out.2, rfl, HSL2.out, HPR2.out, by rw [List.length_append, HLL.out]; rfl, HA.out⟩
          · have HE3 : Hid (prefR (bs p) = (l, false)) := Lib.hid (by rw [HE2.out, HPR.out, hpf]; simp)
            clear hpf
            go_wp2_with fail
            go_ret2
            exact ⟨by rw [HE3.out]; rfl, HBW.out⟩
    · have HE2 : Hid (prefR (bs p) = ([], false)) := Lib.hid (by unfold prefR; rw [ha])
      obtain ⟨tb, sv, xs, _, rfl, hat, _⟩ := hv
      have c0 : w1.cell? ⟨tb, 0, none⟩ = some (.int .i64 2) := hat.cell 0
      clear ha hat hsz
      unfold ptr
      go_wp2_with fail
      go_ret2
      exact ⟨by rw [HE2.out]; rfl, HB.out⟩
end Go.Proofs.Ytheblleadjbndaa

namespace Go.Proofs.Ytheblleadjbndaa
open Go.RowKit Rx
theorem ex1 : findR (bs ⟨#[98, 43]⟩) (bs ⟨#[97, 98, 98, 97, 98, 98, 98]⟩) = some (1, 3) := by kernel_rfl
theorem ex2 : prefR (bs ⟨#[97, 98, 46, 99]⟩) = ([97, 98], false) := by kernel_rfl
theorem ex3 : matchR (bs ⟨#[97, 40, 98, 124, 99, 41, 42, 100]⟩) (bs ⟨#[97, 99, 98, 99, 100]⟩) = true := by kernel_rfl
theorem ex4 : matchR (bs ⟨#[97, 40, 98, 124, 99, 41, 42, 100]⟩) (bs ⟨#[97, 98, 99]⟩) = false := by kernel_rfl
theorem ex5 : quoteR (bs ⟨#[97, 46, 98]⟩) = [97, 92, 46, 98] := by kernel_rfl
theorem ex6 : checkR (bs ⟨#[97, 42, 42]⟩) = 3 := by kernel_rfl

set_option maxRecDepth 100000 in
set_option maxHeartbeats 2000000 in
theorem awake_any (W : World) : Calls Try.prog 16 #[] W fun e w' => e = .returned (.bool true) ∧ Below W.heap.size W w' := by
  have hF := fun w => find_pub ⟨#[98, 43]⟩ ⟨#[97, 98, 98, 97, 98, 98, 98]⟩ w (by decide)
  rw [ex1] at hF
  have hP := fun w => prefix_any ⟨#[97, 98, 46, 99]⟩ w
  rw [ex2] at hP
  have hM1 := fun w => match_any ⟨#[97, 40, 98, 124, 99, 41, 42, 100]⟩ ⟨#[97, 99, 98, 99, 100]⟩ w (by decide)
  rw [ex3] at hM1
  have hM2 := fun w => match_any ⟨#[97, 40, 98, 124, 99, 41, 42, 100]⟩ ⟨#[97, 98, 99]⟩ w (by decide)
  rw [ex4] at hM2
  have hQ := fun w => quote_any ⟨#[97, 46, 98]⟩ w (by decide)
  rw [ex5] at hQ
  have hC := fun w => check_any ⟨#[97, 42, 42]⟩ w
  rw [ex6] at hC
  have HF := Lib.hid hF
  have HP := Lib.hid hP
  have HM1 := Lib.hid hM1
  have HM2 := Lib.hid hM2
  have HQ := Lib.hid hQ
  have HC := Lib.hid hC
  clear hF hP hM1 hM2 hQ hC
  go_enter Try.func16, Try.ntmps16
  go_wp2_with fail
  refine (HF.out _).mono ?_
  rintro e w1 ⟨rfl, hb1⟩
  have HB1 := Lib.hid hb1
  clear hb1
  simp only [foundV, bestV, Option.isSome_some]
  go_wp2_with fail
  refine (HP.out _).mono ?_
  rintro e w2 ⟨rfl, hb2⟩
  have hat := (At.new w1 #[.int .i64 1, .int .i64 3] 26).below hb2
  have HB2 : Hid (Below W.heap.size W w2) := Lib.hid ((HB1.out.alloc HB1.out.size _).trans (hb2.mono (Nat.le_trans HB1.out.size (by show w1.heap.size ≤ (w1.heap.push _).size; simp))))
  have HA2 := Lib.hid hat
  clear hb2 hat
  go_wp2_with fail
  refine (HM1.out _).mono ?_
  rintro e w3 ⟨rfl, hb3⟩
  have HB3 : Hid (Below W.heap.size W w3) := Lib.hid (HB2.out.trans (hb3.mono HB2.out.size))
  have HA3 := Lib.hid (HA2.out.below hb3)
  clear hb3
  go_wp2_with fail
  refine (HM2.out _).mono ?_
  rintro e w4 ⟨rfl, hb4⟩
  have HB4 : Hid (Below W.heap.size W w4) := Lib.hid (HB3.out.trans (hb4.mono HB3.out.size))
  have HA4 := Lib.hid (HA3.out.below hb4)
  have c0 : w4.cell? ⟨w1.heap.size, 0, none⟩ = some (.int .i64 1) := HA4.out.cell 0
  have c1 : w4.cell? ⟨w1.heap.size, 1, none⟩ = some (.int .i64 3) := HA4.out.cell 1
  clear hb4
  go_wp2_with fail
  refine (HQ.out _).mono ?_
  rintro e w5 ⟨rfl, hb5⟩
  have HB5 : Hid (Below W.heap.size W w5) := Lib.hid (HB4.out.trans (hb5.mono HB4.out.size))
  clear hb5 c0 c1
  go_wp2_with fail
  refine (HC.out _).mono ?_
  rintro e w6 ⟨rfl, hb6⟩
  have HB6 : Hid (Below W.heap.size W w6) := Lib.hid (HB5.out.trans (hb6.mono HB5.out.size))
  clear hb6
  go_wp2_with fail
  go_ret
  exact ⟨rfl, HB6.out⟩
end Go.Proofs.Ytheblleadjbndaa

namespace Go.Proofs.Ytheblleadjbndaa
open Go.RowKit
def greatR (s : ByteArray) (ps : List ByteArray) : Bool := ps.any (fun p => decide (210 < p.size)) || decide (40 < s.size)
set_option maxHeartbeats 1000000 in
theorem great_any (s : ByteArray) (b : Nat) (ps : List ByteArray) (W : World) (hl : ps.length ≤ 1000) (hc : ∀ (j : Nat) q, ps[j]? = some q → W.cell? ⟨b, j, none⟩ = some (.string q)) :
    Calls Try.prog 13 #[.string s, .slice (some ⟨b, 0, none⟩) ps.length ps.length] W fun e w' => e = .returned (.bool (greatR s ps)) ∧ w' = W := by
  have HL := Lib.hid hl
  have HC := Lib.hid hc
  clear hl hc
  go_enter Try.func13, Try.ntmps13
  go_wp2_with fail
  go_loopg [9] ps.length (fun g i wr => ∃ j : Nat, W = wr ∧ g = ps.length - j ∧ j ≤ ps.length ∧ i = .int .i64 j ∧ (ps.take j).any (fun p => decide (210 < p.size)) = false)
  case atStart => exact ⟨0, rfl, rfl, Nat.zero_le _, rfl, rfl⟩
  case round =>
    obtain ⟨j, rfl, hg, hj, rfl, hn⟩ := hrel
    have hjl : (j : Int) ≤ 1000 := by have := HL.out; omega
    have HN := Lib.hid hn
    clear hn
    by_cases hlt : j < ps.length
    · obtain ⟨q, hq⟩ : ∃ q, ps[j]? = some q := ⟨_, List.getElem?_eq_getElem hlt⟩
      have hlti : (j : Int) < (ps.length : Int) := by omega
      have c0 : W.cell? ⟨b, j, none⟩ = some (.string q) := HC.out j q hq
      have hpq : ps[j] = q := by rw [List.getElem?_eq_getElem hlt] at hq; exact Option.some.inj hq
      by_cases hb : 210 < q.size
      · have HG : Hid (greatR s ps = true) := Lib.hid (by
          unfold greatR
          rw [Bool.or_eq_true, List.any_eq_true]
          exact .inl ⟨q, List.mem_of_getElem? hq, by simp [hb]⟩)
        have hbi : (q.size : Int) > 210 := by omega
        clear hb hq hpq hg
        go_wp2_with fail
        go_ret
        exact ⟨ret_bool HG.out.symm, rfl⟩
      · have HN2 : Hid ((ps.take (j + 1)).any (fun p => decide (210 < p.size)) = false) := Lib.hid (by
          rw [List.take_succ_eq_append_getElem hlt, List.any_append, HN.out, hpq]
          simp [hb])
        have hbi : ¬ (q.size : Int) > 210 := by omega
        have HMO : Hid (ps.length - (j + 1) < gk) := Lib.hid (by omega)
        clear hb hq hpq hg
        go_wp2_with fail
        go_roundg (ps.length - (j + 1))
        case measure => exact HMO.out
        case rel => exact ⟨j + 1, rfl, rfl, by omega, rfl, HN2.out⟩
    · obtain rfl : j = ps.length := by omega
      have HG : Hid (greatR s ps = decide ((s.size : Int) > 40)) := Lib.hid (by
        have h1 := HN.out
        rw [List.take_of_length_le (Nat.le_refl _)] at h1
        unfold greatR
        rw [h1, Bool.false_or]
        by_cases h : 40 < s.size
        · have : (s.size : Int) > 40 := by omega
          simp [h, this]
        · have : ¬ (s.size : Int) > 40 := by omega
          rw [decide_eq_false h, decide_eq_false this])
      clear hlt hj hg
      go_wp2_with fail
      go_ret
      exact ⟨ret_bool HG.out.symm, rfl⟩
end Go.Proofs.Ytheblleadjbndaa

namespace Go.Proofs.Ytheblleadjbndaa
open Go.RowKit Rx
theorem bs_app (a b : ByteArray) : bs (a ++ b) = bs a ++ bs b := by simp [bs, ByteArray.data_append]
theorem ne_int {n : Nat} (h : n ≠ 0) : ((n : Int) != 0) = true := by rw [bne_iff_ne]; omega
theorem great_small {s : ByteArray} {ps : List ByteArray} (h : greatR s ps = false) : s.size ≤ 40 ∧ ∀ p ∈ ps, p.size ≤ 210 := by
  unfold greatR at h
  rw [Bool.or_eq_false_iff, List.any_eq_false, decide_eq_false_iff_not] at h
  exact ⟨by omega, fun p hp => by have := h.1 p hp; simpa using this⟩
def eitherB (p q : ByteArray) : ByteArray := (⟨#[40]⟩ : ByteArray) ++ p ++ ⟨#[41, 124, 40]⟩ ++ q ++ ⟨#[41]⟩
def optB (p : ByteArray) : ByteArray := (⟨#[40]⟩ : ByteArray) ++ p ++ ⟨#[41, 63]⟩
theorem bs_either (p q : ByteArray) : bs (eitherB p q) = eitherS (bs p) (bs q) := by simp [eitherB, eitherS, bs]
theorem bs_opt (p : ByteArray) : bs (optB p) = quantS (bs p) 63 := by simp [optB, quantS, bs]
theorem bs_concat (p q : ByteArray) : bs (({ data := #[40] } : ByteArray) ++ p ++ { data := #[41, 40] } ++ q ++ { data := #[41] }) = concatS (bs p) (bs q) := by simp [concatS, bs]
theorem bs_quant (p : ByteArray) (c : UInt8) : bs (({ data := #[40] } : ByteArray) ++ p ++ { data := #[41, c] }) = quantS (bs p) c := by simp [quantS, bs]
theorem bs_part (s : ByteArray) (i k : Nat) : bs (s.extract i k) = seg (bs s) i k := by
  unfold bs seg
  rw [ByteArray.data_extract, Array.toList_extract, List.extract_eq_take_drop]
  rw [List.drop_take]
theorem bs_to (s : ByteArray) (k : Nat) : bs (s.extract 0 k) = (bs s).take k := by
  rw [bs_part]; simp [seg]
theorem bs_from (s : ByteArray) (k : Nat) : bs (s.extract k s.size) = (bs s).drop k := by
  rw [bs_part]
  unfold seg
  rw [List.take_of_length_le (by rw [bs_length]; exact Nat.le_refl _)]
theorem part_small {s : ByteArray} (i k : Nat) (h : s.size ≤ 40) : (s.extract i k).size ≤ 40000 := by
  rw [ByteArray.size_extract]; omega
theorem below_step {W w w' : World} (h : Below W.heap.size W w) (hb : Below w.heap.size w w') : Below W.heap.size W w' := h.trans (hb.mono h.size)
theorem below_stepD {W w w' : World} (h : Below W.heap.size W w) (hb : Below w.drew.heap.size w.drew w') : Below W.heap.size W w' := below_step h (bD hb)
/-- What Find gives, and what the law of the leftmost longest match wants of it. -/
theorem find_tells (p s : ByteArray) : ∃ (is : Bool) (f e : Nat), foundV (findR (bs p) (bs s)) = .tuple #[.agg #[.int .i64 f, .int .i64 e], .bool is] ∧ (is = true → f ≤ e ∧ e ≤ s.size ∧ matchR (bs p) (seg (bs s) f e) = true) ∧
    ∀ i k : Nat, i ≤ k → k ≤ s.size → (is = false ∨ i < f ∨ (i = f ∧ e < k)) → matchR (bs p) (seg (bs s) i k) = false := by
  rcases h : findR (bs p) (bs s) with _ | ⟨f, e⟩
  · exact ⟨false, 0, 0, rfl, fun h => (by cases h), fun i k h1 h2 _ => find_none h i k h1 h2⟩
  · have h1 := find_some h
    refine ⟨true, f, e, rfl, fun _ => ⟨h1.1, h1.2.1, h1.2.2.1⟩, fun i k h2 h3 h4 => ?_⟩
    rcases hm : matchR (bs p) (seg (bs s) i k) with _ | _
    · rfl
    · have h5 := h1.2.2.2 i k h2 h3 hm
      rcases h4 with h4 | h4 | h4
      · cases h4
      · omega
      · omega
theorem pre_len : ∀ s : Ss, (pre s).1.length ≤ szS s := by
  intro s
  induction s using Ss.rec (motive_1 := fun _ => True) (motive_3 := fun _ => True) with
  | nil => exact Nat.le_refl _
  | cons u s _ ih => rcases u with c | f | a | u | u | u <;> simp only [pre, szS, szU, List.length_cons, List.length_nil] <;> omega
  | _ => trivial
theorem pref_len (p : List UInt8) : (prefR p).1.length ≤ 200 := by
  unfold prefR
  rcases h : parse p with _ | a
  · simp
  · rcases a with s | ⟨s, a⟩
    · have h1 := parse_sz h
      have h2 := pre_len s
      simp only [szA] at h1
      simp only
      omega
    · simp
end Go.Proofs.Ytheblleadjbndaa

namespace Go.Proofs.Ytheblleadjbndaa
open Go.RowKit Rx

/-! ### Whole values out of and into memory -/
section
variable {P : Program}
theorem run_loadVar_part (w : World) (g o : Nat) (ty : TypeId) (cs : List Value) (d : TypeDesc) (hc : ∀ j v, cs[j]? = some v → w.cell? ⟨g, o + j, none⟩ = some v)
    (hu : P.underlying ty = some d) (hd : (match d with | .struct _ | .array _ _ => true | _ => false) = true) (hi : (P.info? ty).map (·.size) = some cs.length) :
    (loadVar ty ⟨g, o, none⟩).run P w = .ok (.agg cs.toArray) w := by
  have hl : (loadCells ⟨g, o, none⟩ cs.length).run P w = .ok cs.toArray w :=
    run_loadCells_list (P := P) w ⟨g, o, none⟩ cs (fun j v hv => by
      have hadd : (⟨g, o, none⟩ : Addr).add j = ⟨g, o + j, none⟩ := by unfold Addr.add; split <;> simp_all
      rw [hadd]
      exact hc j v hv)
  cases hq : P.info? ty with
  | none => simp [hq] at hi
  | some i =>
    have hs : i.size = cs.length := by simpa [hq] using hi
    have hagg : (isAgg ty).run P w = .ok true w := by
      unfold isAgg
      rw [Sem.run_bind, run_underlying hu w]
      cases d <;> simp_all
    simp [loadVar, Sem.run_bind, hagg, sizeOf, typeInfo, hq, hs, hl]
theorem wpList_load_part {ops : Array Oper} {rest : List Oper} {o : Oper} {a : Act} {w : World} {Q : Exit → Act → World → Prop} (hgd : o.guard = none) (ty : TypeId) (x : Operand) (ho : o.op = .load ty x)
    (g off : Nat) (hx : a.eval x = .pointer (some ⟨g, off, none⟩)) (cs : List Value) (d : TypeDesc) (hc : ∀ j v, cs[j]? = some v → w.cell? ⟨g, off + j, none⟩ = some v)
    (hu : P.underlying ty = some d) (hd : (match d with | .struct _ | .array _ _ => true | _ => false) = true) (hi : (P.info? ty).map (·.size) = some cs.length)
    (h : wpList P ops Q rest (a.put o.dst (.agg cs.toArray)) w) : wpList P ops Q (o :: rest) a w :=
  wpList_plain hgd fun _ hK => by
    unfold Oper.wp execOp
    simp only [ho, hx, Instr.loadAt, Instr.sureAddr, Sem.run_bind, Sem.run_pure, Result.andThen_ok, run_loadVar_part w g off ty cs d hc hu hd hi]
    exact hK _ _ h
end
section
variable {P : Program}
/-- A whole store into a block; the walk stops behind it. -/
theorem wpList_store_at {ops : Array Oper} {rest : List Oper} {o : Oper} {a : Act} {w : World} {Q : Exit → Act → World → Prop} (hgd : o.guard = none) (ty : TypeId) (x y : Operand) (ho : o.op = .store ty x y)
    (g : Nat) (cells : Array Value) (hx : a.eval x = .pointer (some ⟨g, 0, none⟩)) (hy : a.eval y = .agg cells)
    (t : TypeId) (old : Array Value) (hg : At w g old t) (hi : (P.info? ty).map (·.size) = some cells.size)
    (hold : old.size = cells.size) (h1 : cells.all (·.oneCell') = true)
    (h : ∀ w', Hid (w' = w.setRow g cells) → wpList P ops Q rest (a.put o.dst undef) w') : wpList P ops Q (o :: rest) a w :=
  wpList_store_row hgd ty x y ho g cells hx hy t old hg.out hi hold h1 (h _ (Lib.hid rfl))
theorem wpList_load_at {ops : Array Oper} {rest : List Oper} {o : Oper} {a : Act} {w : World} {Q : Exit → Act → World → Prop} (hgd : o.guard = none) (ty : TypeId) (x : Operand) (ho : o.op = .load ty x)
    (g : Nat) (hx : a.eval x = .pointer (some ⟨g, 0, none⟩)) (t : TypeId) (cs : Array Value) (d : TypeDesc) (hg : At w g cs t)
    (hu : P.underlying ty = some d) (hd : (match d with | .struct _ | .array _ _ => true | _ => false) = true) (hi : (P.info? ty).map (·.size) = some cs.size)
    (h : wpList P ops Q rest (a.put o.dst (.agg cs)) w) : wpList P ops Q (o :: rest) a w :=
  wpList_load_row hgd ty x ho g hx t cs (0, 0) d hg.out hu hd hi h
theorem wpStill_load_at {ops : Array Oper} {rest : List Oper} {o : Oper} {a : Act} {w : World} {Q : Act → Prop} (hgd : o.guard = none) (ty : TypeId) (x : Operand) (ho : o.op = .load ty x)
    (g : Nat) (hx : a.eval x = .pointer (some ⟨g, 0, none⟩)) (t : TypeId) (cs : Array Value) (d : TypeDesc) (hg : At w g cs t)
    (hu : P.underlying ty = some d) (hd : (match d with | .struct _ | .array _ _ => true | _ => false) = true) (hi : (P.info? ty).map (·.size) = some cs.size)
    (h : wpStill P ops w Q rest (a.put o.dst (.agg cs))) : wpStill P ops w Q (o :: rest) a := by
  refine wpStill_step (fun K hK => ?_)
  have hw : Region.wanted o (yielded ops a.tmps) = true := by simp [Region.wanted, hgd]
  rw [if_pos hw]
  unfold Oper.still execOp
  simp only [ho, hx, Instr.loadAt, Instr.sureAddr, Sem.run_bind, Sem.run_pure, Result.andThen_ok, run_loadVar_row w g t ty cs (0, 0) d hg.out hu hd hi]
  exact ⟨rfl, hK _ h⟩
end
theorem At.row {W : World} {b : Nat} {c c' : Array Value} {t : TypeId} (h : At W b c t) : At (W.setRow b c') b c' t := ⟨setRow_heap W b c c' t (0, 0) h.out⟩
theorem At.rowOther {W : World} {b k : Nat} {c c' : Array Value} {t : TypeId} (h : At W b c t) (hne : b ≠ k) : At (W.setRow k c') b c t := ⟨by rw [setRow_other W k b c' hne]; exact h.out⟩
theorem below_row {W w : World} (h : Below W.heap.size W w) (b : Nat) (c : Array Value) (hb : W.heap.size ≤ b) : Below W.heap.size W (w.setRow b c) :=
  ⟨h.os, h.tape, h.output, by rw [size_setRow]; exact h.size, fun k hk => by rw [setRow_other w b k c (by omega)]; exact h.block k hk⟩

/-! ### The cells of a node -/
def nodeC (k : Int) (f : UInt8 → Bool) (s : Bool) (v : Value) : Array Value := #[.int .i64 k] ++ btab f 256 ++ #[.bool s, v]
def noF : UInt8 → Bool := fun _ => false
def nilS : Value := .slice none 0 0
theorem nodeC_size (k : Int) (f : UInt8 → Bool) (s : Bool) (v : Value) : (nodeC k f s v).size = 259 := by simp [nodeC, btab_size]
theorem nodeC_kind (k : Int) (f : UInt8 → Bool) (s : Bool) (v : Value) : (nodeC k f s v)[0]? = some (.int .i64 k) := by
  unfold nodeC
  rw [Array.getElem?_append_left (by simp [btab_size]), Array.getElem?_append_left (by simp)]; rfl
theorem nodeC_bit (k : Int) (f : UInt8 → Bool) (s : Bool) (v : Value) (i : Nat) (h : i < 256) : (nodeC k f s v)[1 + i]? = some (.bool (f (UInt8.ofNat i))) := by
  unfold nodeC
  rw [Array.getElem?_append_left (by simp [btab_size]; omega), Array.getElem?_append_right (by simp)]
  have e : 1 + i - (#[Value.int .i64 k] : Array Value).size = i := by simp
  rw [e, btab_get f 256 i h, if_pos h]
theorem nodeC_single (k : Int) (f : UInt8 → Bool) (s : Bool) (v : Value) : (nodeC k f s v)[257]? = some (.bool s) := by
  unfold nodeC
  rw [Array.getElem?_append_right (by simp [btab_size])]
  simp [btab_size]
theorem nodeC_args (k : Int) (f : UInt8 → Bool) (s : Bool) (v : Value) : (nodeC k f s v)[258]? = some v := by
  unfold nodeC
  rw [Array.getElem?_append_right (by simp [btab_size])]
  simp [btab_size]
theorem nodeC_ext {a : Array Value} {k : Int} {f : UInt8 → Bool} {s : Bool} {v : Value} (hs : a.size = 259) (h0 : a[0]? = some (.int .i64 k)) (h1 : ∀ i, i < 256 → a[1 + i]? = some (.bool (f (UInt8.ofNat i)))) (h2 : a[257]? = some (.bool s)) (h3 : a[258]? = some v) : a = nodeC k f s v := by
  apply Array.ext_getElem?
  intro i
  by_cases e0 : i = 0
  · subst e0; rw [h0, nodeC_kind]
  by_cases e1 : i < 257
  · obtain ⟨j, rfl⟩ : ∃ j, i = 1 + j := ⟨i - 1, by omega⟩
    rw [h1 j (by omega), nodeC_bit _ _ _ _ j (by omega)]
  by_cases e2 : i = 257
  · subst e2; rw [h2, nodeC_single]
  by_cases e3 : i = 258
  · subst e3; rw [h3, nodeC_args]
  rw [Array.getElem?_eq_none (by omega), Array.getElem?_eq_none (by rw [nodeC_size]; omega)]
theorem getSet_ne {a : Array Value} {i j : Nat} {v : Value} (h : i ≠ j) : (a.setIfInBounds i v)[j]? = a[j]? := by
  rw [Array.getElem?_setIfInBounds, if_neg h]
theorem getSet_self {a : Array Value} {i : Nat} {v : Value} (h : i < a.size) : (a.setIfInBounds i v)[i]? = some v := by
  rw [Array.getElem?_setIfInBounds, if_pos rfl, if_pos h]
theorem nodeC_setKind (k k' : Int) (f : UInt8 → Bool) (s : Bool) (v : Value) : (nodeC k f s v).setIfInBounds 0 (.int .i64 k') = nodeC k' f s v := by
  apply nodeC_ext
  · rw [Array.size_setIfInBounds, nodeC_size]
  · exact getSet_self (by rw [nodeC_size]; omega)
  · intro i hi; rw [getSet_ne (by omega), nodeC_bit _ _ _ _ i hi]
  · rw [getSet_ne (by omega), nodeC_single]
  · rw [getSet_ne (by omega), nodeC_args]
theorem nodeC_setSingle (k : Int) (f : UInt8 → Bool) (s s' : Bool) (v : Value) : (nodeC k f s v).setIfInBounds 257 (.bool s') = nodeC k f s' v := by
  apply nodeC_ext
  · rw [Array.size_setIfInBounds, nodeC_size]
  · rw [getSet_ne (by omega), nodeC_kind]
  · intro i hi; rw [getSet_ne (by omega), nodeC_bit _ _ _ _ i hi]
  · exact getSet_self (by rw [nodeC_size]; omega)
  · rw [getSet_ne (by omega), nodeC_args]
theorem nodeC_setArgs (k : Int) (f : UInt8 → Bool) (s : Bool) (v v' : Value) : (nodeC k f s v).setIfInBounds 258 v' = nodeC k f s v' := by
  apply nodeC_ext
  · rw [Array.size_setIfInBounds, nodeC_size]
  · rw [getSet_ne (by omega), nodeC_kind]
  · intro i hi; rw [getSet_ne (by omega), nodeC_bit _ _ _ _ i hi]
  · rw [getSet_ne (by omega), nodeC_single]
  · exact getSet_self (by rw [nodeC_size]; omega)
theorem nodeC_setBit (k : Int) (f g : UInt8 → Bool) (s : Bool) (v : Value) (i : Nat) (b : Bool) (hi : i < 256) (hg : ∀ c : UInt8, g c = if c.toNat = i then b else f c) : (nodeC k f s v).setIfInBounds (1 + i) (.bool b) = nodeC k g s v := by
  have hn : ∀ j, j < 256 → (UInt8.ofNat j).toNat = j := fun j hj => by rw [UInt8.toNat_ofNat']; omega
  apply nodeC_ext
  · rw [Array.size_setIfInBounds, nodeC_size]
  · rw [getSet_ne (by omega), nodeC_kind]
  · intro j hj
    by_cases e : i = j
    · subst e
      rw [getSet_self (by rw [nodeC_size]; omega), hg, if_pos (hn i hi)]
    · rw [getSet_ne (by omega), nodeC_bit _ _ _ _ j hj, hg, if_neg (by rw [hn j hj]; omega)]
  · rw [getSet_ne (by omega), nodeC_single]
  · rw [getSet_ne (by omega), nodeC_args]
theorem btab_no : btab noF 256 = Array.replicate 256 (.bool false) := by
  apply Array.ext_getElem?
  intro i
  by_cases h : i < 256
  · rw [btab_get noF 256 i h, if_pos h, Array.getElem?_replicate, if_pos h]; rfl
  · rw [Array.getElem?_eq_none (by rw [btab_size]; omega), Array.getElem?_eq_none (by simp; omega)]
theorem zero_node0 : Try.zeroCells46 = #[.int .i64 0] ++ Array.replicate 256 (.bool false) ++ #[.bool false, .slice none 0 0] := by kernel_rfl
theorem zero_node : Try.zeroCells46 = nodeC 0 noF false nilS := by
  rw [zero_node0]; unfold nodeC; rw [btab_no]; rfl
theorem nodeC_one (k : Int) (f : UInt8 → Bool) (s : Bool) (v : Value) (h : v.oneCell' = true) : (nodeC k f s v).all (·.oneCell') = true := by
  rw [Array.all_eq_true_iff_forall_mem]
  intro x hx
  obtain ⟨i, hi⟩ := Array.getElem?_of_mem hx
  have hl : i < 259 := by
    have := (Array.getElem?_eq_some_iff.1 hi).1
    rw [nodeC_size] at this; exact this
  by_cases e0 : i = 0
  · subst e0; rw [nodeC_kind] at hi; injection hi with hi; subst hi; rfl
  by_cases e1 : i < 257
  · obtain ⟨j, rfl⟩ : ∃ j, i = 1 + j := ⟨i - 1, by omega⟩
    rw [nodeC_bit _ _ _ _ j (by omega)] at hi; injection hi with hi; subst hi; rfl
  by_cases e2 : i = 257
  · subst e2; rw [nodeC_single] at hi; injection hi with hi; subst hi; rfl
  · obtain rfl : i = 258 := by omega
    rw [nodeC_args] at hi; injection hi with hi; subst hi; exact h
attribute [irreducible] nodeC
theorem info_node : (Try.prog.info? 46).map (fun i => (i.size, i.bytes)) = some (259, 296) := by kernel_rfl
theorem size_node : (Try.prog.info? 46).map (·.size) = some 259 := by kernel_rfl
end Go.Proofs.Ytheblleadjbndaa

namespace Go.Proofs.Ytheblleadjbndaa
open Go.RowKit Rx
/-- Cells of a node, whatever they hold. -/
structure NV (x : Array Value) : Prop where
  size : x.size = 259
  one : x.all (·.oneCell') = true
theorem NV.node (k : Int) (f : UInt8 → Bool) (s : Bool) (v : Value) (h : v.oneCell' = true) : NV (nodeC k f s v) := ⟨nodeC_size _ _ _ _, nodeC_one _ _ _ _ h⟩
theorem NV.info {x : Array Value} (h : NV x) : (Try.prog.info? 46).map (·.size) = some x.size := by rw [h.size]; exact size_node
/-- The cells of a row of nodes. -/
def flat (xs : List (Array Value)) : List Value := xs.flatMap (·.toList)
theorem flat_snoc (xs : List (Array Value)) (x : Array Value) : flat (xs ++ [x]) = flat xs ++ x.toList := by simp [flat]
theorem flat_len {xs : List (Array Value)} (h : ∀ x ∈ xs, NV x) : (flat xs).length = xs.length * 259 := by
  induction xs with
  | nil => rfl
  | cons x xs ih =>
    have h1 := (h x (by simp)).size
    have h2 := ih fun y hy => h y (by simp [hy])
    unfold flat at h2 ⊢
    rw [List.flatMap_cons, List.length_append, List.length_cons, h2, Array.length_toList, h1]
    omega
theorem flat_get : ∀ {xs : List (Array Value)}, (∀ x ∈ xs, NV x) → ∀ (i j : Nat) (x : Array Value), xs[i]? = some x → j < 259 → (flat xs)[i * 259 + j]? = x[j]?
  | [], _, i, j, x, hx, _ => by simp at hx
  | y :: xs, h, 0, j, x, hx, hj => by
    simp at hx
    subst hx
    unfold flat
    rw [List.flatMap_cons, Nat.zero_mul, Nat.zero_add, List.getElem?_append_left (by rw [Array.length_toList, (h y (by simp)).size]; exact hj)]
    simp
  | y :: xs, h, i + 1, j, x, hx, hj => by
    have hs := (h y (by simp)).size
    have ih := flat_get (xs := xs) (fun z hz => h z (by simp [hz])) i j x (by simpa using hx) hj
    unfold flat at ih ⊢
    rw [List.flatMap_cons, List.getElem?_append_right (by rw [Array.length_toList, hs]; omega), Array.length_toList, hs, show (i + 1) * 259 + j - 259 = i * 259 + j from by omega]
    exact ih
/-- A slice of nodes. -/
structure RRow (S : Nat → Prop) (W : World) (sv : Value) (xs : List (Array Value)) : Prop where
  row : W.ownsRow 0 46 259 sv xs.length (flat xs)
  nv : ∀ x ∈ xs, NV x
  own : ∀ g, sv.ownBlock = some g → S g
theorem RRow.one {S : Nat → Prop} {W : World} {sv : Value} {xs : List (Array Value)} (h : RRow S W sv xs) : sv.oneCell' = true := by
  rcases h.row.2 with ⟨rfl, _⟩ | ⟨g, cap, cur, rfl, _⟩ <;> rfl
theorem RRow.same {S S' : Nat → Prop} {W W' : World} {sv : Value} {xs : List (Array Value)} (h : RRow S W sv xs) (hs : Same S W W') (hc : ∀ k, S k → S' k) : RRow S' W' sv xs :=
  ⟨owns_same h.row h.own hs, h.nv, fun g hg => hc g (h.own g hg)⟩
theorem RRow.nil (S : Nat → Prop) (W : World) : RRow S W nilS [] := ⟨World.ownsRow_nil _ _ _ _, fun x hx => (by simp at hx), fun g h => (by cases h)⟩
/-- A slice literal of nodes. -/
theorem wpList_nodes {ops : Array Oper} {rest : List Oper} {o : Oper} {a : Act} {w : World} {Q : Exit → Act → World → Prop} (hg : o.guard = none) (len : Nat) (parts : Array (Nat × Operand)) (ho : o.op = .buildSlice 44 len parts)
    (xs : List (Array Value)) (hnv : ∀ x ∈ xs, NV x) (hl : xs.length = len) (hpos : 0 < len) (hsmall : len ≤ 1000)
    (hp : (parts.map fun (i, x) => (i, a.eval x)).toList = ((xs.map Value.agg).zipIdx 0).map fun x => (x.2, x.1))
    (h : ∀ w', Hid (w' = w.alloc (.cells (flat xs).toArray 46)) → wpList Try.prog ops Q rest (a.put o.dst (.slice (some ⟨w.heap.size, 0, none⟩) len len)) w') : wpList Try.prog ops Q (o :: rest) a w := by
  obtain ⟨ie, hie, hsz⟩ : ∃ ie, Try.prog.info? 46 = some ie ∧ ie.size = 259 := by
    have := size_node
    cases hq : Try.prog.info? 46 with
    | none => rw [hq] at this; simp at this
    | some ie => rw [hq] at this; exact ⟨ie, rfl, by simpa using this⟩
  obtain ⟨z, hz⟩ : ∃ z, ie.zero = some z := by
    have h0 : ((Try.prog.info? 46).bind (·.zero)).isSome = true := by kernel_rfl
    rw [hie] at h0
    exact Option.isSome_iff_exists.1 h0
  have hfill := Great.fill_whole (s := 259) (by omega) (xs.map Value.agg) ((Array.range (len * 259)).map (z.cells[· % z.cells.size]!)) (fun v hv => by
    obtain ⟨x, hx, rfl⟩ := List.mem_map.1 hv
    exact (hnv x hx).size) (by simp [hl])
  refine wpList_buildSlice hg 44 46 len parts ho _ ie z Try.underlying44 hie hz (by rw [hsz]; omega) (by rw [hsz]; omega) (by rw [hp, hsz]; exact hfill) ?_
  refine h _ (Lib.hid ?_)
  congr 2
  unfold flat
  rw [List.flatMap_map]
  rfl
mutual
/-- A factor's node. -/
def RnU (S : Nat → Prop) (W : World) : U → Array Value → Prop
  | .byte c, x => x = nodeC 1 (fun y => y == c) true nilS
  | .cls f, x => x = nodeC 1 f false nilS
  | .grp a, x => ∃ sv xs, x = nodeC 3 noF false sv ∧ RRow S W sv xs ∧ RnA S W a xs
  | .star u, x => ∃ sv y, x = nodeC 4 noF false sv ∧ RRow S W sv [y] ∧ RnU S W u y
  | .plus u, x => ∃ sv y, x = nodeC 5 noF false sv ∧ RRow S W sv [y] ∧ RnU S W u y
  | .opt u, x => ∃ sv y, x = nodeC 3 noF false sv ∧ RRow S W sv [nodeC 2 noF false nilS, y] ∧ RnU S W u y
/-- The nodes of alternatives. -/
def RnA (S : Nat → Prop) (W : World) : As → List (Array Value) → Prop
  | .one s, xs => ∃ x sv ys, xs = [x] ∧ x = nodeC 2 noF false sv ∧ RRow S W sv ys ∧ RnS S W s ys
  | .more s a, xs => ∃ x zs sv ys, xs = x :: zs ∧ x = nodeC 2 noF false sv ∧ RRow S W sv ys ∧ RnS S W s ys ∧ RnA S W a zs
/-- The nodes of a sequence's factors. -/
def RnS (S : Nat → Prop) (W : World) : Ss → List (Array Value) → Prop
  | .nil, xs => xs = []
  | .cons u s, xs => ∃ x ys, xs = x :: ys ∧ RnU S W u x ∧ RnS S W s ys
end
mutual
theorem RnU.same {S S' : Nat → Prop} {W W' : World} (hs : Same S W W') (hc : ∀ k, S k → S' k) : ∀ (u : U) (x : Array Value), RnU S W u x → RnU S' W' u x
  | .byte c, x, h => by unfold RnU at h ⊢; exact h
  | .cls f, x, h => by unfold RnU at h ⊢; exact h
  | .grp a, x, h => by
    unfold RnU at h ⊢
    obtain ⟨sv, xs, h1, h2, h3⟩ := h
    exact ⟨sv, xs, h1, h2.same hs hc, RnA.same hs hc a xs h3⟩
  | .star u, x, h => by
    unfold RnU at h ⊢
    obtain ⟨sv, y, h1, h2, h3⟩ := h
    exact ⟨sv, y, h1, h2.same hs hc, RnU.same hs hc u y h3⟩
  | .plus u, x, h => by
    unfold RnU at h ⊢
    obtain ⟨sv, y, h1, h2, h3⟩ := h
    exact ⟨sv, y, h1, h2.same hs hc, RnU.same hs hc u y h3⟩
  | .opt u, x, h => by
    unfold RnU at h ⊢
    obtain ⟨sv, y, h1, h2, h3⟩ := h
    exact ⟨sv, y, h1, h2.same hs hc, RnU.same hs hc u y h3⟩
theorem RnA.same {S S' : Nat → Prop} {W W' : World} (hs : Same S W W') (hc : ∀ k, S k → S' k) : ∀ (a : As) (xs : List (Array Value)), RnA S W a xs → RnA S' W' a xs
  | .one s, xs, h => by
    unfold RnA at h ⊢
    obtain ⟨x, sv, ys, h1, h2, h3, h4⟩ := h
    exact ⟨x, sv, ys, h1, h2, h3.same hs hc, RnS.same hs hc s ys h4⟩
  | .more s a, xs, h => by
    unfold RnA at h ⊢
    obtain ⟨x, zs, sv, ys, h1, h2, h3, h4, h5⟩ := h
    exact ⟨x, zs, sv, ys, h1, h2, h3.same hs hc, RnS.same hs hc s ys h4, RnA.same hs hc a zs h5⟩
theorem RnS.same {S S' : Nat → Prop} {W W' : World} (hs : Same S W W') (hc : ∀ k, S k → S' k) : ∀ (s : Ss) (xs : List (Array Value)), RnS S W s xs → RnS S' W' s xs
  | .nil, xs, h => by unfold RnS at h ⊢; exact h
  | .cons u s, xs, h => by
    unfold RnS at h ⊢
    obtain ⟨x, ys, h1, h2, h3⟩ := h
    exact ⟨x, ys, h1, RnU.same hs hc u x h2, RnS.same hs hc s ys h3⟩
end
theorem RnU.nv {S : Nat → Prop} {W : World} : ∀ (u : U) (x : Array Value), RnU S W u x → NV x
  | .byte c, x, h => by unfold RnU at h; subst h; exact .node _ _ _ _ rfl
  | .cls f, x, h => by unfold RnU at h; subst h; exact .node _ _ _ _ rfl
  | .grp a, x, h => by
    unfold RnU at h
    obtain ⟨sv, xs, rfl, h2, _⟩ := h
    exact .node _ _ _ _ h2.one
  | .star u, x, h => by
    unfold RnU at h
    obtain ⟨sv, xs, rfl, h2, _⟩ := h
    exact .node _ _ _ _ h2.one
  | .plus u, x, h => by
    unfold RnU at h
    obtain ⟨sv, xs, rfl, h2, _⟩ := h
    exact .node _ _ _ _ h2.one
  | .opt u, x, h => by
    unfold RnU at h
    obtain ⟨sv, xs, rfl, h2, _⟩ := h
    exact .node _ _ _ _ h2.one
/-- What a reader of a factor hands back: a node, an index, whether there is one. -/
def RUPost (s : ByteArray) (W : World) (res : Option (U × List UInt8)) (e : Ending) (w' : World) : Prop :=
  Below W.heap.size W w' ∧ match res with
  | none => ∃ x j, NV x ∧ e = .returned (.tuple #[.agg x, .int .i64 j, .bool false])
  | some (u, l') => ∃ (x : Array Value) (j : Nat), RnU (Fresh W w') w' u x ∧ (j + l'.length = s.size ∧ (bs s).drop j = l') ∧ e = .returned (.tuple #[.agg x, .int .i64 j, .bool true])
theorem RUPost.no {s : ByteArray} {W w' : World} {res : Option (U × List UInt8)} (x : Array Value) (j : Int) (hr : res = none) (hb : Below W.heap.size W w') (hx : NV x) : RUPost s W res (.returned (.tuple #[.agg x, .int .i64 j, .bool false])) w' := by
  subst hr; exact ⟨hb, x, j, hx, rfl⟩
theorem RUPost.yes {s : ByteArray} {W w' : World} {res : Option (U × List UInt8)} {u : U} {l' : List UInt8} (x : Array Value) (j : Nat) (hr : res = some (u, l')) (hb : Below W.heap.size W w') (hx : RnU (Fresh W w') w' u x) (hj : j + l'.length = s.size ∧ (bs s).drop j = l') : RUPost s W res (.returned (.tuple #[.agg x, .int .i64 j, .bool true])) w' := by
  subst hr; exact ⟨hb, x, j, hx, hj, rfl⟩
end Go.Proofs.Ytheblleadjbndaa

namespace Go.Proofs.Ytheblleadjbndaa
open Go.RowKit Rx
/-! ### The cells of a state -/
def stateC (r : Bool) (f : UInt8 → Bool) (v : Value) : Array Value := #[.bool r] ++ btab f 256 ++ #[v]
theorem stateC_size (r : Bool) (f : UInt8 → Bool) (v : Value) : (stateC r f v).size = 258 := by simp [stateC, btab_size]
theorem stateC_reads (r : Bool) (f : UInt8 → Bool) (v : Value) : (stateC r f v)[0]? = some (.bool r) := by
  unfold stateC
  rw [Array.getElem?_append_left (by simp [btab_size]), Array.getElem?_append_left (by simp)]; rfl
theorem stateC_bit (r : Bool) (f : UInt8 → Bool) (v : Value) (i : Nat) (h : i < 256) : (stateC r f v)[1 + i]? = some (.bool (f (UInt8.ofNat i))) := by
  unfold stateC
  rw [Array.getElem?_append_left (by simp [btab_size]; omega), Array.getElem?_append_right (by simp)]
  have e : 1 + i - (#[Value.bool r] : Array Value).size = i := by simp
  rw [e, btab_get f 256 i h, if_pos h]
theorem stateC_next (r : Bool) (f : UInt8 → Bool) (v : Value) : (stateC r f v)[257]? = some v := by
  unfold stateC
  rw [Array.getElem?_append_right (by simp [btab_size])]
  simp [btab_size]
theorem stateC_ext {a : Array Value} {r : Bool} {f : UInt8 → Bool} {v : Value} (hs : a.size = 258) (h0 : a[0]? = some (.bool r)) (h1 : ∀ i, i < 256 → a[1 + i]? = some (.bool (f (UInt8.ofNat i)))) (h2 : a[257]? = some v) : a = stateC r f v := by
  apply Array.ext_getElem?
  intro i
  by_cases e0 : i = 0
  · subst e0; rw [h0, stateC_reads]
  by_cases e1 : i < 257
  · obtain ⟨j, rfl⟩ : ∃ j, i = 1 + j := ⟨i - 1, by omega⟩
    rw [h1 j (by omega), stateC_bit _ _ _ j (by omega)]
  by_cases e2 : i = 257
  · subst e2; rw [h2, stateC_next]
  rw [Array.getElem?_eq_none (by omega), Array.getElem?_eq_none (by rw [stateC_size]; omega)]
theorem stateC_setNext (r : Bool) (f : UInt8 → Bool) (v v' : Value) : (stateC r f v).setIfInBounds 257 v' = stateC r f v' := by
  apply stateC_ext
  · rw [Array.size_setIfInBounds, stateC_size]
  · rw [getSet_ne (by omega), stateC_reads]
  · intro i hi; rw [getSet_ne (by omega), stateC_bit _ _ _ i hi]
  · exact getSet_self (by rw [stateC_size]; omega)
theorem zero_state0 : Try.zeroCells81 = #[.bool false] ++ Array.replicate 256 (.bool false) ++ #[.slice none 0 0] := by kernel_rfl
theorem zero_state : Try.zeroCells81 = stateC false noF nilS := by
  rw [zero_state0]; unfold stateC; rw [btab_no]; rfl
theorem stateC_one (r : Bool) (f : UInt8 → Bool) (v : Value) (h : v.oneCell' = true) : (stateC r f v).all (·.oneCell') = true := by
  rw [Array.all_eq_true_iff_forall_mem]
  intro x hx
  obtain ⟨i, hi⟩ := Array.getElem?_of_mem hx
  have hl : i < 258 := by
    have := (Array.getElem?_eq_some_iff.1 hi).1
    rw [stateC_size] at this; exact this
  by_cases e0 : i = 0
  · subst e0; rw [stateC_reads] at hi; injection hi with hi; subst hi; rfl
  by_cases e1 : i < 257
  · obtain ⟨j, rfl⟩ : ∃ j, i = 1 + j := ⟨i - 1, by omega⟩
    rw [stateC_bit _ _ _ j (by omega)] at hi; injection hi with hi; subst hi; rfl
  · obtain rfl : i = 257 := by omega
    rw [stateC_next] at hi; injection hi with hi; subst hi; exact h
theorem info_rstate : (Try.prog.info? 81).map (fun i => (i.zero, i.size, i.bytes)) = some (some (.agg Try.zeroCells81), 258, 288) := by kernel_rfl
theorem rinfo_int : (Try.prog.info? 3).map (fun i => (i.zero, i.size, i.bytes)) = some (some (.int .i64 0), 1, 8) := by kernel_rfl
/-- The cells that an array of a class holds, as a part of a node. -/
theorem nodeC_set (k : Int) (f : UInt8 → Bool) (s : Bool) (v : Value) (j : Nat) (u : Value) (h : (btab f 256).toList[j]? = some u) : (nodeC k f s v)[1 + j]? = some u := by
  have hj : j < 256 := by
    have := (List.getElem?_eq_some_iff.1 h).1
    rw [Array.length_toList, btab_size] at this; exact this
  rw [nodeC_bit _ _ _ _ _ hj]
  rw [Array.getElem?_toList, btab_get f 256 j hj, if_pos hj] at h
  exact h
/-! ### Rows of cells, of whatever size -/
theorem flat_lenG {n : Nat} {xs : List (Array Value)} (h : ∀ x ∈ xs, x.size = n) : (flat xs).length = xs.length * n := by
  induction xs with
  | nil => simp [flat]
  | cons x xs ih =>
    have h1 := h x (by simp)
    have h2 := ih fun y hy => h y (by simp [hy])
    unfold flat at h2 ⊢
    rw [List.flatMap_cons, List.length_append, List.length_cons, h2, Array.length_toList, h1, Nat.add_mul, Nat.one_mul, Nat.add_comm]
theorem flat_getG {n : Nat} : ∀ {xs : List (Array Value)}, (∀ x ∈ xs, x.size = n) → ∀ (i j : Nat) (x : Array Value), xs[i]? = some x → j < n → (flat xs)[i * n + j]? = x[j]?
  | [], _, i, j, x, hx, _ => by simp at hx
  | y :: xs, h, 0, j, x, hx, hj => by
    simp at hx
    subst hx
    unfold flat
    rw [List.flatMap_cons, Nat.zero_mul, Nat.zero_add, List.getElem?_append_left (by rw [Array.length_toList, h y (by simp)]; exact hj)]
    simp
  | y :: xs, h, i + 1, j, x, hx, hj => by
    have hs := h y (by simp)
    have ih := flat_getG (xs := xs) (fun z hz => h z (by simp [hz])) i j x (by simpa using hx) hj
    unfold flat at ih ⊢
    have e : (i + 1) * n + j = n + (i * n + j) := by rw [Nat.add_mul, Nat.one_mul]; omega
    rw [List.flatMap_cons, e, List.getElem?_append_right (by rw [Array.length_toList, hs]; omega), Array.length_toList, hs, Nat.add_sub_cancel_left]
    exact ih
theorem flat_setG {n : Nat} : ∀ {xs : List (Array Value)}, (∀ x ∈ xs, x.size = n) → ∀ (i j : Nat) (x : Array Value) (v : Value), xs[i]? = some x → j < n → (flat xs).set (i * n + j) v = flat (xs.set i (x.setIfInBounds j v))
  | [], _, i, j, x, v, hx, _ => by simp at hx
  | y :: xs, h, 0, j, x, v, hx, hj => by
    simp at hx
    subst hx
    unfold flat
    rw [List.flatMap_cons, Nat.zero_mul, Nat.zero_add, List.set_append_left _ _ (by rw [Array.length_toList, h y (by simp)]; exact hj)]
    simp
  | y :: xs, h, i + 1, j, x, v, hx, hj => by
    have hs := h y (by simp)
    have ih := flat_setG (xs := xs) (fun z hz => h z (by simp [hz])) i j x v (by simpa using hx) hj
    unfold flat at ih ⊢
    have e : (i + 1) * n + j = n + (i * n + j) := by rw [Nat.add_mul, Nat.one_mul]; omega
    rw [List.flatMap_cons, e, List.set_append_right _ _ (by rw [Array.length_toList, hs]; omega), Array.length_toList, hs, Nat.add_sub_cancel_left, ih]
    simp
/-! ### Machines -/
def rintV (q : Nat) : Value := .int .i64 q
/-- A slice of indices. -/
structure IRow (S : Nat → Prop) (W : World) (sv : Value) (qs : List Nat) : Prop where
  row : W.ownsRow 0 3 1 sv qs.length (qs.map rintV)
  own : ∀ g, sv.ownBlock = some g → S g
theorem IRow.same {S S' : Nat → Prop} {W W' : World} {sv : Value} {qs : List Nat} (h : IRow S W sv qs) (hs : Same S W W') (hc : ∀ k, S k → S' k) : IRow S' W' sv qs :=
  ⟨owns_same h.row h.own hs, fun g hg => hc g (h.own g hg)⟩
theorem IRow.one {S : Nat → Prop} {W : World} {sv : Value} {qs : List Nat} (h : IRow S W sv qs) : sv.oneCell' = true := by
  rcases h.row.2 with ⟨rfl, _⟩ | ⟨g, cap, cur, rfl, _⟩ <;> rfl
theorem IRow.nil (S : Nat → Prop) (W : World) : IRow S W nilS [] := ⟨World.ownsRow_nil _ _ _ _, fun g h => (by cases h)⟩
/-- A state's cells. -/
def SC (S : Nat → Prop) (W : World) : St → Array Value → Prop
  | .rd f q, x => ∃ sv, x = stateC true f sv ∧ IRow S W sv [q]
  | .ep qs, x => ∃ sv, x = stateC false noF sv ∧ IRow S W sv qs
theorem SC.same {S S' : Nat → Prop} {W W' : World} (hs : Same S W W') (hc : ∀ k, S k → S' k) : ∀ {s : St} {x : Array Value}, SC S W s x → SC S' W' s x
  | .rd _ _, _, ⟨sv, h1, h2⟩ => ⟨sv, h1, h2.same hs hc⟩
  | .ep _, _, ⟨sv, h1, h2⟩ => ⟨sv, h1, h2.same hs hc⟩
/-- Cells of a state, whatever they hold. -/
structure SV (x : Array Value) : Prop where
  size : x.size = 258
  one : x.all (·.oneCell') = true
theorem SC.sv {S : Nat → Prop} {W : World} : ∀ {s : St} {x : Array Value}, SC S W s x → SV x
  | .rd _ _, _, ⟨sv, h1, h2⟩ => by subst h1; exact ⟨stateC_size _ _ _, stateC_one _ _ _ h2.one⟩
  | .ep _, _, ⟨sv, h1, h2⟩ => by subst h1; exact ⟨stateC_size _ _ _, stateC_one _ _ _ h2.one⟩
/-- The blocks of a machine but its own row's: from B on. -/
def MB (B : Nat) (X : Nat → Prop) (W : World) (mv : Value) (k : Nat) : Prop := B ≤ k ∧ k < W.heap.size ∧ mv.ownBlock ≠ some k ∧ ¬ X k
/-- A machine in memory, in blocks from B on, none of them in X. -/
structure RM (W : World) (B : Nat) (X : Nat → Prop) (mv : Value) (M : List St) (xs : List (Array Value)) : Prop where
  row : W.ownsRow 0 81 258 mv xs.length (flat xs)
  len : xs.length = M.length
  own : ∀ g, mv.ownBlock = some g → B ≤ g ∧ g < W.heap.size
  nx : ∀ g, mv.ownBlock = some g → ¬ X g
  st : ∀ (i : Nat) (s : St) (x : Array Value), M[i]? = some s → xs[i]? = some x → SC (MB B X W mv) W s x
theorem RM.sv {W : World} {B : Nat} {X : Nat → Prop} {mv : Value} {M : List St} {xs : List (Array Value)} (h : RM W B X mv M xs) : ∀ x ∈ xs, SV x := fun x hx => by
  obtain ⟨i, hi⟩ := List.mem_iff_getElem?.1 hx
  have hl : i < M.length := by rw [← h.len]; exact (List.getElem?_eq_some_iff.1 hi).1
  exact (h.st i _ x (List.getElem?_eq_getElem hl) hi).sv
/-- What a call does to memory: the row of v may grow, blocks are added; nothing else. -/
structure Grew (W w' : World) (v v' : Value) : Prop where
  by_ : W.grownBy w' v.ownBlock
  own : v'.ownBlock = v.ownBlock ∨ ∃ g, v'.ownBlock = some g ∧ W.heap.size ≤ g
theorem Grew.refl (W : World) (v : Value) : Grew W W v v := ⟨⟨rfl, rfl, rfl, Nat.le_refl _, fun _ _ _ => rfl⟩, .inl rfl⟩
theorem Grew.trans {W w1 w2 : World} {v v1 v2 : Value} (h : Grew W w1 v v1) (k : Grew w1 w2 v1 v2) : Grew W w2 v v2 := by
  refine ⟨⟨k.by_.os.trans h.by_.os, k.by_.tape.trans h.by_.tape, k.by_.output.trans h.by_.output, Nat.le_trans h.by_.size k.by_.size, fun i hi hne => ?_⟩, ?_⟩
  · rw [k.by_.block i (Nat.lt_of_lt_of_le hi h.by_.size) (fun e => by
      rcases h.own with h1 | ⟨g, h1, h2⟩
      · rw [h1] at e; exact hne e
      · rw [h1] at e; injection e with e; omega)]
    exact h.by_.block i hi hne
  · rcases k.own with k1 | ⟨g, k1, k2⟩
    · rw [k1]; exact h.own
    · exact .inr ⟨g, k1, Nat.le_trans h.by_.size k2⟩
theorem Grew.below {W w1 w2 : World} {v v1 : Value} (h : Grew W w1 v v1) (hb : Below w1.heap.size w1 w2) : Grew W w2 v v1 :=
  h.trans ⟨⟨hb.os, hb.tape, hb.output, hb.size, fun i hi _ => hb.block i hi⟩, .inl rfl⟩
theorem Grew.ofBelow {W w1 : World} {v : Value} (hb : Below W.heap.size W w1) : Grew W w1 v v := (Grew.refl W v).below hb
theorem At.grew {W w' : World} {v v' : Value} {b : Nat} {c : Array Value} {t : TypeId} (h : At W b c t) (hg : Grew W w' v v') (hne : v.ownBlock ≠ some b) : At w' b c t := h.grown hg.by_ hne
theorem Grew.toBelow {W w' : World} {v v' : Value} {B : Nat} (hg : Grew W w' v v') (hB : B ≤ W.heap.size) (ho : ∀ g, v.ownBlock = some g → B ≤ g) : Below B W w' :=
  ⟨hg.by_.os, hg.by_.tape, hg.by_.output, hg.by_.size, fun k hk => hg.by_.block k (by omega) (fun e => by have := ho k e.symm; omega)⟩
theorem RM.keep {W w1 : World} {B : Nat} {X : Nat → Prop} {mv : Value} {M : List St} {xs : List (Array Value)} (h : RM W B X mv M xs) (hb : Below W.heap.size W w1) : RM w1 B X mv M xs :=
  ⟨owns_same h.row (S := fun k => k < W.heap.size) (fun g hg => (h.own g hg).2) (fun k hk => hb.block k hk), h.len, fun g hg => ⟨(h.own g hg).1, Nat.lt_of_lt_of_le (h.own g hg).2 hb.size⟩, h.nx,
    fun i s x h1 h2 => (h.st i s x h1 h2).same (fun k hk => hb.block k hk.2.1) (fun _ hk => ⟨hk.1, Nat.lt_of_lt_of_le hk.2.1 hb.size, hk.2.2⟩)⟩
/-- A state joins, its blocks wherever they lie. -/
theorem RM.pushAny {S : Nat → Prop} {W wm w3 : World} {B : Nat} {X : Nat → Prop} {mv mv' : Value} {M : List St} {xs : List (Array Value)} {s : St} {x : Array Value} (h : RM W B X mv M xs) (hb : Below W.heap.size W wm) (hB : B ≤ W.heap.size) (hX : ∀ k, X k → k < W.heap.size)
    (hs : SC S wm s x) (hS : ∀ k, S k → MB B X wm mv k)
    (hown : w3.ownsRow 0 81 258 mv' (xs.length + 1) (flat xs ++ x.toList)) (hgrow : wm.grownBy w3 mv.ownBlock) (hwh : mv'.ownBlock = mv.ownBlock ∨ ∃ g, mv'.ownBlock = some g ∧ wm.heap.size ≤ g ∧ g < w3.heap.size) :
    RM w3 B X mv' (M ++ [s]) (xs ++ [x]) ∧ Grew W w3 mv mv' := by
  have hm := h.keep hb
  have hsz3 : wm.heap.size ≤ w3.heap.size := hgrow.size
  have hne : ∀ k, k < wm.heap.size → mv.ownBlock ≠ some k → mv'.ownBlock ≠ some k := fun k hk h1 e => by
    rcases hwh with h2 | ⟨g, h2, h3, _⟩
    · rw [h2] at e; exact h1 e
    · rw [h2] at e; injection e with e; omega
  refine ⟨⟨?_, by simp [h.len], ?_, ?_, ?_⟩, ⟨hb.os ▸ hgrow.os ▸ ?_, ?_, ?_, ?_, ?_⟩, ?_⟩
  · rw [flat_snoc, List.length_append]; exact hown
  · intro g hg
    rcases hwh with h1 | ⟨g', h1, h2, h3⟩
    · rw [h1] at hg
      have := hm.own g hg
      exact ⟨this.1, by omega⟩
    · rw [h1] at hg
      injection hg with hg
      have := hb.size
      exact ⟨by omega, by omega⟩
  · intro g hg hx
    rcases hwh with h1 | ⟨g', h1, h2, h3⟩
    · rw [h1] at hg
      exact h.nx g hg hx
    · rw [h1] at hg
      injection hg with hg
      have := hb.size
      have := hX g hx
      omega
  · intro i t y hi hy
    by_cases hl : i < M.length
    · rw [List.getElem?_append_left hl] at hi
      rw [List.getElem?_append_left (by rw [h.len]; exact hl)] at hy
      refine (hm.st i t y hi hy).same (fun k hk => hgrow.block k hk.2.1 (fun e => hk.2.2.1 e.symm)) (fun k hk => ⟨hk.1, by have := hk.2.1; omega, hne k hk.2.1 hk.2.2.1, hk.2.2.2⟩)
    · have hil : i = M.length := by
        have := (List.getElem?_eq_some_iff.1 hi).1
        simp at this; omega
      subst hil
      simp at hi
      rw [← h.len] at hy
      simp at hy
      subst hi hy
      exact hs.same (fun k hk => hgrow.block k (hS k hk).2.1 (fun e => (hS k hk).2.2.1 e.symm)) (fun k hk => ⟨(hS k hk).1, by have := (hS k hk).2.1; omega, hne k (hS k hk).2.1 (hS k hk).2.2.1, (hS k hk).2.2.2⟩)
  · rfl
  · exact hgrow.tape.trans hb.tape
  · exact hgrow.output.trans hb.output
  · exact Nat.le_trans hb.size hsz3
  · exact fun k hk hn => (hgrow.block k (Nat.lt_of_lt_of_le hk hb.size) hn).trans (hb.block k hk)
  · rcases hwh with h1 | ⟨g, h1, h2, _⟩
    · exact .inl h1
    · exact .inr ⟨g, h1, Nat.le_trans hb.size h2⟩
/-- A state joins. -/
theorem RM.push {W wm w3 : World} {B : Nat} {X : Nat → Prop} {mv mv' : Value} {M : List St} {xs : List (Array Value)} {s : St} {x : Array Value} (h : RM W B X mv M xs) (hb : Below W.heap.size W wm) (hB : B ≤ W.heap.size) (hX : ∀ k, X k → k < W.heap.size)
    (hs : SC (fun k => W.heap.size ≤ k ∧ k < wm.heap.size) wm s x)
    (hown : w3.ownsRow 0 81 258 mv' (xs.length + 1) (flat xs ++ x.toList)) (hgrow : wm.grownBy w3 mv.ownBlock) (hwh : mv'.ownBlock = mv.ownBlock ∨ ∃ g, mv'.ownBlock = some g ∧ wm.heap.size ≤ g ∧ g < w3.heap.size) :
    RM w3 B X mv' (M ++ [s]) (xs ++ [x]) ∧ Grew W w3 mv mv' :=
  h.pushAny hb hB hX hs (fun k hk => ⟨by have := hk.1; omega, hk.2, fun e => by have := (h.own k e).2; have := hk.1; omega, fun hx => by have := hX k hx; have := hk.1; omega⟩) hown hgrow hwh
theorem RM.excl {W : World} {B : Nat} {X : Nat → Prop} {mv : Value} {M : List St} {xs : List (Array Value)} (h : RM W B X mv M xs) (v : Value) (hv : ∀ k, v.ownBlock = some k → W.heap.size ≤ k) : RM W B (fun k => X k ∨ v.ownBlock = some k) mv M xs :=
  ⟨h.row, h.len, h.own, fun g hg hy => by
    rcases hy with hy | hy
    · exact h.nx g hg hy
    · have := hv g hy; have := (h.own g hg).2; omega, fun i s x h1 h2 => (h.st i s x h1 h2).same (fun _ _ => rfl) (fun k hk => ⟨hk.1, hk.2.1, hk.2.2.1, fun hy => by
    rcases hy with hy | hy
    · exact hk.2.2.2 hy
    · have := hv k hy; have := hk.2.1; omega⟩)⟩
theorem RM.weak {W : World} {B : Nat} {X Y : Nat → Prop} {mv : Value} {M : List St} {xs : List (Array Value)} (h : RM W B X mv M xs) (hs : ∀ k, Y k → X k) : RM W B Y mv M xs :=
  ⟨h.row, h.len, h.own, fun g hg hy => h.nx g hg (hs g hy), fun i s x h1 h2 => (h.st i s x h1 h2).same (fun _ _ => rfl) (fun k hk => ⟨hk.1, hk.2.1, hk.2.2.1, fun hy => hk.2.2.2 (hs k hy)⟩)⟩
/-- Another row grows. -/
theorem RM.other {W w3 : World} {B : Nat} {X : Nat → Prop} {mv v v' : Value} {M : List St} {xs : List (Array Value)} (h : RM W B (fun k => X k ∨ v.ownBlock = some k) mv M xs) (hg : W.grownBy w3 v.ownBlock) (hw : v'.ownBlock = v.ownBlock ∨ ∃ g, v'.ownBlock = some g ∧ W.heap.size ≤ g) : RM w3 B (fun k => X k ∨ v'.ownBlock = some k) mv M xs := by
  have hx : ∀ k, k < W.heap.size → ¬ (X k ∨ v.ownBlock = some k) → ¬ (X k ∨ v'.ownBlock = some k) := fun k hk hn e => by
    rcases e with e | e
    · exact hn (.inl e)
    · rcases hw with h1 | ⟨g, h1, h2⟩
      · rw [h1] at e; exact hn (.inr e)
      · rw [h1] at e; injection e with e; omega
  have hne : ∀ k, ¬ (X k ∨ v.ownBlock = some k) → some k ≠ v.ownBlock := fun k hn e => hn (.inr e.symm)
  refine ⟨owns_same h.row (S := fun k => mv.ownBlock = some k) (fun g hg => hg) (fun k hk => hg.block k (h.own k hk).2 (hne k (h.nx k hk))), h.len, fun g hg' => ⟨(h.own g hg').1, Nat.lt_of_lt_of_le (h.own g hg').2 hg.size⟩, fun g hg' => hx g (h.own g hg').2 (h.nx g hg'), fun i s x h1 h2 => ?_⟩
  exact (h.st i s x h1 h2).same (fun k hk => hg.block k hk.2.1 (hne k hk.2.2.2)) (fun k hk => ⟨hk.1, Nat.lt_of_lt_of_le hk.2.1 hg.size, hk.2.2.1, hx k hk.2.1 hk.2.2.2⟩)
theorem Grew.row {W w2 wm w3 : World} {v v2 : Value} {r : Option Nat} (h : Grew W w2 v v2) (hb : Below w2.heap.size w2 wm) (hg : wm.grownBy w3 r) (hr : ∀ g, r = some g → W.heap.size ≤ g) : Grew W w3 v v2 := by
  have h1 := h.below hb
  refine ⟨⟨hg.os.trans h1.by_.os, hg.tape.trans h1.by_.tape, hg.output.trans h1.by_.output, Nat.le_trans h1.by_.size hg.size, fun k hk hn => ?_⟩, h.own⟩
  rw [hg.block k (Nat.lt_of_lt_of_le hk h1.by_.size) (fun e => by have := hr k e.symm; omega)]
  exact h1.by_.block k hk hn
/-- A state's next ones are laid. -/
theorem RM.setNext {W wm : World} {B g cap : Nat} {X : Nat → Prop} {M : List St} {xs : List (Array Value)} {i : Nat} {qs : List Nat} {v sv : Value} (h : RM W B X (.slice (some ⟨g, 0, none⟩) xs.length cap) M xs) (hb : Below W.heap.size W wm) (hX : ∀ k, X k → k < W.heap.size)
    (hx : xs[i]? = some (stateC false noF v)) (hs : IRow (fun k => W.heap.size ≤ k ∧ k < wm.heap.size) wm sv qs) :
    RM (wm.setCell ⟨g, i * 258 + 257, none⟩ sv) B X (.slice (some ⟨g, 0, none⟩) xs.length cap) (M.set i (.ep qs)) (xs.set i (stateC false noF sv)) ∧ Grew W (wm.setCell ⟨g, i * 258 + 257, none⟩ sv) (.slice (some ⟨g, 0, none⟩) xs.length cap) (.slice (some ⟨g, 0, none⟩) xs.length cap) := by
  have hm := h.keep hb
  have hsv : ∀ x ∈ xs, x.size = 258 := fun x hx => (h.sv x hx).size
  have hi : i < xs.length := (List.getElem?_eq_some_iff.1 hx).1
  have hgo := h.own g rfl
  have hset := flat_setG hsv i 257 _ sv hx (by omega)
  rw [stateC_setNext] at hset
  have hst := hm.row.stored (i * 258 + 257) sv
  rw [hset] at hst
  have hblk : ∀ k, k ≠ g → (wm.setCell ⟨g, i * 258 + 257, none⟩ sv).heap[k]? = wm.heap[k]? := fun k hk => Below.heap_setCell wm ⟨g, i * 258 + 257, none⟩ sv k hk
  have hsz : (wm.setCell ⟨g, i * 258 + 257, none⟩ sv).heap.size = wm.heap.size := by simp
  refine ⟨⟨by rw [List.length_set]; exact hst.1, by simp [h.len], fun g' hg' => ?_, h.nx, ?_⟩, ⟨hb.os, hb.tape, hb.output, by rw [hsz]; exact hb.size, fun k hk hn => ?_⟩, .inl rfl⟩
  · injection hg' with hg'
    subst hg'
    exact ⟨hgo.1, by rw [hsz]; exact (hm.own g rfl).2⟩
  · intro j t y hj hy
    by_cases e : i = j
    · subst e
      have hil : i < M.length := by rw [← h.len]; exact hi
      rw [List.getElem?_set_self hil] at hj
      rw [List.getElem?_set_self hi] at hy
      injection hj with hj
      injection hy with hy
      subst hj hy
      refine ⟨sv, rfl, hs.same (fun k hk => hblk k (by have := hk.1; omega)) (fun k hk => ⟨by have := hk.1; omega, by rw [hsz]; exact hk.2, fun e => ?_, fun hx => by have := hX k hx; have := hk.1; omega⟩)⟩
      injection e with e
      have e2 : g = k := e
      have := hk.1
      omega
    · rw [List.getElem?_set_ne e] at hj hy
      refine (hm.st j t y hj hy).same (fun k hk => hblk k (fun e => hk.2.2.1 (by rw [e]; rfl))) (fun k hk => ⟨hk.1, by rw [hsz]; exact hk.2.1, hk.2.2⟩)
  · rw [hblk k (fun e => hn (by rw [e]; rfl))]
    exact hb.block k hk
/-! ### Laws for literals of states -/
theorem wpList_load_arr {P : Program} {ops : Array Oper} {rest : List Oper} {o : Oper} {a : Act} {w : World} {Q : Exit → Act → World → Prop} (hgd : o.guard = none) (ty : TypeId) (x : Operand) (ho : o.op = .load ty x)
    (g off : Nat) (hx : a.eval x = .pointer (some ⟨g, off, none⟩)) (cs : Array Value) (d : TypeDesc) (hc : ∀ j v, cs.toList[j]? = some v → w.cell? ⟨g, off + j, none⟩ = some v)
    (hu : P.underlying ty = some d) (hd : (match d with | .struct _ | .array _ _ => true | _ => false) = true) (hi : (P.info? ty).map (·.size) = some cs.size)
    (h : wpList P ops Q rest (a.put o.dst (.agg cs)) w) : wpList P ops Q (o :: rest) a w :=
  wpList_load_part hgd ty x ho g off hx cs.toList d hc hu hd (by rw [Array.length_toList]; exact hi) (by rw [Array.toArray_toList]; exact h)
theorem info_size (t : TypeId) (z : Value) (n b : Nat) (h : (Try.prog.info? t).map (fun i => (i.zero, i.size, i.bytes)) = some (some z, n, b)) : ∃ ie, Try.prog.info? t = some ie ∧ ie.zero = some z ∧ ie.size = n := by
  cases hq : Try.prog.info? t with
  | none => rw [hq] at h; simp at h
  | some ie =>
    rw [hq] at h
    simp at h
    exact ⟨ie, rfl, h.1, h.2.1⟩
/-- A slice literal of one state. -/
theorem wpList_state {ops : Array Oper} {rest : List Oper} {o : Oper} {a : Act} {w : World} {Q : Exit → Act → World → Prop} (hg : o.guard = none) (parts : Array (Nat × Operand)) (ho : o.op = .buildSlice 77 1 parts)
    (x : Array Value) (hnv : SV x) (hp : (parts.map fun (i, x) => (i, a.eval x)).toList = [(0, Value.agg x)])
    (h : ∀ w', Hid (w' = w.alloc (.cells (flat [x]).toArray 81)) → wpList Try.prog ops Q rest (a.put o.dst (.slice (some ⟨w.heap.size, 0, none⟩) 1 1)) w') : wpList Try.prog ops Q (o :: rest) a w := by
  obtain ⟨ie, hie, hz, hsz⟩ := info_size _ _ _ _ info_rstate
  have hfill := Great.fill_whole (s := 258) (by omega) [Value.agg x] ((Array.range (1 * 258)).map ((Value.agg Try.zeroCells81).cells[· % (Value.agg Try.zeroCells81).cells.size]!)) (fun v hv => by
    rw [List.mem_singleton] at hv
    subst hv
    exact hnv.size) (by simp)
  refine wpList_buildSlice hg 77 81 1 parts ho _ ie _ Try.underlying77 hie hz (by rw [hsz]; omega) (by rw [hsz]; omega) (by rw [hp, hsz]; exact hfill) ?_
  refine h _ (Lib.hid ?_)
  congr 2
/-- Cells laid over others. -/
def putAt (cs : Array Value) (off : Nat) (v : Array Value) : Array Value := v.zipIdx.foldl (fun cs (x : Value × Nat) => cs.setIfInBounds (off + x.2) x.1) cs
theorem putAt_get (cs : Array Value) (off : Nat) (v : Array Value) : (putAt cs off v).size = cs.size ∧ ∀ k : Nat, (putAt cs off v)[k]? = if off ≤ k ∧ k < off + v.size ∧ k < cs.size then v[k - off]? else cs[k]? := by
  have h := Great.foldl_set off v.toList 0 cs
  have e : putAt cs off v = (v.toList.zipIdx 0).foldl (fun cs (x : Value × Nat) => cs.setIfInBounds (off + x.2) x.1) cs := by
    unfold putAt
    rw [← Array.foldl_toList, Array.toList_zipIdx]
  rw [e]
  refine ⟨h.1, fun k => ?_⟩
  rw [h.2 k]
  simp
theorem fill_step {place : Nat → Option (Nat × Nat)} {cells : Array Value} {v : Value} {i off size : Nat} {rest : List (Nat × Value)} (hp : place i = some (off, size)) (h1 : v.cells.size = size) (h2 : off + size ≤ cells.size) :
    Instr.fill place cells ((i, v) :: rest) = Instr.fill place (putAt cells off v.cells) rest := by
  rw [Instr.fill, hp]
  simp only
  rw [if_neg (by simp [h1]; omega)]
  rfl
theorem state_places (fs : Array Field) (h : Try.prog.underlying 81 = some (.struct fs)) : fs.toList.mapM (fun f => (Try.prog.info? f.type).map fun i => (f.offset, i.size)) = some [(0, 1), (1, 256), (257, 1)] := by
  rw [Try.underlying81] at h
  injection h with h
  injection h with h
  subst h
  kernel_rfl
theorem state_built (r : Bool) (f : UInt8 → Bool) (v : Value) (hv : v.cells = #[v]) : Try.prog.built 81 [(0, .bool r), (1, .agg (btab f 256)), (2, v)] = some (stateC r f v) := by
  obtain ⟨ie, hie, hz, hsz⟩ := info_size _ _ _ _ info_rstate
  obtain ⟨fs, hfs⟩ : ∃ fs, Try.prog.underlying 81 = some (.struct fs) := ⟨_, Try.underlying81⟩
  have hpl := state_places fs hfs
  have hzs : (Value.agg Try.zeroCells81).cells.size = 258 := by show Try.zeroCells81.size = 258; rw [zero_state, stateC_size]
  unfold Program.built
  rw [hie, hfs]
  simp only [hz, hpl]
  obtain ⟨z, hzz⟩ : ∃ z, (Value.agg Try.zeroCells81).cells = z := ⟨_, rfl⟩
  rw [hzz] at hzs ⊢
  have p1 := putAt_get z 0 (Value.bool r).cells
  have p2 := putAt_get (putAt z 0 (Value.bool r).cells) 1 (Value.agg (btab f 256)).cells
  have p3 := putAt_get (putAt (putAt z 0 (Value.bool r).cells) 1 (Value.agg (btab f 256)).cells) 257 v.cells
  have s1 : (Value.bool r).cells.size = 1 := rfl
  have s2 : (Value.agg (btab f 256)).cells.size = 256 := btab_size f 256
  have s3 : v.cells.size = 1 := by rw [hv]; rfl
  rw [fill_step (off := 0) (size := 1) rfl s1 (by omega), fill_step (off := 1) (size := 256) rfl s2 (by rw [p1.1]; omega), fill_step (off := 257) (size := 1) rfl s3 (by rw [p2.1, p1.1]; omega)]
  rw [Instr.fill]
  congr 1
  apply stateC_ext
  · rw [p3.1, p2.1, p1.1, hzs]
  · rw [p3.2, if_neg (by omega), p2.2, if_neg (by omega), p1.2, if_pos (by rw [s1]; omega)]
    rfl
  · intro i hi
    rw [p3.2, if_neg (by omega), p2.2, if_pos (by rw [s2, p1.1]; omega)]
    show (btab f 256)[1 + i - 1]? = _
    rw [Nat.add_sub_cancel_left, btab_get f 256 i hi, if_pos hi]
  · rw [p3.2, if_pos (by rw [s3, p2.1, p1.1]; omega), hv]
    rfl
/-- A state is built. -/
theorem wpList_built {ops : Array Oper} {rest : List Oper} {o : Oper} {a : Act} {w : World} {Q : Exit → Act → World → Prop} (hg : o.guard = none) (parts : Array (Nat × Operand)) (ho : o.op = .build 81 parts)
    (r : Bool) (f : UInt8 → Bool) (v : Value) (hv : v.cells = #[v]) (hp : (parts.map fun (i, x) => (i, a.eval x)).toList = [(0, .bool r), (1, .agg (btab f 256)), (2, v)])
    (h : wpList Try.prog ops Q rest (a.put o.dst (.agg (stateC r f v))) w) : wpList Try.prog ops Q (o :: rest) a w :=
  wpList_buildTo hg 81 parts ho _ rfl _ (by rw [hp]; exact state_built r f v hv) h
end Go.Proofs.Ytheblleadjbndaa

namespace Go.Proofs.Ytheblleadjbndaa
open Go.RowKit Rx

/-- At the index i of a string lies l. -/
structure RP (s : ByteArray) (i : Nat) (l : List UInt8) : Prop where
  le : i ≤ s.size
  rest : (bs s).drop i = l
theorem RP.len {s : ByteArray} {i : Nat} {l : List UInt8} (h : RP s i l) : i + l.length = s.size := by
  have h1 := h.le
  have h2 : ((bs s).drop i).length = l.length := by rw [h.rest]
  rw [List.length_drop, bs_length] at h2
  omega
theorem RP.start (s : ByteArray) : RP s 0 (bs s) := ⟨Nat.zero_le _, rfl⟩
theorem RP.nil {s : ByteArray} {i : Nat} (h : RP s i []) : i = s.size := by
  have := h.len
  simpa using this
theorem RP.lt {s : ByteArray} {i : Nat} {c : UInt8} {r : List UInt8} (h : RP s i (c :: r)) : i < s.size := by
  have := h.len
  simp only [List.length_cons] at this
  omega
theorem RP.get {s : ByteArray} {i : Nat} {c : UInt8} {r : List UInt8} (h : RP s i (c :: r)) : s[i]'h.lt = c := by
  have h2 : (bs s)[i]'h.lt = c := by
    have := congrArg (fun l => l[0]?) h.rest
    simp only [List.getElem?_drop, List.getElem?_cons_zero, Nat.add_zero] at this
    exact Option.some.inj ((List.getElem?_eq_getElem (l := bs s) h.lt).symm.trans this)
  exact h2
theorem RP.next {s : ByteArray} {i : Nat} {c : UInt8} {r : List UInt8} (h : RP s i (c :: r)) : RP s (i + 1) r :=
  ⟨h.lt, by rw [← List.drop_drop, h.rest]; rfl⟩

theorem u8_ne {c d : UInt8} (h : c ≠ d) : ((c.toNat : Int) == (d.toNat : Int)) = false := by
  rw [beq_eq_false_iff_ne]
  intro e
  exact h (UInt8.toNat_inj.1 (by omega))

set_option maxHeartbeats 1000000 in
theorem rspecial_any (c : UInt8) (w : World) : Calls Try.prog 35 #[.int .u8 c.toNat] w fun e w' => e = .returned (.bool (special c)) ∧ w = w' := by
  rcases hs : special c with _ | _
  · have hn : ∀ d, special d = true → c ≠ d := fun d hd e => by rw [e, hd] at hs; cases hs
    have d0 : ((c.toNat : Int) == 46) = false := u8_ne (hn 46 (by decide))
    have d1 : ((c.toNat : Int) == 91) = false := u8_ne (hn 91 (by decide))
    have d2 : ((c.toNat : Int) == 93) = false := u8_ne (hn 93 (by decide))
    have d3 : ((c.toNat : Int) == 40) = false := u8_ne (hn 40 (by decide))
    have d4 : ((c.toNat : Int) == 41) = false := u8_ne (hn 41 (by decide))
    have d5 : ((c.toNat : Int) == 124) = false := u8_ne (hn 124 (by decide))
    have d6 : ((c.toNat : Int) == 42) = false := u8_ne (hn 42 (by decide))
    have d7 : ((c.toNat : Int) == 43) = false := u8_ne (hn 43 (by decide))
    have d8 : ((c.toNat : Int) == 63) = false := u8_ne (hn 63 (by decide))
    have d9 : ((c.toNat : Int) == 92) = false := u8_ne (hn 92 (by decide))
    clear hs hn
    go_enter Try.func35, Try.ntmps35
    go_wp2_with fail
    go_ret
    exact ⟨rfl, rfl⟩
  · have h2 : c = 46 ∨ c = 91 ∨ c = 93 ∨ c = 40 ∨ c = 41 ∨ c = 124 ∨ c = 42 ∨ c = 43 ∨ c = 63 ∨ c = 92 := by
      unfold special at hs
      rw [List.contains_iff_mem] at hs
      simpa using hs
    clear hs
    rcases h2 with rfl | rfl | rfl | rfl | rfl | rfl | rfl | rfl | rfl | rfl
    all_goals
      go_enter Try.func35, Try.ntmps35
      go_wp2_with fail
      go_ret
      exact ⟨rfl, rfl⟩

set_option maxHeartbeats 1000000 in
theorem ralnum_any (c : UInt8) (w : World) : Calls Try.prog 67 #[.int .u8 c.toNat] w fun e w' => e = .returned (.bool (letB c || digB c)) ∧ w = w' := by
  have h : c.toNat ≤ 47 ∨ (48 ≤ c.toNat ∧ c.toNat ≤ 57) ∨ (58 ≤ c.toNat ∧ c.toNat ≤ 64) ∨ (65 ≤ c.toNat ∧ c.toNat ≤ 90) ∨ (91 ≤ c.toNat ∧ c.toNat ≤ 96) ∨ (97 ≤ c.toNat ∧ c.toNat ≤ 122) ∨ 123 ≤ c.toNat := by omega
  have HB : Hid ((letB c || digB c) = decide ((97 ≤ c.toNat ∧ c.toNat ≤ 122) ∨ (65 ≤ c.toNat ∧ c.toNat ≤ 90) ∨ (48 ≤ c.toNat ∧ c.toNat ≤ 57))) := Lib.hid (by unfold letB digB; simp [Bool.or_assoc])
  rcases h with h | ⟨h, h2⟩ | ⟨h, h2⟩ | ⟨h, h2⟩ | ⟨h, h2⟩ | ⟨h, h2⟩ | h
  all_goals
    go_enter Try.func67, Try.ntmps67
    go_wp2_with fail
    go_ret
    exact ⟨ret_bool (by rw [HB.out]; rw [Bool.eq_iff_iff]; first | (simp; done) | (simp; omega)), rfl⟩

/-- What an escape gives. -/
def escV (d : UInt8) : Int := match escB d with
  | some b => b.toNat
  | none => d.toNat
set_option maxHeartbeats 1000000 in
theorem rescaped_any (d : UInt8) (w : World) : Calls Try.prog 66 #[.int .u8 d.toNat] w fun e w' => e = .returned (.tuple #[.int .u8 (escV d), .bool (escB d).isSome]) ∧ w = w' := by
  by_cases h1 : d = 110
  · subst h1
    go_enter Try.func66, Try.ntmps66
    go_wp2_with fail
    go_ret2
    exact ⟨rfl, rfl⟩
  by_cases h2 : d = 116
  · subst h2
    go_enter Try.func66, Try.ntmps66
    go_wp2_with fail
    go_ret2
    exact ⟨rfl, rfl⟩
  have d0 : ((d.toNat : Int) == 110) = false := u8_ne h1
  have d1 : ((d.toNat : Int) == 116) = false := u8_ne h2
  have HE : Hid (escB d = if letB d || digB d then none else some d) := Lib.hid (by unfold escB; rw [if_neg h1, if_neg h2])
  have HA := Lib.hid (ralnum_any d)
  clear h1 h2
  rcases ha : letB d || digB d with _ | _
  · have HV : Hid (escV d = d.toNat ∧ (escB d).isSome = true) := Lib.hid (by unfold escV; rw [HE.out, ha]; exact ⟨rfl, rfl⟩)
    rw [ha] at HA
    clear ha HE
    go_enter Try.func66, Try.ntmps66
    go_wp2_with fail
    refine (HA.out _).mono ?_
    rintro e w' ⟨rfl, rfl⟩
    go_wp2_with fail
    go_ret2
    exact ⟨by rw [HV.out.1, HV.out.2]; rfl, rfl⟩
  · have HV : Hid (escV d = d.toNat ∧ (escB d).isSome = false) := Lib.hid (by unfold escV; rw [HE.out, ha]; exact ⟨rfl, rfl⟩)
    rw [ha] at HA
    clear ha HE
    go_enter Try.func66, Try.ntmps66
    go_wp2_with fail
    refine (HA.out _).mono ?_
    rintro e w' ⟨rfl, rfl⟩
    go_wp2_with fail
    go_ret2
    exact ⟨by rw [HV.out.1, HV.out.2]; rfl, rfl⟩

/-- What an item gives. -/
def ItemPost (s : ByteArray) (l : List UInt8) (w : World) (e : Ending) (w' : World) : Prop :=
  w = w' ∧ match item l with
  | none => ∃ (b : UInt8) (j : Nat), j ≤ s.size ∧ e = .returned (.tuple #[.int .u8 b.toNat, .int .i64 j, .bool false])
  | some (a, r) => ∃ j, RP s j r ∧ e = .returned (.tuple #[.int .u8 a.toNat, .int .i64 (j : Nat), .bool true])
theorem ItemPost.no {s : ByteArray} {l : List UInt8} {w : World} (b : UInt8) (j : Nat) (h : item l = none) (hj : j ≤ s.size) : ItemPost s l w (.returned (.tuple #[.int .u8 b.toNat, .int .i64 j, .bool false])) w := ⟨rfl, by rw [h]; exact ⟨b, j, hj, rfl⟩⟩
theorem ItemPost.yes {s : ByteArray} {l r : List UInt8} {w : World} (a : UInt8) (j : Nat) (h : item l = some (a, r)) (hj : RP s j r) : ItemPost s l w (.returned (.tuple #[.int .u8 a.toNat, .int .i64 j, .bool true])) w := ⟨rfl, by rw [h]; exact ⟨j, hj, rfl⟩⟩

set_option maxHeartbeats 2000000 in
theorem ritem_any (s : ByteArray) (i : Nat) (l : List UInt8) (w : World) (hs : s.size ≤ 1000) (h : RP s i l) : Calls Try.prog 68 #[.string s, .int .i64 i] w (ItemPost s l w) := by
  have hle := h.le
  have hsi : (s.size : Int) ≤ 1000 := by omega
  have hii : (i : Int) ≤ 1000 := by omega
  have HLE := Lib.hid hle
  rcases l with _ | ⟨c, r⟩
  · have hi := h.nil
    have h1 : (i : Int) ≥ (s.size : Int) := by omega
    have h1n : s.size ≤ i := by omega
    clear h hi hle
    go_enter Try.func68, Try.ntmps68
    go_wp2_with fail
    go_ret3
    exact ItemPost.no 0 i rfl HLE.out
  · have hlt := h.lt
    have h1 : ¬ (i : Int) ≥ (s.size : Int) := by omega
    have h1n : ¬ s.size ≤ i := by omega
    have hg : s[i]'hlt = c := h.get
    have HN := Lib.hid h.next
    by_cases e93 : c = 93
    · subst e93
      clear h
      go_enter Try.func68, Try.ntmps68
      go_wp2_with fail
      go_ret3
      exact ItemPost.no 0 i rfl HLE.out
    have d93 : ((c.toNat : Int) == 93) = false := u8_ne e93
    by_cases e92 : c = 92
    · subst e92
      rcases r with _ | ⟨d, r⟩
      · have hi2 := HN.out.nil
        have h2 : (i : Int) + 1 ≥ (s.size : Int) := by omega
        have h2n : s.size ≤ i + 1 := by omega
        clear h hi2
        go_enter Try.func68, Try.ntmps68
        go_wp2_with fail
        go_ret3
        exact ItemPost.no 0 i rfl HLE.out
      · have hlt2 := HN.out.lt
        have hg2 : s[i + 1]'hlt2 = d := HN.out.get
        have h2 : ¬ (i : Int) + 1 ≥ (s.size : Int) := by omega
        have h2n : ¬ s.size ≤ i + 1 := by omega
        have HN2 := Lib.hid HN.out.next
        have HE := Lib.hid (rescaped_any d)
        clear h
        rcases he : escB d with _ | b
        · rw [he] at HE
          have HV : Hid (escV d = d.toNat) := Lib.hid (by unfold escV; rw [he])
          have HI : Hid (item (92 :: d :: r) = none) := Lib.hid (by simp [item, he])
          clear he
          go_enter Try.func68, Try.ntmps68
          go_wp2_with fail
          refine (HE.out _).mono ?_
          rintro e w' ⟨rfl, rfl⟩
          go_wp2_with fail
          go_ret3
          rw [HV.out]
          exact ItemPost.no d (i + 2) HI.out HN2.out.le
        · rw [he] at HE
          have HV : Hid (escV d = b.toNat) := Lib.hid (by unfold escV; rw [he])
          have HI : Hid (item (92 :: d :: r) = some (b, r)) := Lib.hid (by simp [item, he])
          clear he
          go_enter Try.func68, Try.ntmps68
          go_wp2_with fail
          refine (HE.out _).mono ?_
          rintro e w' ⟨rfl, rfl⟩
          go_wp2_with fail
          go_ret3
          rw [HV.out]
          exact ItemPost.yes b (i + 2) HI.out HN2.out
    · have d92 : ((c.toNat : Int) != 92) = true := by rw [bne_iff_ne]; exact beq_eq_false_iff_ne.1 (u8_ne e92)
      have HI : Hid (item (c :: r) = some (c, r)) := Lib.hid (by simp only [item]; rw [if_neg e93, if_neg e92])
      clear h e93 e92
      go_enter Try.func68, Try.ntmps68
      go_wp2_with fail
      go_ret3
      exact ItemPost.yes c (i + 1) HI.out HN.out
end Go.Proofs.Ytheblleadjbndaa

namespace Go.Proofs.Ytheblleadjbndaa
open Go.RowKit Rx

theorem at_two (W : World) (c d : Array Value) (t u : TypeId) : At ((W.alloc (.cells c t)).alloc (.cells d u)) (W.heap.size + 1) d u := by
  have h := At.new (W.alloc (.cells c t)) d u
  have e : (W.alloc (.cells c t)).heap.size = W.heap.size + 1 := by show (W.heap.push _).size = _; simp
  rwa [e] at h
theorem two_lt (W : World) (o p : Obj) : ((W.alloc o).alloc p).heap.size = W.heap.size + 2 := by show ((W.heap.push _).push _).size = _; simp
theorem built1 : (Try.zeroCells46.setIfInBounds 0 (.int .i64 1)).setIfInBounds 257 (.bool true) = nodeC 1 noF true nilS := by
  rw [zero_node, nodeC_setKind, nodeC_setSingle]
theorem size_nodeC (k : Int) (f : UInt8 → Bool) (s : Bool) (v : Value) : (Try.prog.info? 46).map (·.size) = some (nodeC k f s v).size := by rw [nodeC_size]; exact size_node

set_option maxRecDepth 100000 in
set_option maxHeartbeats 1000000 in
theorem rsingle_any (c : UInt8) (W : World) : Calls Try.prog 62 #[.int .u8 c.toNat] W fun e w' => e = .returned (.agg (nodeC 1 (fun x => x == c) true nilS)) ∧ Below W.heap.size W w' := by
  have hc := c.toNat_lt
  have HBU := Lib.hid built1
  have HZ := Lib.hid zero_node
  go_enter Try.func62, Try.ntmps62
  go_wp2_with (refine wpList_store_at rfl 46 (.tmp 3) (.tmp 4) rfl (W.heap.size + 1) _ rfl rfl 46 _ (at_two W _ _ _ _) (by rw [HBU.out]; exact size_nodeC _ _ _ _) (by rw [HBU.out, HZ.out, nodeC_size, nodeC_size]) (by rw [HBU.out]; exact nodeC_one _ _ _ _ rfl) ?_)
  intro w1 hw1
  have h1 : At w1 (W.heap.size + 1) (nodeC 1 noF true nilS) 46 := by rw [hw1.out, HBU.out]; exact (at_two W _ _ _ _).row
  have h2 : At w1 W.heap.size (nodeC 0 noF false nilS) 46 := by
    rw [hw1.out, ← zero_node]
    exact ((At.new W _ _).alloc _).rowOther (by omega)
  have h3 : Below W.heap.size W w1 := by
    rw [hw1.out]
    exact below_row (((Below.refl _ _).alloc (Nat.le_refl _) _).alloc (by show W.heap.size ≤ (W.heap.push _).size; simp) _) _ _ (by omega)
  have d0 : w1.cell? ⟨W.heap.size + 1, 1 + c.toNat, none⟩ = some (.bool false) := by rw [h1.cell, nodeC_bit _ _ _ _ _ hc]; rfl
  have d1 : w1.frozen? ⟨W.heap.size + 1, 1 + c.toNat, none⟩ = false := h1.free _
  have h4 : At (w1.setCell ⟨W.heap.size + 1, 1 + c.toNat, none⟩ (.bool true)) (W.heap.size + 1) (nodeC 1 (fun x => x == c) true nilS) 46 := by
    rw [← nodeC_setBit 1 noF (fun x => x == c) true nilS c.toNat true hc (fun x => by
      by_cases e : x = c
      · subst e; simp
      · rw [if_neg (fun h => e (UInt8.toNat_inj.1 h))]; exact beq_eq_false_iff_ne.2 e)]
    exact h1.set _ _
  have h5 : At (w1.setCell ⟨W.heap.size + 1, 1 + c.toNat, none⟩ (.bool true)) W.heap.size (nodeC 0 noF false nilS) 46 := h2.other _ (by show W.heap.size ≠ W.heap.size + 1; omega)
  have h6 : Below W.heap.size W (w1.setCell ⟨W.heap.size + 1, 1 + c.toNat, none⟩ (.bool true)) := h3.setCell (by show W.heap.size ≤ W.heap.size + 1; omega) _
  have H4 := Lib.hid h4
  have H5 := Lib.hid h5
  have H6 := Lib.hid h6
  clear hw1 h1 h2 h3 h4 h5 h6
  go_wp2_with (first | (refine wpList_load_at rfl 46 (.tmp 3) rfl (W.heap.size + 1) rfl 46 _ _ H4.out Try.underlying46 rfl (size_nodeC _ _ _ _) ?_) | (refine wpList_store_at rfl 46 (.tmp 2) (.tmp 8) rfl W.heap.size _ rfl rfl 46 _ H5.out (size_nodeC _ _ _ _) (by rw [nodeC_size, nodeC_size]) (nodeC_one _ _ _ _ rfl) ?_))
  intro w2 hw2
  have h7 : At w2 W.heap.size (nodeC 1 (fun x => x == c) true nilS) 46 := by rw [hw2.out]; exact H5.out.row
  have h8 : Below W.heap.size W w2 := by rw [hw2.out]; exact below_row H6.out _ _ (Nat.le_refl _)
  have H7 := Lib.hid h7
  have H8 := Lib.hid h8
  clear hw2 h7 h8
  go_wp2_with fail
  refine bodyPost_ret (v := .agg (nodeC 1 (fun x => x == c) true nilS)) (results_cell_row rfl _ _ W.heap.size 46 _ (0, 0) _ rfl H7.out.out Try.underlying46 rfl (size_nodeC _ _ _ _)) rfl ⟨rfl, H8.out⟩
end Go.Proofs.Ytheblleadjbndaa

namespace Go.Proofs.Ytheblleadjbndaa
open Go.RowKit Rx
/-- What escape hands back. -/
def EscPost (d : UInt8) (W : World) (e : Ending) (w' : World) : Prop :=
  Below W.heap.size W w' ∧ match escU d with
  | none => ∃ x, NV x ∧ e = .returned (.tuple #[.agg x, .bool false])
  | some u => ∃ x, (∀ S W1, RnU S W1 u x) ∧ NV x ∧ e = .returned (.tuple #[.agg x, .bool true])
theorem EscPost.no {d : UInt8} {W w' : World} (x : Array Value) (hr : escU d = none) (hb : Below W.heap.size W w') (hx : NV x) : EscPost d W (.returned (.tuple #[.agg x, .bool false])) w' := ⟨hb, by rw [hr]; exact ⟨x, hx, rfl⟩⟩
theorem EscPost.yes {d : UInt8} {W w' : World} {u : U} (x : Array Value) (hr : escU d = some u) (hb : Below W.heap.size W w') (hx : ∀ S W1, RnU S W1 u x) (hn : NV x) : EscPost d W (.returned (.tuple #[.agg x, .bool true])) w' := ⟨hb, by rw [hr]; exact ⟨x, hx, hn, rfl⟩⟩
theorem built2 : Try.zeroCells46.setIfInBounds 0 (.int .i64 1) = nodeC 1 noF false nilS := by rw [zero_node, nodeC_setKind]
theorem results_node2 {fn : Func} {p q : Tmp} {P : Program} {ty : TypeId} (h : fn.results = #[.cell p ty, .tmp q]) (tmps : Array Value) (w : World) (g : Nat) (t : TypeId) (cs : Array Value) (d : TypeDesc)
    (hp : tmps.getD p undef = .pointer (some ⟨g, 0, none⟩)) (hg : At w g cs t)
    (hu : P.underlying ty = some d) (hd : (match d with | .struct _ | .array _ _ => true | _ => false) = true) (hi : (P.info? ty).map (·.size) = some cs.size) :
    (results fn tmps).run P w = .ok (.tuple #[.agg cs, tmps.getD q undef]) w := by
  have hp' : tmps[p]?.getD undef = .pointer (some ⟨g, 0, none⟩) := by simpa using hp
  simp [results, h, hp', asAddr, run_loadVar_row w g t ty cs (0, 0) d hg.out hu hd hi]
/-- The escape of a byte for one byte. -/
theorem esc_link {c : UInt8} (h1 : c ≠ 100) (h2 : c ≠ 119) : escU c = (escB c).map .byte := by
  unfold escU escB
  by_cases e1 : c = 110
  · subst e1; rfl
  by_cases e2 : c = 116
  · subst e2; rfl
  rw [if_neg e1, if_neg e2, if_neg h1, if_neg h2, if_neg e1, if_neg e2]
  split <;> rfl
theorem escV_byte (c : UInt8) : ∃ b : UInt8, escV c = b.toNat ∧ (∀ x, escB c = some x → x = b) := by
  unfold escV
  rcases h : escB c with _ | b
  · exact ⟨c, rfl, fun x hx => (by cases hx)⟩
  · exact ⟨b, rfl, fun x hx => by injection hx with hx; exact hx.symm⟩

set_option maxRecDepth 100000 in
set_option maxHeartbeats 1000000 in
theorem rescape_plain (c : UInt8) (W : World) (h1 : c ≠ 100) (h2 : c ≠ 119) : Calls Try.prog 63 #[.int .u8 c.toNat] W (EscPost c W) := by
  have HBU := Lib.hid built2
  have HZ := Lib.hid zero_node
  have HL := Lib.hid (esc_link h1 h2)
  have d0 : ((c.toNat : Int) != 100) = true := by rw [bne_iff_ne]; exact beq_eq_false_iff_ne.1 (u8_ne h1)
  have d1 : ((c.toNat : Int) != 119) = true := by rw [bne_iff_ne]; exact beq_eq_false_iff_ne.1 (u8_ne h2)
  have HE := Lib.hid (rescaped_any c)
  obtain ⟨b, hb1, hb2⟩ := escV_byte c
  have HS := Lib.hid (rsingle_any b)
  rw [hb1] at HE
  have HB2 := Lib.hid hb2
  clear h1 h2 hb1 hb2
  go_enter Try.func63, Try.ntmps63
  go_wp2_with (refine wpList_store_at rfl 46 (.tmp 4) (.tmp 9) rfl (W.heap.size + 1) _ rfl rfl 46 _ (at_two W _ _ _ _) (by rw [HBU.out]; exact size_nodeC _ _ _ _) (by rw [HBU.out, HZ.out, nodeC_size, nodeC_size]) (by rw [HBU.out]; exact nodeC_one _ _ _ _ rfl) ?_)
  intro w1 hw1
  have h2 : At w1 W.heap.size (nodeC 0 noF false nilS) 46 := by
    rw [hw1.out, ← zero_node]
    exact ((At.new W _ _).alloc _).rowOther (by omega)
  have h3 : Below W.heap.size W w1 := by
    rw [hw1.out]
    exact below_row (((Below.refl _ _).alloc (Nat.le_refl _) _).alloc (by show W.heap.size ≤ (W.heap.push _).size; simp) _) _ _ (by omega)
  have H2 := Lib.hid h2
  have H3 := Lib.hid h3
  clear hw1 h2 h3
  go_wp2_with fail
  refine (HE.out _).mono ?_
  rintro e w' ⟨rfl, rfl⟩
  go_wp2_with fail
  refine (HS.out _).mono ?_
  rintro e w2 ⟨rfl, hb⟩
  have H4 : Hid (At w2 W.heap.size (nodeC 0 noF false nilS) 46) := Lib.hid (H2.out.below hb)
  have H5 : Hid (Below W.heap.size W w2) := Lib.hid (H3.out.trans (hb.mono H3.out.size))
  clear hb
  go_wp2_with (refine wpList_store_at rfl 46 (.tmp 2) (.tmp 22) rfl W.heap.size _ rfl rfl 46 _ H4.out (size_nodeC _ _ _ _) (by rw [nodeC_size, nodeC_size]) (nodeC_one _ _ _ _ rfl) ?_)
  intro w3 hw3
  have H6 : Hid (At w3 W.heap.size (nodeC 1 (fun x => x == b) true nilS) 46) := Lib.hid (by rw [hw3.out]; exact H4.out.row)
  have H7 : Hid (Below W.heap.size W w3) := Lib.hid (by rw [hw3.out]; exact below_row H5.out _ _ (Nat.le_refl _))
  clear hw3
  go_wp2_with fail
  refine bodyPost_ret (results_node2 rfl _ _ W.heap.size 46 _ _ rfl H6.out Try.underlying46 rfl (size_nodeC _ _ _ _)) rfl ?_
  rcases he : escB c with _ | x
  · exact EscPost.no _ (by rw [HL.out, he]; rfl) H7.out (NV.node _ _ _ _ rfl)
  · obtain rfl := HB2.out x he
    exact EscPost.yes _ (u := .byte x) (by rw [HL.out, he]; rfl) H7.out (fun S W1 => by unfold RnU; rfl) (NV.node _ _ _ _ rfl)
end Go.Proofs.Ytheblleadjbndaa

namespace Go.Proofs.Ytheblleadjbndaa
open Go.RowKit Rx
/-- A set filled up to a byte. -/
def fillF (g : UInt8 → Bool) (j : Nat) : UInt8 → Bool := fun x => decide (x.toNat < j) && g x
theorem fill_zero (g : UInt8 → Bool) : fillF g 0 = noF := by funext x; simp [fillF, noF]
theorem fill_all (g : UInt8 → Bool) : fillF g 256 = g := by
  funext x
  have := x.toNat_lt
  simp [fillF, this]
theorem fill_set (g : UInt8 → Bool) (j : Nat) (x : UInt8) : fillF g (j + 1) x = if x.toNat = j then g (UInt8.ofNat j) else fillF g j x := by
  unfold fillF
  by_cases h : x.toNat = j
  · rw [if_pos h, ← h, decide_eq_true (by omega)]; simp
  · rw [if_neg h]
    by_cases h2 : x.toNat < j
    · rw [decide_eq_true h2, decide_eq_true (by omega)]
    · rw [decide_eq_false h2, decide_eq_false (by omega)]
theorem dig_of {j : Nat} (h : j < 256) : digB (UInt8.ofNat j) = (decide (48 ≤ j) && decide (j ≤ 57)) := by
  unfold digB
  rw [show (UInt8.ofNat j).toNat = j by rw [UInt8.toNat_ofNat']; omega]
theorem word_of (y : UInt8) : wordB y = ((letB y || digB y) || decide (y.toNat = 95)) := rfl

set_option maxRecDepth 100000 in
set_option maxHeartbeats 2000000 in
theorem rescape_d (W : World) : Calls Try.prog 63 #[.int .u8 100] W (EscPost 100 W) := by
  have HBU := Lib.hid built2
  have HZ := Lib.hid zero_node
  have HAN := Lib.hid ralnum_any
  go_enter Try.func63, Try.ntmps63
  go_wp2_with (refine wpList_store_at rfl 46 (.tmp 4) (.tmp 9) rfl (W.heap.size + 1) _ rfl rfl 46 _ (at_two W _ _ _ _) (by rw [HBU.out]; exact size_nodeC _ _ _ _) (by rw [HBU.out, HZ.out, nodeC_size, nodeC_size]) (by rw [HBU.out]; exact nodeC_one _ _ _ _ rfl) ?_)
  intro w1 hw1
  have h1 : At w1 (W.heap.size + 1) (nodeC 1 noF false nilS) 46 := by rw [hw1.out, HBU.out]; exact (at_two W _ _ _ _).row
  have h2 : At w1 W.heap.size (nodeC 0 noF false nilS) 46 := by
    rw [hw1.out, ← zero_node]
    exact ((At.new W _ _).alloc _).rowOther (by omega)
  have h3 : Below W.heap.size W w1 := by
    rw [hw1.out]
    exact below_row (((Below.refl _ _).alloc (Nat.le_refl _) _).alloc (by show W.heap.size ≤ (W.heap.push _).size; simp) _) _ _ (by omega)
  have H1 := Lib.hid h1
  have H2 := Lib.hid h2
  have H3 := Lib.hid h3
  clear hw1 h1 h2 h3
  go_wp2_with fail
  go_loopg [7] 257 (fun k i wr => ∃ j : Nat, k = 257 - j ∧ j ≤ 256 ∧ i = .int .i64 j ∧ At wr (W.heap.size + 1) (nodeC 1 (fillF digB j) false nilS) 46 ∧ At wr W.heap.size (nodeC 0 noF false nilS) 46 ∧ Below W.heap.size W wr)
  case atStart => exact ⟨0, rfl, by omega, rfl, by rw [fill_zero]; exact H1.out, H2.out, H3.out⟩
  case round =>
    obtain ⟨j, hk, hj, rfl, h1, h2, h3⟩ := hrel
    clear H1 H2 H3
    have H1 := Lib.hid h1
    have H2 := Lib.hid h2
    have H3 := Lib.hid h3
    clear h1 h2 h3
    have hjl : (j : Int) ≤ 256 := by omega
    by_cases hlt : j < 256
    · have hlti : (j : Int) < 256 := by omega
      have hjn : 0 ≤ (j : Int) := by omega
      have hmo : 257 - (j + 1) < gk := by omega
      have HMO := Lib.hid hmo
      have d0 : wr.cell? ⟨W.heap.size + 1, 1 + j, none⟩ = some (.bool (fillF digB j (UInt8.ofNat j))) := by rw [H1.out.cell, nodeC_bit _ _ _ _ _ hlt]
      have d1 : wr.frozen? ⟨W.heap.size + 1, 1 + j, none⟩ = false := H1.out.free _
      have HD := Lib.hid (dig_of hlt)
      have HY : Hid ((UInt8.ofNat j).toNat = j) := Lib.hid (by rw [UInt8.toNat_ofNat']; omega)
      have HLT := Lib.hid hlt
      have hnext : ∀ b : Bool, digB (UInt8.ofNat j) = b → At (wr.setCell ⟨W.heap.size + 1, 1 + j, none⟩ (.bool b)) (W.heap.size + 1) (nodeC 1 (fillF digB (j + 1)) false nilS) 46 ∧ At (wr.setCell ⟨W.heap.size + 1, 1 + j, none⟩ (.bool b)) W.heap.size (nodeC 0 noF false nilS) 46 ∧ Below W.heap.size W (wr.setCell ⟨W.heap.size + 1, 1 + j, none⟩ (.bool b)) := fun b hb => by
        subst hb
        refine ⟨?_, H2.out.other _ (by show W.heap.size ≠ W.heap.size + 1; omega), H3.out.setCell (by show W.heap.size ≤ W.heap.size + 1; omega) _⟩
        rw [← nodeC_setBit 1 (fillF digB j) (fillF digB (j + 1)) false nilS j _ hlt (fun x => fill_set digB j x)]
        exact H1.out.set _ _
      have HNX := Lib.hid hnext
      clear hmo hk hnext
      generalize fillF digB j (UInt8.ofNat j) = old at *
      by_cases g1 : j < 48
      · have g1i : ¬ (j : Int) ≥ 48 := by omega
        have hz := HNX.out false (by rw [HD.out]; simp; omega)
        have HZZ := Lib.hid hz
        clear hz
        go_wp2_with fail
        go_roundg (257 - (j + 1))
        case measure => exact HMO.out
        case rel => exact ⟨j + 1, rfl, by have := HLT.out; omega, rfl, HZZ.out⟩
      · have g1i : (j : Int) ≥ 48 := by omega
        by_cases g2 : 57 < j
        · have g2i : ¬ (j : Int) ≤ 57 := by omega
          have hz := HNX.out false (by rw [HD.out]; simp; omega)
          have HZZ := Lib.hid hz
          clear hz
          go_wp2_with fail
          go_roundg (257 - (j + 1))
          case measure => exact HMO.out
          case rel => exact ⟨j + 1, rfl, by have := HLT.out; omega, rfl, HZZ.out⟩
        · have g2i : (j : Int) ≤ 57 := by omega
          have hz := HNX.out true (by rw [HD.out]; simp; omega)
          have HZZ := Lib.hid hz
          clear hz
          go_wp2_with fail
          go_roundg (257 - (j + 1))
          case measure => exact HMO.out
          case rel => exact ⟨j + 1, rfl, by have := HLT.out; omega, rfl, HZZ.out⟩
    · have HJ : Hid (j = 256) := Lib.hid (by omega)
      have hlti : ¬ (j : Int) < 256 := by omega
      have H4 : Hid (At wr (W.heap.size + 1) (nodeC 1 digB false nilS) 46) := Lib.hid (by have := H1.out; rw [HJ.out, fill_all] at this; exact this)
      clear hk
      go_wp2_with (first | (refine wpList_load_at rfl 46 (.tmp 4) rfl (W.heap.size + 1) rfl 46 _ _ H4.out Try.underlying46 rfl (size_nodeC _ _ _ _) ?_) | (refine wpList_store_at rfl 46 (.tmp 2) (.tmp 51) rfl W.heap.size _ rfl rfl 46 _ H2.out (size_nodeC _ _ _ _) (by rw [nodeC_size, nodeC_size]) (nodeC_one _ _ _ _ rfl) ?_))
      intro w3 hw3
      have H6 : Hid (At w3 W.heap.size (nodeC 1 digB false nilS) 46) := Lib.hid (by rw [hw3.out]; exact H2.out.row)
      have H7 : Hid (Below W.heap.size W w3) := Lib.hid (by rw [hw3.out]; exact below_row H3.out _ _ (Nat.le_refl _))
      clear hw3
      go_wp2_with fail
      refine bodyPost_ret (results_node2 rfl _ _ W.heap.size 46 _ _ rfl H6.out Try.underlying46 rfl (size_nodeC _ _ _ _)) rfl ?_
      exact EscPost.yes _ (u := .cls digB) rfl H7.out (fun S W1 => by unfold RnU; rfl) (NV.node _ _ _ _ rfl)

set_option maxRecDepth 100000 in
set_option maxHeartbeats 2000000 in
theorem rescape_w (W : World) : Calls Try.prog 63 #[.int .u8 119] W (EscPost 119 W) := by
  have HBU := Lib.hid built2
  have HZ := Lib.hid zero_node
  have HAN := Lib.hid ralnum_any
  go_enter Try.func63, Try.ntmps63
  go_wp2_with (refine wpList_store_at rfl 46 (.tmp 4) (.tmp 9) rfl (W.heap.size + 1) _ rfl rfl 46 _ (at_two W _ _ _ _) (by rw [HBU.out]; exact size_nodeC _ _ _ _) (by rw [HBU.out, HZ.out, nodeC_size, nodeC_size]) (by rw [HBU.out]; exact nodeC_one _ _ _ _ rfl) ?_)
  intro w1 hw1
  have h1 : At w1 (W.heap.size + 1) (nodeC 1 noF false nilS) 46 := by rw [hw1.out, HBU.out]; exact (at_two W _ _ _ _).row
  have h2 : At w1 W.heap.size (nodeC 0 noF false nilS) 46 := by
    rw [hw1.out, ← zero_node]
    exact ((At.new W _ _).alloc _).rowOther (by omega)
  have h3 : Below W.heap.size W w1 := by
    rw [hw1.out]
    exact below_row (((Below.refl _ _).alloc (Nat.le_refl _) _).alloc (by show W.heap.size ≤ (W.heap.push _).size; simp) _) _ _ (by omega)
  have H1 := Lib.hid h1
  have H2 := Lib.hid h2
  have H3 := Lib.hid h3
  clear hw1 h1 h2 h3
  go_wp2_with fail
  go_loopg [7] 257 (fun k i wr => ∃ j : Nat, k = 257 - j ∧ j ≤ 256 ∧ i = .int .i64 j ∧ At wr (W.heap.size + 1) (nodeC 1 (fillF wordB j) false nilS) 46 ∧ At wr W.heap.size (nodeC 0 noF false nilS) 46 ∧ Below W.heap.size W wr)
  case atStart => exact ⟨0, rfl, by omega, rfl, by rw [fill_zero]; exact H1.out, H2.out, H3.out⟩
  case round =>
    obtain ⟨j, hk, hj, rfl, h1, h2, h3⟩ := hrel
    clear H1 H2 H3
    have H1 := Lib.hid h1
    have H2 := Lib.hid h2
    have H3 := Lib.hid h3
    clear h1 h2 h3
    have hjl : (j : Int) ≤ 256 := by omega
    by_cases hlt : j < 256
    · have hlti : (j : Int) < 256 := by omega
      have hjn : 0 ≤ (j : Int) := by omega
      have hmo : 257 - (j + 1) < gk := by omega
      have HMO := Lib.hid hmo
      have d0 : wr.cell? ⟨W.heap.size + 1, 1 + j, none⟩ = some (.bool (fillF wordB j (UInt8.ofNat j))) := by rw [H1.out.cell, nodeC_bit _ _ _ _ _ hlt]
      have d1 : wr.frozen? ⟨W.heap.size + 1, 1 + j, none⟩ = false := H1.out.free _
      have HD := Lib.hid (dig_of hlt)
      have HY : Hid ((UInt8.ofNat j).toNat = j) := Lib.hid (by rw [UInt8.toNat_ofNat']; omega)
      have HLT := Lib.hid hlt
      have hnext : ∀ b : Bool, wordB (UInt8.ofNat j) = b → At (wr.setCell ⟨W.heap.size + 1, 1 + j, none⟩ (.bool b)) (W.heap.size + 1) (nodeC 1 (fillF wordB (j + 1)) false nilS) 46 ∧ At (wr.setCell ⟨W.heap.size + 1, 1 + j, none⟩ (.bool b)) W.heap.size (nodeC 0 noF false nilS) 46 ∧ Below W.heap.size W (wr.setCell ⟨W.heap.size + 1, 1 + j, none⟩ (.bool b)) := fun b hb => by
        subst hb
        refine ⟨?_, H2.out.other _ (by show W.heap.size ≠ W.heap.size + 1; omega), H3.out.setCell (by show W.heap.size ≤ W.heap.size + 1; omega) _⟩
        rw [← nodeC_setBit 1 (fillF wordB j) (fillF wordB (j + 1)) false nilS j _ hlt (fun x => fill_set wordB j x)]
        exact H1.out.set _ _
      have HNX := Lib.hid hnext
      clear hmo hk hnext
      generalize fillF wordB j (UInt8.ofNat j) = old at *
      by_cases g1 : j < 48
      · have g1i : ¬ (j : Int) ≥ 48 := by omega
        obtain ⟨y, hy⟩ : ∃ y, UInt8.ofNat j = y := ⟨_, rfl⟩
        rw [hy] at HY HNX HD
        clear hy
        have HCA : Hid (∀ w, Calls Try.prog 67 #[.int .u8 (j : Int)] w fun e w' => e = .returned (.bool (letB y || digB y)) ∧ w = w') := Lib.hid (fun w => by have := HAN.out y w; rwa [HY.out] at this)
        go_wp2_with fail
        refine (HCA.out _).mono ?_
        rintro e w' ⟨rfl, rfl⟩
        rcases ha : letB y || digB y with _ | _
        · by_cases g3 : j = 95
          · have g3i : ((j : Int) == 95) = true := by rw [g3]; rfl
            have hz := HNX.out true (by rw [word_of, ha, HY.out, decide_eq_true g3]; rfl)
            have HZZ := Lib.hid hz
            clear hz ha g3
            go_wp2_with fail
            go_roundg (257 - (j + 1))
            case measure => exact HMO.out
            case rel => exact ⟨j + 1, rfl, by have := HLT.out; omega, rfl, HZZ.out⟩
          · have g3i : ((j : Int) == 95) = false := by rw [beq_eq_false_iff_ne]; omega
            have hz := HNX.out false (by rw [word_of, ha, HY.out, decide_eq_false g3]; rfl)
            have HZZ := Lib.hid hz
            clear hz ha g3
            go_wp2_with fail
            go_roundg (257 - (j + 1))
            case measure => exact HMO.out
            case rel => exact ⟨j + 1, rfl, by have := HLT.out; omega, rfl, HZZ.out⟩
        · have hz := HNX.out true (by rw [word_of, ha]; rfl)
          have HZZ := Lib.hid hz
          clear hz ha
          go_wp2_with fail
          go_roundg (257 - (j + 1))
          case measure => exact HMO.out
          case rel => exact ⟨j + 1, rfl, by have := HLT.out; omega, rfl, HZZ.out⟩
      · have g1i : (j : Int) ≥ 48 := by omega
        by_cases g2 : 57 < j
        · have g2i : ¬ (j : Int) ≤ 57 := by omega
          obtain ⟨y, hy⟩ : ∃ y, UInt8.ofNat j = y := ⟨_, rfl⟩
          rw [hy] at HY HNX HD
          clear hy
          have HCA : Hid (∀ w, Calls Try.prog 67 #[.int .u8 (j : Int)] w fun e w' => e = .returned (.bool (letB y || digB y)) ∧ w = w') := Lib.hid (fun w => by have := HAN.out y w; rwa [HY.out] at this)
          go_wp2_with fail
          refine (HCA.out _).mono ?_
          rintro e w' ⟨rfl, rfl⟩
          rcases ha : letB y || digB y with _ | _
          · by_cases g3 : j = 95
            · have g3i : ((j : Int) == 95) = true := by rw [g3]; rfl
              have hz := HNX.out true (by rw [word_of, ha, HY.out, decide_eq_true g3]; rfl)
              have HZZ := Lib.hid hz
              clear hz ha g3
              go_wp2_with fail
              go_roundg (257 - (j + 1))
              case measure => exact HMO.out
              case rel => exact ⟨j + 1, rfl, by have := HLT.out; omega, rfl, HZZ.out⟩
            · have g3i : ((j : Int) == 95) = false := by rw [beq_eq_false_iff_ne]; omega
              have hz := HNX.out false (by rw [word_of, ha, HY.out, decide_eq_false g3]; rfl)
              have HZZ := Lib.hid hz
              clear hz ha g3
              go_wp2_with fail
              go_roundg (257 - (j + 1))
              case measure => exact HMO.out
              case rel => exact ⟨j + 1, rfl, by have := HLT.out; omega, rfl, HZZ.out⟩
          · have hz := HNX.out true (by rw [word_of, ha]; rfl)
            have HZZ := Lib.hid hz
            clear hz ha
            go_wp2_with fail
            go_roundg (257 - (j + 1))
            case measure => exact HMO.out
            case rel => exact ⟨j + 1, rfl, by have := HLT.out; omega, rfl, HZZ.out⟩
        · have g2i : (j : Int) ≤ 57 := by omega
          have hz := HNX.out true (by rw [word_of, HD.out, show (decide (48 ≤ j) && decide (j ≤ 57)) = true from by simp; omega]; simp)
          have HZZ := Lib.hid hz
          clear hz
          go_wp2_with fail
          go_roundg (257 - (j + 1))
          case measure => exact HMO.out
          case rel => exact ⟨j + 1, rfl, by have := HLT.out; omega, rfl, HZZ.out⟩
    · have HJ : Hid (j = 256) := Lib.hid (by omega)
      have hlti : ¬ (j : Int) < 256 := by omega
      have H4 : Hid (At wr (W.heap.size + 1) (nodeC 1 wordB false nilS) 46) := Lib.hid (by have := H1.out; rw [HJ.out, fill_all] at this; exact this)
      clear hk
      go_wp2_with (first | (refine wpList_load_at rfl 46 (.tmp 4) rfl (W.heap.size + 1) rfl 46 _ _ H4.out Try.underlying46 rfl (size_nodeC _ _ _ _) ?_) | (refine wpList_store_at rfl 46 (.tmp 2) (.tmp 51) rfl W.heap.size _ rfl rfl 46 _ H2.out (size_nodeC _ _ _ _) (by rw [nodeC_size, nodeC_size]) (nodeC_one _ _ _ _ rfl) ?_))
      intro w3 hw3
      have H6 : Hid (At w3 W.heap.size (nodeC 1 wordB false nilS) 46) := Lib.hid (by rw [hw3.out]; exact H2.out.row)
      have H7 : Hid (Below W.heap.size W w3) := Lib.hid (by rw [hw3.out]; exact below_row H3.out _ _ (Nat.le_refl _))
      clear hw3
      go_wp2_with fail
      refine bodyPost_ret (results_node2 rfl _ _ W.heap.size 46 _ _ rfl H6.out Try.underlying46 rfl (size_nodeC _ _ _ _)) rfl ?_
      exact EscPost.yes _ (u := .cls wordB) rfl H7.out (fun S W1 => by unfold RnU; rfl) (NV.node _ _ _ _ rfl)

theorem rescape_any (c : UInt8) (W : World) : Calls Try.prog 63 #[.int .u8 c.toNat] W (EscPost c W) := by
  by_cases h1 : c = 100
  · subst h1; exact rescape_d W
  by_cases h2 : c = 119
  · subst h2; exact rescape_w W
  exact rescape_plain c W h1 h2
end Go.Proofs.Ytheblleadjbndaa
