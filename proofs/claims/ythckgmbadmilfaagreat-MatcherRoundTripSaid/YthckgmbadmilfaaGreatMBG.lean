/- Walks: matcher.Simplify. Walks: slices.Contains over matchers, implies (the program's). -/
import Derived.Test.YthckgmbadmilfaaGreatMBD
import Derived.Test.YthckgmbadmilfaaGreatMAW
import Derived.Test.YthckgmbadmilfaaGreatMBB
import Derived.Test.YthckgmbadmilfaaGreatMBF
import Derived.Test.YthckgmbadmilfaaGreatMAZ
import Derived.Laws.StructEq
namespace Go.Proofs.YthckgmbadmilfaaGreat
open Go.RowKit

theorem szM_of {m : Mt} (h : chkM m = 0) : SzM m ∧ m.name.size ≤ 60 ∧ m.value.size ≤ 200 := by
  unfold chkM at h
  split at h
  · omega
  · split at h
    · next hn =>
      have h1 : m.name.size ≤ 60 := by
        unfold nameB at hn
        simp only [Bool.and_eq_true, decide_eq_true_eq] at hn
        exact hn.1.2.2
      have h2 : m.value.size ≤ 200 := by
        split at h
        · unfold Rx.checkR at h
          split at h
          · omega
          · next h3 => rw [bs_length] at h3; omega
        · split at h <;> omega
      exact ⟨⟨by omega, by omega⟩, h1, h2⟩
    · omega
set_option maxRecDepth 100000 in
set_option maxHeartbeats 2000000 in
theorem simplify_any (A : Option Addr) (c : Nat) (ms : List Mt) (w : World) (hr : MtsIn w.heap.size w A ms) :
    Calls Tryz.prog 21 #[.slice A ms.length c] w fun e w' => (∃ A' n' c', e = .returned (.tuple #[.slice A' n' c', .bool (simM ms).2]) ∧ n' = (simM ms).1.length ∧ MtsIn w'.heap.size w' A' (simM ms).1) ∧ Below w.heap.size w w' := by
  have HCH := Lib.hid (mcheck_any A c ms w hr)
  by_cases hck : chkMs ms = 0
  · obtain ⟨i0, hi, hz0, hz1, hz2⟩ := info_parts info_mt
    have HI := Lib.hid hi
    have HZ0 := Lib.hid hz0
    have HZ1 := Lib.hid hz1
    have HZ2 := Lib.hid hz2
    have HM := Lib.hid hr
    obtain ⟨hlen, hall⟩ := chkMs_iff.1 hck
    have HALL := Lib.hid hall
    have HCK := Lib.hid hck
    clear hr hi hz0 hz1 hz2 hall
    rw [hck] at HCH
    clear hck
    go_enter Tryz.func21, Tryz.ntmps21
    go_wp2_with fail
    refine HCH.out.mono ?_
    rintro e w1 ⟨rfl, hb1⟩
    have HB1 := Lib.hid hb1
    have HM1 := Lib.hid (HM.out.below hb1)
    clear hb1 HCH
    go_wp2_with fail
    go_loopw [4, 14] (fun v i wr => ∃ (k : Nat) (A1 : Option Addr) (n1 c1 : Nat), k ≤ ms.length ∧ v = .slice A1 n1 c1 ∧ i = .int .i64 k ∧ Hid (SR w 39 3 A1 n1 c1 (((ms.take k).map litM).map Mt.cells) wr)) (fun _ i _ => ms.length - (intOf i).toNat)
    case atStart => exact ⟨0, none, 0, 0, Nat.zero_le _, rfl, rfl, Lib.hid (SR.nil _ _ HB1.out)⟩
    case round =>
      obtain ⟨k, A1, n1, c1, hk, rfl, rfl, HS⟩ := hrel
      have HB := Lib.hid HS.out.below
      by_cases hlt : k < ms.length
      · obtain ⟨q, o, rfl, hg, c0, cc1, c2⟩ := (HM.out.below HB.out).at_ k hlt
        have HTK : Hid (ms.take (k + 1) = ms.take k ++ [ms[k]]) := Lib.hid (List.take_succ_eq_append_getElem hlt)
        have hbw : Below wr.heap.size wr (wr.alloc (.cells #[.int .i64 (ms[k]).kind, .string (ms[k]).name, .string (ms[k]).value] 39)) := (Below.refl _ _).alloc (Nat.le_refl _) _
        have hn1 : n1 ≤ k := by
          have h1 := HS.out.len
          rw [List.length_map, List.length_map, List.length_take] at h1
          omega
        obtain ⟨x, hx⟩ : ∃ x, ms[k] = x := ⟨_, rfl⟩
        rw [hx] at HTK c0 cc1 c2 hbw
        clear hx
        have HS1 := Lib.hid (HS.out.later hbw)
        have HX := Lib.hid (At.new wr #[.int .i64 x.kind, .string x.name, .string x.value] 39)
        clear hbw
        go_upto_region 7 with fail
        generalize wr.alloc (.cells #[.int .i64 x.kind, .string x.name, .string x.value] 39) = w2 at *
        generalize wr.heap.size = Bx at *
        have q0 := HX.out.cell 0
        have q1 := HX.out.cell 1
        have q2 := HX.out.cell 2
        go_wp2_with fail
        refine (lit_any x w2).mono ?_
        rintro e w3 ⟨rfl, hb⟩
        have HN : Hid (((ms.take (k + 1)).map litM) = (ms.take k).map litM ++ [litM x]) := Lib.hid (by rw [HTK.out, List.map_append]; rfl)
        have HS2 := Lib.hid (HS1.out.later hb)
        generalize litM x = y at *
        clear hb q0 q1 q2 c0 cc1 c2
        go_wp2_with (at_builtin; (refine wpList_elem rfl (.tmp 18) (.tmp 21) 22 39 i0 _ 3 40 Tryz.underlying22 HI.out HZ0.out HZ1.out HZ2.out rfl (by decide) rfl HS2.out y.cells rfl (mt_one y) rfl rfl (by omega) (by decide) ?_))
        intro A3 n3 c3 l3 w4 HE3 hS3 hG3
        have HS3 : Hid (SR w 39 3 A3 n3 c3 (((ms.take (k + 1)).map litM).map Mt.cells) w4) := Lib.hid (by
          rw [HN.out, List.map_append]
          have e : List.take k (List.map (Mt.cells ∘ litM) ms) = List.map Mt.cells (List.map litM (List.take k ms)) := by simp [List.map_take]
          rw [HE3.out, e] at hS3
          exact hS3)
        clear hS3 hG3
        go_wp2_with fail
        go_roundw
        case rel => exact ⟨k + 1, A3, n3, c3, by omega, rfl, by go_num, HS3⟩
        case measure => simp [intOf]; omega
      · have HS3 : Hid (SR w 39 3 A1 n1 c1 ((ms.map litM).map Mt.cells) wr) := Lib.hid (by
          have h1 := HS.out
          rw [List.take_of_length_le (by omega)] at h1
          exact h1)
        clear HS
        have hln : n1 = (ms.map litM).length := by have := HS3.out.len; rw [List.length_map] at this; exact this.symm
        have HB3 := Lib.hid HS3.out.below
        have HCS : Hid (∀ y ∈ ms.map litM, SzM y ∧ y.name.size ≤ 60 ∧ y.value.size ≤ 200) := Lib.hid (fun y hy => by
          obtain ⟨x, hx, rfl⟩ := List.mem_map.1 hy
          exact szM_of (chk_lit (HALL.out x hx)))
        have HSM : Hid (simM ms = if (ms.map litM).any (contraM (ms.map litM)) then ([], false) else (setM ((ms.map litM).filter (needM (ms.map litM))), true)) := Lib.hid (by
          conv => lhs; unfold simM
          rw [if_pos HCK.out])
        have hll : (ms.map litM).length ≤ 16 := by rw [List.length_map]; exact hlen
        generalize ms.map litM = ls at *
        subst hln
        have hrd : MtsIn wr.heap.size wr A1 ls := HS3.out.rd
        have HNS := Lib.hid (newSet_any A1 c1 ls wr hrd (by omega) (fun x hx => (HCS.out x hx).1.name))
        have HRD := Lib.hid hrd
        clear hrd
        go_wp2_with fail
        refine HNS.out.mono ?_
        rintro e w4 ⟨⟨b, rfl, hset⟩, hb⟩
        have HSET := Lib.hid hset
        have HB4 := Lib.hid hb
        clear hset hb HNS
        have ec : ∀ args w, (callFunc 45 args).run Tryz.prog w = .ok (.enter 45 args) w := enters_of Tryz.func45 (by kernel_rfl) rfl
        have en : ∀ args w, (callFunc 47 args).run Tryz.prog w = .ok (.enter 47 args) w := enters_of Tryz.func47 (by kernel_rfl) rfl
        have hbw : Below wr.heap.size wr (w4.alloc (.cells #[.map (some b)] 65)) := HB4.out.alloc HB4.out.size _
        have HS5 : Hid (SetIn w4.heap.size (w4.alloc (.cells #[.map (some b)] 65)) b ls) := Lib.hid (HSET.out.below ((Below.refl _ _).alloc (Nat.le_refl _) _))
        have HX := Lib.hid (At.new w4 #[.map (some b)] 65)
        have HSZ : Hid (w4.heap.size < (w4.alloc (.cells #[.map (some b)] 65)).heap.size) := Lib.hid (by simp)
        have HS6 := Lib.hid (HS3.out.later hbw)
        clear hbw
        go_upto_region 10 with fail
        generalize w4.alloc (.cells #[.map (some b)] 65) = w5 at *
        generalize w4.heap.size = Bs at *
        have x0 := HX.out.cell 0
        have HCC := Lib.hid (containsB_any 45 b (contraM ls) ec A1 c1 ls w5 HS6.out.rd (by omega) (fun W y hy hb => contradicts_any b ls y W ((HS5.out.mono (Nat.le_of_lt HSZ.out)).below hb |>.mono hb.size) (HCS.out y hy).1 (fun q hq => (HCS.out q hq).1.value) (by omega)))
        clear ec
        go_wp2_with fail
        refine HCC.out.mono ?_
        rintro e w6 ⟨rfl, hb⟩
        rcases hco : ls.any (contraM ls) with _ | _
        · have HSM2 : Hid (simM ms = (setM (ls.filter (needM ls)), true)) := Lib.hid (by rw [HSM.out, hco, if_neg (by simp)])
          clear hco HSM HCC
          have HS7 := Lib.hid (HS6.out.later hb)
          have HS8 := Lib.hid (HS5.out.below (hb.mono (Nat.le_of_lt HSZ.out)))
          have HX6 := Lib.hid (HX.out.below hb)
          have HSZ6 : Hid (Bs < w6.heap.size) := Lib.hid (Nat.lt_of_lt_of_le HSZ.out hb.size)
          clear hb x0
          have x0 := HX6.out.cell 0
          have HFF := Lib.hid (filteredB_any 47 b (needM ls) en A1 c1 ls w6 HS7.out.rd (by omega) (fun W y hy hb => needed_any b ls y W ((HS8.out.mono (Nat.le_of_lt HSZ6.out)).below hb |>.mono hb.size) (HCS.out y hy).1 (by omega)))
          clear en
          go_wp2_with fail
          refine HFF.out.mono ?_
          rintro e w7 ⟨A', n', c', rfl, hs⟩
          have hbw6 := HS7.out.below
          have hn6 : n' ≤ 100000 := by
            have h1 := hs.len
            rw [List.length_map] at h1
            have h2 := List.length_filter_le (needM ls) ls
            omega
          have HSO := Lib.hid (sortM_any hs hn6)
          have HB6 : Hid (Below w.heap.size w w6) := Lib.hid hbw6
          clear hs hbw6 HFF x0
          go_wp2_with fail
          refine HSO.out.mono ?_
          rintro e w8 ⟨rfl, hs⟩
          have HCO := Lib.hid (compact_any hs hn6)
          clear hs HSO
          rw [dd_sort] at HCO
          go_wp2_with fail
          refine HCO.out.mono ?_
          rintro e w9 ⟨⟨A2, n2, c2, rfl, rfl, hm⟩, hb⟩
          go_wp2_with fail
          go_ret2
          refine ⟨?_, HB6.out.trans (hb.mono HB6.out.size)⟩
          rw [HSM2.out]
          exact ⟨A2, _, c2, rfl, rfl, hm⟩
        · have HSM2 : Hid (simM ms = ([], false)) := Lib.hid (by rw [HSM.out, hco, if_pos rfl])
          clear hco HSM HCC
          go_wp2_with fail
          go_ret2
          refine ⟨?_, HS6.out.below.trans (hb.mono HS6.out.below.size)⟩
          rw [HSM2.out]
          exact ⟨none, 0, 0, rfl, rfl, MtsIn.nil _ _ _⟩
  · have e : simM ms = ([], false) := by unfold simM; rw [if_neg hck]
    rw [e]
    obtain ⟨r, hr2⟩ : ∃ r, chkMs ms = r := ⟨_, rfl⟩
    rw [hr2] at HCH hck
    clear hr2
    go_enter Tryz.func21, Tryz.ntmps21
    go_wp2_with fail
    refine HCH.out.mono ?_
    rintro e w1 ⟨rfl, hb1⟩
    have hc2 : (r == (0 : Int)) = false := by simp [hck]
    go_wp2_with fail
    go_ret2
    exact ⟨⟨none, 0, 0, rfl, rfl, MtsIn.nil _ _ _⟩, hb1⟩
end Go.Proofs.YthckgmbadmilfaaGreat

namespace Go.Proofs.YthckgmbadmilfaaGreat
open Go.RowKit

theorem eqlM_at : EqlAt Tryz.prog 39 (fun x => .agg (encM x).toArray) (fun x y => decide (x = y)) := by
  refine ⟨fun x y w => ?_, GuardAt.agg _ (by kernel_rfl)⟩
  have hS : Tryz.prog.underlying 39 = some (.struct (Tryz.prog.fieldsOf 39)) := by kernel_rfl
  have hp : Tryz.prog.stoodInHeld 39 = false := by kernel_rfl
  simp only
  rw [← eqM x y]
  simp only [encM]
  rw [run_eql_struct, show (10000 : Nat) = 9999 + 1 from rfl, run_equalIn_agg w 9999 39 _ _ hS hp]
  simp only [Program.fieldsOf, Tryz.underlying39]
  go_simp
  by_cases h1 : x.kind = y.kind <;> by_cases h2 : x.name.toList = y.name.toList <;> by_cases h3 : x.value.toList = y.value.toList <;> simp [h1, h2, h3]
set_option maxRecDepth 100000 in
set_option maxHeartbeats 1000000 in
theorem indexM_none (A : Option Addr) (c : Nat) (m : Mt) (w : World) :
    Calls Tryz.prog 131 #[.slice A 0 c, .agg #[.int .i64 m.kind, .string m.name, .string m.value]] w fun e w' => e = .returned (.int .i64 (-1)) ∧ Below w.heap.size w w' := by
  have HB0 : Hid (Below w.heap.size w (w.alloc (.cells #[.int .i64 m.kind, .string m.name, .string m.value] 39))) := Lib.hid ((Below.refl _ _).alloc (Nat.le_refl _) _)
  go_enter Tryz.func131, Tryz.ntmps131
  go_wp2_with fail
  go_loopw [8] (fun i wr => i = .int .i64 0 ∧ Hid (Below w.heap.size w wr)) (fun _ _ => 0)
  case atStart => exact ⟨rfl, HB0⟩
  case round =>
    obtain ⟨rfl, HW⟩ := hrel
    go_wp2_with fail
    go_ret
    exact ⟨rfl, HW.out⟩
set_option maxRecDepth 100000 in
set_option maxHeartbeats 1000000 in
theorem containsM_none (A : Option Addr) (c : Nat) (m : Mt) (w : World) :
    Calls Tryz.prog 96 #[.slice A 0 c, .agg #[.int .i64 m.kind, .string m.name, .string m.value]] w fun e w' => e = .returned (.bool false) ∧ Below w.heap.size w w' := by
  have HX := Lib.hid (At.new w #[.int .i64 m.kind, .string m.name, .string m.value] 39)
  have HB0 : Hid (Below w.heap.size w (w.alloc (.cells #[.int .i64 m.kind, .string m.name, .string m.value] 39))) := Lib.hid ((Below.refl _ _).alloc (Nat.le_refl _) _)
  go_enter Tryz.func96, Tryz.ntmps96
  go_upto_region 1 with fail
  generalize w.alloc (.cells #[.int .i64 m.kind, .string m.name, .string m.value] 39) = w0 at *
  have c0 := HX.out.cell 0
  have c1 := HX.out.cell 1
  have c2 := HX.out.cell 2
  go_wp2_with fail
  refine (indexM_none A c m w0).mono ?_
  rintro e w1 ⟨rfl, hb⟩
  have HB1 := Lib.hid (HB0.out.trans (hb.mono HB0.out.size))
  clear hb
  go_wp2_with fail
  go_ret
  exact ⟨rfl, HB1.out⟩
theorem containsM_any (A : Option Addr) (c : Nat) (gs : List Mt) (m : Mt) (w : World) (hm : MtsIn w.heap.size w A gs) (hl : gs.length ≤ 100000) :
    Calls Tryz.prog 96 #[.slice A gs.length c, .agg #[.int .i64 m.kind, .string m.name, .string m.value]] w fun e w' => e = .returned (.bool (gs.any fun x => decide (x = m))) ∧ Below w.heap.size w w' := by
  by_cases h0 : gs = []
  · subst h0
    exact containsM_none A c m w
  · obtain ⟨b, o, rfl, hb, hc⟩ := hm.encM h0
    have hx := AnyQ.slices_Contains Tryz.ctM 3 aggM sizM encM (fun _ => rfl) _ eqlM_at b o gs.length c gs m w (Nat.le_refl _) (by omega) hc
    rw [List.take_length] at hx
    have e : (gs.any fun y => decide (m = y)) = gs.any fun x => decide (x = m) := by
      refine congrArg gs.any (funext fun y => ?_)
      exact decide_eq_decide.2 ⟨Eq.symm, Eq.symm⟩
    rw [e] at hx
    exact hx
/-- What the closure of implies tells. -/
def clI (m y : Mt) : Bool := decide (y.kind = 4) && Rx.matchR (bs y.value) (bs m.value)
set_option maxRecDepth 100000 in
set_option maxHeartbeats 2000000 in
theorem impliesCl_any (m y : Mt) (Bm : Nat) (w : World) (hm : At w Bm #[.int .i64 m.kind, .string m.name, .string m.value] 39) (hv : m.value.size ≤ 40000) :
    Calls Tryz.prog 97 #[.agg #[.int .i64 y.kind, .string y.name, .string y.value], .pointer (some ⟨Bm, 0, none⟩)] w fun e w' => e = .returned (.bool (clI m y)) ∧ Below w.heap.size w w' := by
  have HY := Lib.hid (At.new w #[.int .i64 y.kind, .string y.name, .string y.value] 39)
  have HM := Lib.hid (hm.alloc (.cells #[.int .i64 y.kind, .string y.name, .string y.value] 39))
  have HB0 : Hid (Below w.heap.size w (w.alloc (.cells #[.int .i64 y.kind, .string y.name, .string y.value] 39))) := Lib.hid ((Below.refl _ _).alloc (Nat.le_refl _) _)
  have HV := Lib.hid hv
  clear hm hv
  go_enter Tryz.func97, Tryz.ntmps97
  go_upto_region 1 with fail
  generalize w.alloc (.cells #[.int .i64 y.kind, .string y.name, .string y.value] 39) = w0 at *
  have c0 := HY.out.cell 0
  have c2 := HY.out.cell 2
  have d2 := HM.out.cell 2
  have HCO := Lib.hid (match_any y.value m.value w0 HV.out)
  by_cases h3 : y.kind = 4
  · have HR : Hid (clI m y = Rx.matchR (bs y.value) (bs m.value)) := Lib.hid (by unfold clI; rw [decide_eq_true h3]; rfl)
    have h3b : (y.kind == 4) = true := by rw [h3]; rfl
    clear h3
    generalize Rx.matchR (bs y.value) (bs m.value) = r at *
    go_wp2_with fail
    refine HCO.out.mono ?_
    rintro e w1 ⟨rfl, hb⟩
    have HB1 := Lib.hid (HB0.out.trans (hb.mono HB0.out.size))
    clear hb HCO
    go_wp2_with fail
    go_ret
    exact ⟨ret_bool HR.out.symm, HB1.out⟩
  · have HR : Hid (clI m y = false) := Lib.hid (by unfold clI; rw [decide_eq_false h3]; rfl)
    have h3b : (y.kind == 4) = false := beq_eq_false_iff_ne.2 h3
    clear h3
    go_wp2_with fail
    go_ret
    exact ⟨ret_bool HR.out.symm, HB0.out⟩
theorem imp_grp (ms : List Mt) (m : Mt) : implM ms m = ((grp ms m.name).any (fun x => decide (x = m)) || excldM ms m || (match eqlM ms m.name with | some q => fitM m q.value | none => false) || (decide (m.kind = 2) && (grp ms m.name).any (clI m))) := by
  rw [any_grp, any_grp]
  unfold implM
  have e1 : (fun x : Mt => decide (x = m)) = fun x => decide (x.name = m.name) && decide (x = m) := by
    funext x
    by_cases h : x = m
    · subst h; simp
    · simp [h]
  have e2 : (fun y : Mt => decide (y.name = m.name) && decide (y.kind = 4) && Rx.matchR (bs y.value) (bs m.value)) = fun y => decide (y.name = m.name) && clI m y := by
    funext y
    unfold clI
    rw [Bool.and_assoc]
  rw [e1, e2]
  cases eqlM ms m.name <;> rfl
set_option maxRecDepth 100000 in
set_option maxHeartbeats 4000000 in
theorem implies_any (b : Nat) (ms : List Mt) (m : Mt) (w : World) (hs : SetIn w.heap.size w b ms) (hm : SzM m) (hml : ms.length ≤ 1000) (hq : ∀ q ∈ ms, q.value.size ≤ 40000) :
    Calls Tryz.prog 60 #[.agg #[.map (some b)], .agg #[.int .i64 m.kind, .string m.name, .string m.value]] w fun e w' => e = .returned (.bool (implM ms m)) ∧ Below w.heap.size w w' := by
  have z1 : (w.alloc (.cells #[.map (some b)] 65)).heap.size = w.heap.size + 1 := by simp
  have a1 := At.new (w.alloc (.cells #[.map (some b)] 65)) #[.int .i64 m.kind, .string m.name, .string m.value] 39
  rw [z1] at a1
  have HX := Lib.hid a1
  have HB0 : Hid (Below w.heap.size w ((w.alloc (.cells #[.map (some b)] 65)).alloc (.cells #[.int .i64 m.kind, .string m.name, .string m.value] 39))) := Lib.hid (((Below.refl _ _).alloc (Nat.le_refl _) _).alloc (by simp) _)
  have HS := Lib.hid (((At.new w #[.map (some b)] 65)).alloc (.cells #[.int .i64 m.kind, .string m.name, .string m.value] 39))
  have HSET := Lib.hid hs
  have HMS := Lib.hid hm
  have HQ := Lib.hid hq
  have HGL := Lib.hid (grp_le ms m.name)
  have HIMP := Lib.hid (imp_grp ms m)
  clear a1 z1 hs hm hq
  go_enter Tryz.func60, Tryz.ntmps60
  go_upto_region 1 with fail
  generalize (w.alloc (.cells #[.map (some b)] 65)).alloc (.cells #[.int .i64 m.kind, .string m.name, .string m.value] 39) = w0 at *
  have HZ0 := Lib.hid ((HSET.out.below HB0.out).mono HB0.out.size)
  obtain ⟨A, c, hrun, hmt⟩ := HZ0.out.look m.name (by have := HMS.out.name; unfold maxLen; omega)
  have HCT := Lib.hid (containsM_any A c (grp ms m.name) m w0 hmt (by have := HGL.out; omega))
  clear hmt
  have c0 := HS.out.cell 0
  have d0 := HX.out.cell 0
  have d1 := HX.out.cell 1
  have d2 := HX.out.cell 2
  rcases hr1 : (grp ms m.name).any (fun x => decide (x = m)) with _ | _
  · rw [hr1] at HCT HIMP
    clear hr1
    go_wp2_with fail
    refine HCT.out.mono ?_
    rintro e w1 ⟨rfl, hb⟩
    have HB1 := Lib.hid (HB0.out.trans (hb.mono HB0.out.size))
    have HX1 := Lib.hid (HX.out.below hb)
    have HS1 := Lib.hid (HS.out.below hb)
    have HZ1 := Lib.hid ((HZ0.out.below hb).mono hb.size)
    clear hb HCT c0 d0 d1 d2 hrun HZ0
    have HEX := Lib.hid (excluded_any b ms m w1 HZ1.out HMS.out hml)
    have c0 := HS1.out.cell 0
    have d0 := HX1.out.cell 0
    have d1 := HX1.out.cell 1
    have d2 := HX1.out.cell 2
    rcases hr2 : excldM ms m with _ | _
    · rw [hr2] at HEX HIMP
      clear hr2
      go_wp2_with fail
      refine HEX.out.mono ?_
      rintro e w2 ⟨rfl, hb⟩
      have HB2 := Lib.hid (HB1.out.trans (hb.mono HB1.out.size))
      have HX2 := Lib.hid (HX1.out.below hb)
      have HS2 := Lib.hid (HS1.out.below hb)
      have HZ2 := Lib.hid ((HZ1.out.below hb).mono hb.size)
      clear hb HEX c0 d0 d1 d2 HZ1
      have HF := Lib.hid (first_any b ms m.name w2 HZ2.out HMS.out.name hml)
      have c0 := HS2.out.cell 0
      have d1 := HX2.out.cell 1
      go_wp2_with fail
      refine HF.out.mono ?_
      rintro e w3 ⟨rfl, hb⟩
      have HB3 := Lib.hid (HB2.out.trans (hb.mono HB2.out.size))
      have HX3 := Lib.hid (HX2.out.below hb)
      have HS3 := Lib.hid (HS2.out.below hb)
      have HZ3 := Lib.hid ((HZ2.out.below hb).mono hb.size)
      clear hb HF c0 d1 HZ2
      rcases he2 : eqlM ms m.name with _ | q
      · have HV : Hid (firstV ms m.name = .tuple #[.agg #[.int .i64 0, .string ⟨#[]⟩, .string ⟨#[]⟩], .bool false]) := Lib.hid (by unfold firstV; rw [he2])
        have HR : Hid (implM ms m = (decide (m.kind = 2) && (grp ms m.name).any (clI m))) := Lib.hid (by rw [HIMP.out, he2]; simp)
        rw [HV.out]
        have HB4 : Hid (Below w.heap.size w (w3.alloc (.cells #[.int .i64 0, .string ⟨#[]⟩, .string ⟨#[]⟩] 39))) := Lib.hid (HB3.out.alloc HB3.out.size _)
        have hbw : Below w3.heap.size w3 (w3.alloc (.cells #[.int .i64 0, .string ⟨#[]⟩, .string ⟨#[]⟩] 39)) := (Below.refl _ _).alloc (Nat.le_refl _) _
        have HX4 := Lib.hid (HX3.out.alloc (.cells #[.int .i64 0, .string ⟨#[]⟩, .string ⟨#[]⟩] 39))
        have HS4 := Lib.hid (HS3.out.alloc (.cells #[.int .i64 0, .string ⟨#[]⟩, .string ⟨#[]⟩] 39))
        have HZ4 := Lib.hid ((HZ3.out.below hbw).mono hbw.size)
        clear hbw
        clear he2 HV HIMP
        go_upto_region 4 with fail
        generalize w3.alloc (.cells #[.int .i64 0, .string ⟨#[]⟩, .string ⟨#[]⟩] 39) = w4 at *
        go_upto_region 6 with fail
        have c0 := HS4.out.cell 0
        have d0 := HX4.out.cell 0
        have d1 := HX4.out.cell 1
        by_cases h2 : m.kind = 2
        · have h2b : (m.kind == 2) = true := by rw [h2]; rfl
          have HR2 : Hid (implM ms m = (grp ms m.name).any (clI m)) := Lib.hid (by rw [HR.out, decide_eq_true h2]; simp)
          obtain ⟨A6, c6, hrun6, hmt6⟩ := HZ4.out.look m.name (by have := HMS.out.name; unfold maxLen; omega)
          have eg : ∀ args w, (callFunc 97 args).run Tryz.prog w = .ok (.enter 97 args) w := enters_of Tryz.func97 (by kernel_rfl) rfl
          have HCF := Lib.hid (containsC_any 97 (w.heap.size + 1) (clI m) eg A6 c6 (grp ms m.name) w4 hmt6 (by have := HGL.out; omega) (fun W y _ hb => impliesCl_any m y (w.heap.size + 1) W (HX4.out.below hb) HMS.out.value))
          clear eg hmt6 h2 HR
          generalize (grp ms m.name).any (clI m) = r at *
          go_wp2_with fail
          refine HCF.out.mono ?_
          rintro e w9 ⟨rfl, hb⟩
          have HB9 := Lib.hid (HB4.out.trans (hb.mono HB4.out.size))
          clear hb HCF
          go_wp2_with fail
          go_ret
          exact ⟨ret_bool HR2.out.symm, HB9.out⟩
        · have h2b : (m.kind == 2) = false := beq_eq_false_iff_ne.2 h2
          have HR2 : Hid (implM ms m = false) := Lib.hid (by rw [HR.out, decide_eq_false h2]; simp)
          clear h2 HR
          go_wp2_with fail
          go_ret
          exact ⟨ret_bool HR2.out.symm, HB4.out⟩
      · have HV : Hid (firstV ms m.name = .tuple #[.agg #[.int .i64 q.kind, .string q.name, .string q.value], .bool true]) := Lib.hid (by unfold firstV; rw [he2])
        have HIMP2 : Hid (implM ms m = (fitM m q.value || (decide (m.kind = 2) && (grp ms m.name).any (clI m)))) := Lib.hid (by rw [HIMP.out, he2]; simp)
        have hqm : q ∈ ms := List.mem_of_find?_eq_some he2
        have HQS := Lib.hid (HQ.out q hqm)
        rw [HV.out]
        have HB4 : Hid (Below w.heap.size w (w3.alloc (.cells #[.int .i64 q.kind, .string q.name, .string q.value] 39))) := Lib.hid (HB3.out.alloc HB3.out.size _)
        have hbw : Below w3.heap.size w3 (w3.alloc (.cells #[.int .i64 q.kind, .string q.name, .string q.value] 39)) := (Below.refl _ _).alloc (Nat.le_refl _) _
        have HX4 := Lib.hid (HX3.out.alloc (.cells #[.int .i64 q.kind, .string q.name, .string q.value] 39))
        have HS4 := Lib.hid (HS3.out.alloc (.cells #[.int .i64 q.kind, .string q.name, .string q.value] 39))
        have HZ4 := Lib.hid ((HZ3.out.below hbw).mono hbw.size)
        clear hbw
        have HQ4 := Lib.hid (At.new w3 #[.int .i64 q.kind, .string q.name, .string q.value] 39)
        clear he2 HV HIMP hqm
        go_upto_region 4 with fail
        generalize w3.alloc (.cells #[.int .i64 q.kind, .string q.name, .string q.value] 39) = w4 at *
        generalize w3.heap.size = Bq at *
        have HFI := Lib.hid (fit_any m q.value w4 HQS.out)
        have d0 := HX4.out.cell 0
        have d1 := HX4.out.cell 1
        have d2 := HX4.out.cell 2
        have q2 := HQ4.out.cell 2
        rcases hr3 : fitM m q.value with _ | _
        · have HR : Hid (implM ms m = (decide (m.kind = 2) && (grp ms m.name).any (clI m))) := Lib.hid (by rw [HIMP2.out, hr3]; simp)
          rw [hr3] at HFI
          clear hr3 HIMP2
          go_wp2_with (fail)
          refine HFI.out.mono ?_
          rintro e w5 ⟨rfl, hb⟩
          have HB5 := Lib.hid (HB4.out.trans (hb.mono HB4.out.size))
          have HX5 := Lib.hid (HX4.out.below hb)
          have HS5 := Lib.hid (HS4.out.below hb)
          have HZ5 := Lib.hid ((HZ4.out.below hb).mono hb.size)
          clear hb HFI d0 d1 d2 q2 HZ4
          go_upto_region 6 with fail
          have c0 := HS5.out.cell 0
          have d0 := HX5.out.cell 0
          have d1 := HX5.out.cell 1
          by_cases h2 : m.kind = 2
          · have h2b : (m.kind == 2) = true := by rw [h2]; rfl
            have HR2 : Hid (implM ms m = (grp ms m.name).any (clI m)) := Lib.hid (by rw [HR.out, decide_eq_true h2]; simp)
            obtain ⟨A6, c6, hrun6, hmt6⟩ := HZ5.out.look m.name (by have := HMS.out.name; unfold maxLen; omega)
            have eg : ∀ args w, (callFunc 97 args).run Tryz.prog w = .ok (.enter 97 args) w := enters_of Tryz.func97 (by kernel_rfl) rfl
            have HCF := Lib.hid (containsC_any 97 (w.heap.size + 1) (clI m) eg A6 c6 (grp ms m.name) w5 hmt6 (by have := HGL.out; omega) (fun W y _ hb => impliesCl_any m y (w.heap.size + 1) W (HX5.out.below hb) HMS.out.value))
            clear eg hmt6 h2 HR
            generalize (grp ms m.name).any (clI m) = r at *
            go_wp2_with fail
            refine HCF.out.mono ?_
            rintro e w9 ⟨rfl, hb⟩
            have HB9 := Lib.hid (HB5.out.trans (hb.mono HB5.out.size))
            clear hb HCF
            go_wp2_with fail
            go_ret
            exact ⟨ret_bool HR2.out.symm, HB9.out⟩
          · have h2b : (m.kind == 2) = false := beq_eq_false_iff_ne.2 h2
            have HR2 : Hid (implM ms m = false) := Lib.hid (by rw [HR.out, decide_eq_false h2]; simp)
            clear h2 HR
            go_wp2_with fail
            go_ret
            exact ⟨ret_bool HR2.out.symm, HB5.out⟩
        · have HR : Hid (implM ms m = true) := Lib.hid (by rw [HIMP2.out, hr3]; simp)
          rw [hr3] at HFI
          clear hr3 HIMP2
          go_wp2_with (fail)
          refine HFI.out.mono ?_
          rintro e w5 ⟨rfl, hb⟩
          have HB5 := Lib.hid (HB4.out.trans (hb.mono HB4.out.size))
          clear hb HFI
          go_wp2_with fail
          go_ret
          exact ⟨ret_bool HR.out.symm, HB5.out⟩
    · have HR : Hid (implM ms m = true) := Lib.hid (by rw [HIMP.out, hr2]; simp)
      rw [hr2] at HEX
      clear hr2 HIMP
      go_wp2_with fail
      refine HEX.out.mono ?_
      rintro e w2 ⟨rfl, hb⟩
      have HB2 := Lib.hid (HB1.out.trans (hb.mono HB1.out.size))
      clear hb HEX
      go_wp2_with fail
      go_ret
      exact ⟨ret_bool HR.out.symm, HB2.out⟩
  · have HR : Hid (implM ms m = true) := Lib.hid (by rw [HIMP.out, hr1]; simp)
    rw [hr1] at HCT
    clear hr1 HIMP
    go_wp2_with fail
    refine HCT.out.mono ?_
    rintro e w1 ⟨rfl, hb⟩
    have HB1 := Lib.hid (HB0.out.trans (hb.mono HB0.out.size))
    clear hb HCT
    go_wp2_with fail
    go_ret
    exact ⟨ret_bool HR.out.symm, HB1.out⟩
end Go.Proofs.YthckgmbadmilfaaGreat
