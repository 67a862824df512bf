/- The walks of Match, Find and Check. -/
import Derived.Test.YtheblleadjbndaaPl
import Derived.Test.YtheblleadjbndaaMf
import Derived.Test.YtheblleadjbndaaFf
import Derived.Test.YtheblleadjbndaaSpecE
namespace Go.Proofs.Ytheblleadjbndaa
open Go.RowKit Rx

set_option maxHeartbeats 400000 in
theorem check_any (p : ByteArray) (W : World) : Calls Try.prog 19 #[.string p] W fun e w' => e = .returned (.int .i64 (checkR (bs p) : Nat)) ∧ Below W.heap.size W w' := by
  have hl : (bs p).length = p.size := by simp [bs]
  by_cases h : 200 < p.size
  · have HE : Hid (checkR (bs p) = 4) := Lib.hid (by unfold checkR; rw [if_pos (by omega)])
    have h1 : (p.size : Int) > 200 := by omega
    clear h hl
    rw [HE.out]
    go_enter Try.func19, Try.ntmps19
    go_wp2_with fail
    go_ret
    exact ⟨rfl, Below.refl _ _⟩
  · have h1 : ¬ (p.size : Int) > 200 := by omega
    have HP := Lib.hid (parse_any p W)
    have HE : Hid (checkR (bs p) = if (parse (bs p)).isSome then 0 else 3) := Lib.hid (by unfold checkR; rw [if_neg (by omega)])
    clear h hl
    go_enter Try.func19, Try.ntmps19
    go_wp2_with fail
    refine (HP.out).mono ?_
    rintro e w1 ⟨hb, hp⟩
    have HB := Lib.hid hb
    clear hb
    rcases ha : parse (bs p) with _ | a
    · rw [ha] at hp
      simp only at hp
      obtain rfl := hp
      have HE2 : Hid (checkR (bs p) = 3) := Lib.hid (by rw [HE.out, ha]; rfl)
      clear ha HP HE
      go_wp2_with fail
      go_ret
      exact ⟨by rw [HE2.out]; rfl, HB.out⟩
    · rw [ha] at hp
      simp only at hp
      obtain ⟨v, rfl, hv⟩ := hp
      have HE2 : Hid (checkR (bs p) = 0) := Lib.hid (by rw [HE.out, ha]; rfl)
      obtain ⟨vb, rfl⟩ := IsA.ptr a v hv
      clear ha HP HE hv
      unfold ptr
      go_wp2_with fail
      go_ret
      exact ⟨by rw [HE2.out]; rfl, HB.out⟩

set_option maxHeartbeats 1000000 in
theorem match_any (p s : ByteArray) (W : World) (hs : s.size ≤ 40000) : Calls Try.prog 14 #[.string p, .string s] W fun e w' => e = .returned (.bool (matchR (bs p) (bs s))) ∧ Below W.heap.size W w' := by
  have HS := Lib.hid hs
  clear hs
  have HP := Lib.hid (parse_any p W)
  go_enter Try.func14, Try.ntmps14
  go_wp2_with fail
  refine (HP.out).mono ?_
  rintro e w1 ⟨hb, hp⟩
  have HB := Lib.hid hb
  clear hb HP
  rcases ha : parse (bs p) with _ | a
  · rw [ha] at hp
    simp only at hp
    obtain rfl := hp
    have HE2 : Hid (matchR (bs p) (bs s) = false) := Lib.hid (by unfold matchR; rw [ha])
    clear ha
    go_wp2_with fail
    go_ret
    exact ⟨ret_bool HE2.out.symm, HB.out⟩
  · rw [ha] at hp
    simp only at hp
    obtain ⟨v, rfl, hv⟩ := hp
    have HE2 : Hid (matchR (bs p) (bs s) = match search a true (bs s) with | none => false | some x => x.2 == (bs s).length) := Lib.hid (by unfold matchR; rw [ha]; rfl)
    have hsz := parse_sz ha
    have HSZ := Lib.hid hsz
    have HBU := Lib.hid (build_any a _ w1 v hv (by omega))
    obtain ⟨vb, rfl⟩ := IsA.ptr a v hv
    clear ha hv hsz
    unfold ptr at HBU ⊢
    go_wp2_with fail
    refine (HBU.out).mono ?_
    rintro e w2 ⟨m, rfl, hm, hb2⟩
    have HF := Lib.hid (find_any true s _ _ w2 m (mach a).1 (mach a).2 hm (mach_ok a) (mach_lt a) (by have := mach_len a; have := HSZ.out; omega) HS.out (fun k hk => hk.2))
    have HB2 := Lib.hid hb2
    clear hm hb2 HBU
    unfold ptr at *
    go_wp2_with fail
    refine (HF.out).mono ?_
    rintro e w3 ⟨rfl, hb3⟩
    have HB3 : Hid (Below W.heap.size W w3) := Lib.hid (HB.out.trans ((HB2.out.trans (hb3.mono HB2.out.size)).mono HB.out.size))
    have HE3 : Hid (search a true (bs s) = findF (mach a).2 ((mach a).2.length + 1) (mach a).1 true (bs s) 0 [] (List.replicate (mach a).2.length 0) none) := Lib.hid rfl
    clear hb3 HF
    rw [← HE3.out]
    rcases hx : search a true (bs s) with _ | ⟨x1, x2⟩
    · have HE4 : Hid (matchR (bs p) (bs s) = false) := Lib.hid (by rw [HE2.out, hx])
      clear hx
      simp only [foundV, bestV, Option.isSome_none]
      go_wp2_with fail
      go_ret
      exact ⟨ret_bool HE4.out.symm, HB3.out.alloc HB3.out.size _⟩
    · have HE4 : Hid (matchR (bs p) (bs s) = ((x2 : Int) == (s.size : Int))) := Lib.hid (by
        rw [HE2.out, hx]
        have hl : (bs s).length = s.size := by simp [bs]
        rw [hl]
        show (x2 == s.size) = _
        by_cases e : x2 = s.size
        · simp [e]
        · have : ¬ (x2 : Int) = (s.size : Int) := by omega
          rw [beq_eq_false_iff_ne.2 e, beq_eq_false_iff_ne.2 this])
      clear hx
      simp only [foundV, bestV, Option.isSome_some]
      go_wp2_with fail
      go_ret
      exact ⟨ret_bool HE4.out.symm, HB3.out.alloc HB3.out.size _⟩

set_option maxHeartbeats 1000000 in
theorem find_pub (p s : ByteArray) (W : World) (hs : s.size ≤ 40000) : Calls Try.prog 17 #[.string p, .string s] W fun e w' => e = .returned (foundV (findR (bs p) (bs s))) ∧ Below W.heap.size W w' := by
  have HS := Lib.hid hs
  clear hs
  have HP := Lib.hid (parse_any p (W.alloc (.cells #[.int .i64 0, .int .i64 0] 26)))
  go_enter Try.func17, Try.ntmps17
  go_wp2_with fail
  refine (HP.out).mono ?_
  rintro e w1 ⟨hb, hp⟩
  have HB := Lib.hid hb
  have hrs : At w1 W.heap.size #[.int .i64 0, .int .i64 0] 26 := (At.new W #[.int .i64 0, .int .i64 0] 26).below hb
  have HBW : Hid (Below W.heap.size W w1) := Lib.hid (((Below.refl W.heap.size W).alloc (Nat.le_refl _) (.cells #[.int .i64 0, .int .i64 0] 26)).trans (hb.mono (by show W.heap.size ≤ (W.heap.push _).size; simp)))
  have HRS := Lib.hid hrs
  clear hb HP hrs
  have hfin : ∀ (w : World), Below w1.heap.size w1 w → ∀ y1 y2 : Int, At ((w.setCell ⟨W.heap.size, 0, none⟩ (.int .i64 y1)).setCell ⟨W.heap.size, 1, none⟩ (.int .i64 y2)) W.heap.size #[.int .i64 y1, .int .i64 y2] 26 ∧ Below W.heap.size W ((w.setCell ⟨W.heap.size, 0, none⟩ (.int .i64 y1)).setCell ⟨W.heap.size, 1, none⟩ (.int .i64 y2)) := fun w hw y1 y2 =>
    ⟨((HRS.out.below hw).set 0 (.int .i64 y1)).set 1 (.int .i64 y2), ((HBW.out.trans (hw.mono HBW.out.size)).setCell (Nat.le_refl _) _).setCell (Nat.le_refl _) _⟩
  have HFIN := Lib.hid hfin
  clear hfin
  rcases ha : parse (bs p) with _ | a
  · rw [ha] at hp
    simp only at hp
    obtain rfl := hp
    have HE2 : Hid (findR (bs p) (bs s) = none) := Lib.hid (by unfold findR; rw [ha]; rfl)
    have d3 : w1.cell? ⟨W.heap.size, 0, none⟩ = some (.int .i64 0) := HRS.out.cell 0
    have d4 : w1.cell? ⟨W.heap.size, 1, none⟩ = some (.int .i64 0) := HRS.out.cell 1
    have d5 : w1.frozen? ⟨W.heap.size, 0, none⟩ = false := HRS.out.free 0
    have d6 : w1.frozen? ⟨W.heap.size, 1, none⟩ = false := HRS.out.free 1
    clear ha
    go_wp2_with fail
    have q0 := (HFIN.out w1 (Below.refl _ _) 0 0).1.cell 0
    have q1 := (HFIN.out w1 (Below.refl _ _) 0 0).1.cell 1
    refine bodyPost_ret (v := .tuple #[.agg #[.int .i64 0, .int .i64 0], .bool false]) (by simp [results, Try.results17, go_sem, q0, q1]) rfl ⟨by rw [HE2.out]; rfl, (HFIN.out w1 (Below.refl _ _) 0 0).2⟩
  · rw [ha] at hp
    simp only at hp
    obtain ⟨v, rfl, hv⟩ := hp
    have HE2 : Hid (findR (bs p) (bs s) = search a false (bs s)) := Lib.hid (by unfold findR; rw [ha]; rfl)
    have hsz := parse_sz ha
    have HSZ := Lib.hid hsz
    have HBU := Lib.hid (build_any a _ w1 v hv (by omega))
    obtain ⟨vb, rfl⟩ := IsA.ptr a v hv
    clear ha hv hsz
    unfold ptr at HBU ⊢
    go_wp2_with fail
    refine (HBU.out).mono ?_
    rintro e w2 ⟨m, rfl, hm, hb2⟩
    have HF := Lib.hid (find_any false s _ _ w2 m (mach a).1 (mach a).2 hm (mach_ok a) (mach_lt a) (by have := mach_len a; have := HSZ.out; omega) HS.out (fun k hk => hk.2))
    have HB2 := Lib.hid hb2
    clear hm hb2 HBU
    unfold ptr at *
    go_wp2_with fail
    refine (HF.out).mono ?_
    rintro e w3 ⟨rfl, hb3⟩
    have HB3 : Hid (Below w1.heap.size w1 w3) := Lib.hid (HB2.out.trans (hb3.mono HB2.out.size))
    have HE3 : Hid (search a false (bs s) = findF (mach a).2 ((mach a).2.length + 1) (mach a).1 false (bs s) 0 [] (List.replicate (mach a).2.length 0) none) := Lib.hid rfl
    have hrs := HRS.out.below HB3.out
    have d3 : w3.cell? ⟨W.heap.size, 0, none⟩ = some (.int .i64 0) := hrs.cell 0
    have d4 : w3.cell? ⟨W.heap.size, 1, none⟩ = some (.int .i64 0) := hrs.cell 1
    have d5 : w3.frozen? ⟨W.heap.size, 0, none⟩ = false := hrs.free 0
    have d6 : w3.frozen? ⟨W.heap.size, 1, none⟩ = false := hrs.free 1
    clear hb3 HF hrs
    rw [← HE3.out]
    obtain ⟨y1, y2, hy⟩ : ∃ y1 y2 : Int, bestV (search a false (bs s)) = #[.int .i64 y1, .int .i64 y2] := by rcases search a false (bs s) with _ | x <;> exact ⟨_, _, rfl⟩
    have HE4 : Hid (foundV (findR (bs p) (bs s)) = .tuple #[.agg #[.int .i64 y1, .int .i64 y2], .bool (search a false (bs s)).isSome]) := Lib.hid (by rw [HE2.out]; unfold foundV; rw [hy])
    rw [show foundV (search a false (bs s)) = .tuple #[.agg #[.int .i64 y1, .int .i64 y2], .bool (search a false (bs s)).isSome] from by unfold foundV; rw [hy]]
    generalize (search a false (bs s)).isSome = z at *
    clear hy
    go_wp2_with fail
    have q0 := (HFIN.out w3 HB3.out y1 y2).1.cell 0
    have q1 := (HFIN.out w3 HB3.out y1 y2).1.cell 1
    refine bodyPost_ret (v := .tuple #[.agg #[.int .i64 y1, .int .i64 y2], .bool z]) (by simp [results, Try.results17, go_sem, q0, q1]) rfl ⟨by rw [HE4.out], (HFIN.out w3 HB3.out y1 y2).2⟩
end Go.Proofs.Ytheblleadjbndaa
