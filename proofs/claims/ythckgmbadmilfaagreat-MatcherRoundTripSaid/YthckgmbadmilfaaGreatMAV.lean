/- The walks of Match, Find and Check. Walks: the checks of matchers (the program's). Matchers in plain Lean: their order, and ordered lists without repetition. -/
import Derived.Test.YthckgmbadmilfaaGreatMAO
import Derived.Test.YthckgmbadmilfaaGreatMAQ
import Derived.Test.YthckgmbadmilfaaGreatMAU
import Derived.Test.YthckgmbadmilfaaGreatMAB
import Derived.Test.YthckgmbadmilfaaGreatMAG
import Derived.Test.YthckgmbadmilfaaGreatMAI
namespace Go.Proofs.YthckgmbadmilfaaGreat
open Go.RowKit Rx

set_option maxHeartbeats 400000 in
theorem check_any6 (p : ByteArray) (W : World) : Calls Tryz.prog 87 #[.string p] W fun e w' => e = .returned (.int .i64 (checkR (bs p) : Nat)) ∧ Below W.heap.size W w' := by
  have hl : (bs p).length = p.size := by simp [bs]
  by_cases h : 200 < p.size
  · have HE : Hid (checkR (bs p) = 4) := Lib.hid (by unfold checkR; rw [if_pos (by omega)])
    have h1 : (p.size : Int) > 200 := by omega
    clear h hl
    rw [HE.out]
    go_enter Tryz.func87, Tryz.ntmps87
    go_wp2_with fail
    go_ret
    exact ⟨rfl, Below.refl _ _⟩
  · have h1 : ¬ (p.size : Int) > 200 := by omega
    have HP := Lib.hid (parse_any6 p W)
    have HE : Hid (checkR (bs p) = if (parse (bs p)).isSome then 0 else 3) := Lib.hid (by unfold checkR; rw [if_neg (by omega)])
    clear h hl
    go_enter Tryz.func87, Tryz.ntmps87
    go_wp2_with fail
    refine (HP.out).mono ?_
    rintro e w1 ⟨hb, hp⟩
    have HB := Lib.hid hb
    clear hb
    rcases ha : parse (bs p) with _ | a
    · rw [ha] at hp
      simp only at hp
      obtain rfl := hp
      have HE2 : Hid (checkR (bs p) = 3) := Lib.hid (by rw [HE.out, ha]; rfl)
      clear ha HP HE
      go_wp2_with fail
      go_ret
      exact ⟨by rw [HE2.out]; rfl, HB.out⟩
    · rw [ha] at hp
      simp only at hp
      obtain ⟨v, rfl, hv⟩ := hp
      have HE2 : Hid (checkR (bs p) = 0) := Lib.hid (by rw [HE.out, ha]; rfl)
      obtain ⟨vb, rfl⟩ := IsA.ptr a v hv
      clear ha HP HE hv
      unfold ptr
      go_wp2_with fail
      go_ret
      exact ⟨by rw [HE2.out]; rfl, HB.out⟩

set_option maxHeartbeats 1000000 in
theorem match_any (p s : ByteArray) (W : World) (hs : s.size ≤ 40000) : Calls Tryz.prog 84 #[.string p, .string s] W fun e w' => e = .returned (.bool (matchR (bs p) (bs s))) ∧ Below W.heap.size W w' := by
  have HS := Lib.hid hs
  clear hs
  have HP := Lib.hid (parse_any6 p W)
  go_enter Tryz.func84, Tryz.ntmps84
  go_wp2_with fail
  refine (HP.out).mono ?_
  rintro e w1 ⟨hb, hp⟩
  have HB := Lib.hid hb
  clear hb HP
  rcases ha : parse (bs p) with _ | a
  · rw [ha] at hp
    simp only at hp
    obtain rfl := hp
    have HE2 : Hid (matchR (bs p) (bs s) = false) := Lib.hid (by unfold matchR; rw [ha])
    clear ha
    go_wp2_with fail
    go_ret
    exact ⟨ret_bool HE2.out.symm, HB.out⟩
  · rw [ha] at hp
    simp only at hp
    obtain ⟨v, rfl, hv⟩ := hp
    have HE2 : Hid (matchR (bs p) (bs s) = match search a true (bs s) with | none => false | some x => x.2 == (bs s).length) := Lib.hid (by unfold matchR; rw [ha]; rfl)
    have hsz := parse_sz ha
    have HSZ := Lib.hid hsz
    have HBU := Lib.hid (build_any a _ w1 v hv (by omega))
    obtain ⟨vb, rfl⟩ := IsA.ptr a v hv
    clear ha hv hsz
    unfold ptr at HBU ⊢
    go_wp2_with fail
    refine (HBU.out).mono ?_
    rintro e w2 ⟨m, rfl, hm, hb2⟩
    have HF := Lib.hid (find_any true s _ _ w2 m (mach a).1 (mach a).2 hm (mach_ok a) (mach_lt a) (by have := mach_len a; have := HSZ.out; omega) HS.out (fun k hk => hk.2))
    have HB2 := Lib.hid hb2
    clear hm hb2 HBU
    unfold ptr at *
    go_wp2_with fail
    refine (HF.out).mono ?_
    rintro e w3 ⟨rfl, hb3⟩
    have HB3 : Hid (Below W.heap.size W w3) := Lib.hid (HB.out.trans ((HB2.out.trans (hb3.mono HB2.out.size)).mono HB.out.size))
    have HE3 : Hid (search a true (bs s) = findF (mach a).2 ((mach a).2.length + 1) (mach a).1 true (bs s) 0 [] (List.replicate (mach a).2.length 0) none) := Lib.hid rfl
    clear hb3 HF
    rw [← HE3.out]
    rcases hx : search a true (bs s) with _ | ⟨x1, x2⟩
    · have HE4 : Hid (matchR (bs p) (bs s) = false) := Lib.hid (by rw [HE2.out, hx])
      clear hx
      simp only [foundV, bestV, Option.isSome_none]
      go_wp2_with fail
      go_ret
      exact ⟨ret_bool HE4.out.symm, HB3.out.alloc HB3.out.size _⟩
    · have HE4 : Hid (matchR (bs p) (bs s) = ((x2 : Int) == (s.size : Int))) := Lib.hid (by
        rw [HE2.out, hx]
        have hl : (bs s).length = s.size := by simp [bs]
        rw [hl]
        show (x2 == s.size) = _
        by_cases e : x2 = s.size
        · simp [e]
        · have : ¬ (x2 : Int) = (s.size : Int) := by omega
          rw [beq_eq_false_iff_ne.2 e, beq_eq_false_iff_ne.2 this])
      clear hx
      simp only [foundV, bestV, Option.isSome_some]
      go_wp2_with fail
      go_ret
      exact ⟨ret_bool HE4.out.symm, HB3.out.alloc HB3.out.size _⟩

end Go.Proofs.YthckgmbadmilfaaGreat

namespace Go.Proofs.YthckgmbadmilfaaGreat
open Go.RowKit

theorem labs_one {w : World} {b : Nat} {t : TypeId} {x : Lab} (h : At w b x.cells t) : LabsIn w.heap.size w (some ⟨b, 0, none⟩) [x] := fun k hk => by
  have hk0 : k = 0 := by simp at hk; omega
  subst hk0
  refine ⟨b, 0, rfl, h.lt, fun j hj => ?_⟩
  simp only [Nat.zero_mul, Nat.zero_add, List.map_cons, List.map_nil, List.getElem_cons_zero]
  exact h.cell j
theorem chkL_x (n : ByteArray) : chkL [⟨n, ⟨#[120]⟩⟩] = if nameB n then 0 else 5 := by
  unfold chkL
  rw [if_neg (by simp)]
  unfold chkFrom
  by_cases h : nameB n = true
  · rw [if_pos h, if_pos h, if_neg (show ¬ (ByteArray.mk #[120]).size = 0 by decide), if_neg (show ¬ 200 < (ByteArray.mk #[120]).size by decide), if_neg (by simp)]
    rfl
  · rw [if_neg h, if_neg h]

theorem checkL_x (n : ByteArray) (V : World) (B : Nat) (h : At V B #[.string n, .string ⟨#[120]⟩] 51) :
    Calls Tryz.prog 86 #[.slice (some ⟨B, 0, none⟩) 1 1] V fun e w' => e = .returned (.int .i64 (if nameB n then 0 else 5)) ∧ Below V.heap.size V w' := by
  rw [← chkL_x]
  exact checkL_any (some ⟨B, 0, none⟩) 1 [⟨n, ⟨#[120]⟩⟩] V (labs_one h) (Nat.le_refl _)

set_option maxRecDepth 100000 in
set_option maxHeartbeats 1000000 in
theorem checkOne_any (m : Mt) (w : World) : Calls Tryz.prog 53 #[.agg #[.int .i64 m.kind, .string m.name, .string m.value]] w fun e w' => e = .returned (.int .i64 (chkM m)) ∧ Below w.heap.size w w' := by
  have HAT0 := Lib.hid (At.new w #[.int .i64 m.kind, .string m.name, .string m.value] 39)
  have HB0 : Hid (Below w.heap.size w (w.alloc (.cells #[.int .i64 m.kind, .string m.name, .string m.value] 39))) := Lib.hid ((Below.refl _ _).alloc (Nat.le_refl _) _)
  go_enter Tryz.func53, Tryz.ntmps53
  go_upto_region 1 with fail
  generalize w.alloc (.cells #[.int .i64 m.kind, .string m.name, .string m.value] 39) = w0 at *
  have c0 := HAT0.out.cell 0
  have c1 := HAT0.out.cell 1
  have c2 := HAT0.out.cell 2
  by_cases hk : m.kind < 1 ∨ 4 < m.kind
  · have HR : Hid (chkM m = 8) := Lib.hid (by unfold chkM; rw [if_pos hk])
    rcases hk with hk | hk
    · go_wp2_with fail
      go_ret
      exact ⟨ret_int HR.out.symm, HB0.out⟩
    · have hk2 : ¬ m.kind < 1 := by omega
      go_wp2_with fail
      go_ret
      exact ⟨ret_int HR.out.symm, HB0.out⟩
  · have h1 : ¬ m.kind < 1 := by omega
    have h4 : ¬ 4 < m.kind := by omega
    have HV := Lib.hid (At.new w0 #[.string m.name, .string ⟨#[120]⟩] 51)
    have HBV : Hid (Below w.heap.size w (w0.alloc (.cells #[.string m.name, .string ⟨#[120]⟩] 51))) := Lib.hid (HB0.out.alloc HB0.out.size _)
    have HATV := Lib.hid (HAT0.out.alloc (.cells #[.string m.name, .string ⟨#[120]⟩] 51))
    by_cases hn : nameB m.name = true
    · have HN := Lib.hid hn
      by_cases h34 : 2 < m.kind
      · have HR : Hid (chkM m = (Rx.checkR (bs m.value) : Nat)) := Lib.hid (by unfold chkM; rw [if_neg hk, if_pos hn, if_pos h34])
        have h34' : m.kind = 3 ∨ m.kind = 4 := by omega
        clear hk hn h34
        go_wp2_with fail
        generalize w0.alloc (.cells #[.string m.name, .string ⟨#[120]⟩] 51) = w1 at *
        refine (checkL_x m.name w1 _ HV.out).mono ?_
        rintro e w2 ⟨rfl, hb⟩
        rw [HN.out]
        have HB2 := Lib.hid (HBV.out.trans (hb.mono HBV.out.size))
        have HAT2 := Lib.hid (HATV.out.below hb)
        have d0 := HAT2.out.cell 0
        have d2 := HAT2.out.cell 2
        clear hb c0 c1 c2
        rcases h34' with h3 | h3
        · have h3b : (m.kind == 3) = true := by rw [h3]; rfl
          clear h1 h4 h3
          go_wp2_with fail
          refine (check_any6 m.value w2).mono ?_
          rintro e w3 ⟨rfl, hb⟩
          have HB3 := Lib.hid (HB2.out.trans (hb.mono HB2.out.size))
          clear hb
          go_wp2_with fail
          go_ret
          exact ⟨ret_int HR.out.symm, HB3.out⟩
        · have h3b : (m.kind == 3) = false := by rw [h3]; rfl
          have h4b : (m.kind == 4) = true := by rw [h3]; rfl
          clear h1 h4 h3
          go_wp2_with fail
          refine (check_any6 m.value w2).mono ?_
          rintro e w3 ⟨rfl, hb⟩
          have HB3 := Lib.hid (HB2.out.trans (hb.mono HB2.out.size))
          clear hb
          go_wp2_with fail
          go_ret
          exact ⟨ret_int HR.out.symm, HB3.out⟩
      · have HR : Hid (chkM m = if 200 < m.value.size then 4 else 0) := Lib.hid (by unfold chkM; rw [if_neg hk, if_pos hn, if_neg h34])
        have h3b : (m.kind == 3) = false := beq_eq_false_iff_ne.2 (by omega)
        have h4b : (m.kind == 4) = false := beq_eq_false_iff_ne.2 (by omega)
        clear hk hn h34
        go_wp2_with fail
        generalize w0.alloc (.cells #[.string m.name, .string ⟨#[120]⟩] 51) = w1 at *
        refine (checkL_x m.name w1 _ HV.out).mono ?_
        rintro e w2 ⟨rfl, hb⟩
        rw [HN.out]
        have HB2 := Lib.hid (HBV.out.trans (hb.mono HBV.out.size))
        have HAT2 := Lib.hid (HATV.out.below hb)
        have d0 := HAT2.out.cell 0
        have d2 := HAT2.out.cell 2
        clear hb c0 c1 c2
        by_cases hs : 200 < m.value.size
        · rw [if_pos hs] at HR
          go_wp2_with fail
          go_ret
          exact ⟨ret_int HR.out.symm, HB2.out⟩
        · rw [if_neg hs] at HR
          go_wp2_with fail
          go_ret
          exact ⟨ret_int HR.out.symm, HB2.out⟩
    · have HN : Hid (nameB m.name = false) := Lib.hid (by simpa using hn)
      have HR : Hid (chkM m = 5) := Lib.hid (by unfold chkM; rw [if_neg hk, if_neg hn])
      clear hk hn
      go_wp2_with fail
      generalize w0.alloc (.cells #[.string m.name, .string ⟨#[120]⟩] 51) = w1 at *
      refine (checkL_x m.name w1 _ HV.out).mono ?_
      rintro e w2 ⟨rfl, hb⟩
      rw [HN.out]
      have HB2 := Lib.hid (HBV.out.trans (hb.mono HBV.out.size))
      clear hb
      go_wp2_with fail
      go_ret
      exact ⟨ret_int HR.out.symm, HB2.out⟩
end Go.Proofs.YthckgmbadmilfaaGreat

namespace Go.Proofs.YthckgmbadmilfaaGreat

theorem bl_trans : ∀ {a b c : List UInt8}, Op.bytesLess a b = true → Op.bytesLess b c = true → Op.bytesLess a c = true
  | _, [], _, h, _ => by unfold Op.bytesLess at h; simp at h
  | [], _ :: _, [], _, h => by unfold Op.bytesLess at h; simp at h
  | [], _ :: _, _ :: _, _, _ => by unfold Op.bytesLess; rfl
  | _ :: _, _ :: _, [], _, h => by unfold Op.bytesLess at h; simp at h
  | x :: a, y :: b, z :: c, h1, h2 => by
    unfold Op.bytesLess at h1 h2 ⊢
    simp only [Bool.or_eq_true, Bool.and_eq_true, decide_eq_true_eq, beq_iff_eq] at h1 h2 ⊢
    rcases h1 with h1 | ⟨rfl, h1⟩
    · rcases h2 with h2 | ⟨rfl, h2⟩
      · left; rw [UInt8.lt_iff_toNat_lt] at *; omega
      · exact .inl h1
    · rcases h2 with h2 | ⟨rfl, h2⟩
      · exact .inl h2
      · exact .inr ⟨rfl, bl_trans h1 h2⟩
theorem bl_total : ∀ (a b : List UInt8), Op.bytesLess a b = true ∨ a = b ∨ Op.bytesLess b a = true
  | [], [] => .inr (.inl rfl)
  | [], _ :: _ => .inl (by unfold Op.bytesLess; rfl)
  | _ :: _, [] => .inr (.inr (by unfold Op.bytesLess; rfl))
  | x :: a, y :: b => by
    unfold Op.bytesLess
    simp only [Bool.or_eq_true, Bool.and_eq_true, decide_eq_true_eq, beq_iff_eq]
    by_cases h : x < y
    · exact .inl (.inl h)
    · by_cases h2 : y < x
      · exact .inr (.inr (.inl h2))
      · have e : x = y := by
          rw [UInt8.lt_iff_toNat_lt] at h h2
          exact UInt8.toNat_inj.1 (by omega)
        subst e
        rcases bl_total a b with h3 | h3 | h3
        · exact .inl (.inr ⟨rfl, h3⟩)
        · exact .inr (.inl (by rw [h3]))
        · exact .inr (.inr (.inr ⟨rfl, h3⟩))
theorem ltS_irrefl (a : ByteArray) : ltS a a = false := bytesLess_irrefl _
theorem ltS_trans {a b c : ByteArray} (h1 : ltS a b = true) (h2 : ltS b c = true) : ltS a c = true := bl_trans h1 h2
theorem ltS_total (a b : ByteArray) : ltS a b = true ∨ a = b ∨ ltS b a = true := by
  rcases bl_total a.toList b.toList with h | h | h
  · exact .inl h
  · rw [toList_bs, toList_bs] at h
    exact .inr (.inl (bs_inj h))
  · exact .inr (.inr h)
theorem ltS_asymm {a b : ByteArray} (h : ltS a b = true) : ltS b a = false := by
  cases h2 : ltS b a
  · rfl
  · have := ltS_trans h h2
    rw [ltS_irrefl] at this
    cases this
theorem leS_iff {a b : ByteArray} : leS a b = true ↔ ltS a b = true ∨ a = b := by
  unfold leS ltS
  rw [Bool.or_eq_true, beq_iff_eq, toList_bs, toList_bs]
  exact ⟨fun h => h.imp id bs_inj, fun h => h.imp id fun e => by rw [e]⟩
theorem cmpS_lt7 {a b : ByteArray} : cmpS a b < 0 ↔ ltS a b = true := by
  unfold cmpS
  constructor
  · intro h
    split at h
    · assumption
    · split at h <;> omega
  · intro h
    rw [if_pos h]
    omega
theorem cmpS_gt7 {a b : ByteArray} : 0 < cmpS a b ↔ ltS b a = true := by
  unfold cmpS
  constructor
  · intro h
    split at h
    · omega
    · split at h
      · omega
      · rename_i h1 h2
        rcases ltS_total a b with h3 | h3 | h3
        · exact absurd h3 h1
        · exact absurd (leS_iff.2 (.inr h3)) h2
        · exact h3
  · intro h
    rw [if_neg (by rw [ltS_asymm h]; simp), if_neg]
    · omega
    · intro h2
      rcases leS_iff.1 h2 with h3 | h3
      · rw [ltS_asymm h] at h3; cases h3
      · rw [h3, ltS_irrefl] at h; cases h

/-- The order of matchers. -/
def LtM (a b : Mt) : Prop := ltS a.name b.name = true ∨ (a.name = b.name ∧ (a.kind < b.kind ∨ (a.kind = b.kind ∧ ltS a.value b.value = true)))
theorem cmpM_lt {a b : Mt} : cmpM a b < 0 ↔ LtM a b := by
  unfold cmpM LtM
  by_cases h : cmpS a.name b.name = 0
  · have hn := cmpS_zero.1 h
    rw [if_pos h, hn, ltS_irrefl]
    by_cases h1 : a.kind < b.kind
    · rw [if_pos h1]
      exact ⟨fun _ => .inr ⟨rfl, .inl h1⟩, fun _ => by omega⟩
    · rw [if_neg h1]
      by_cases h2 : b.kind < a.kind
      · rw [if_pos h2]
        constructor
        · intro h3; omega
        · rintro (h3 | ⟨_, h3 | ⟨h3, _⟩⟩)
          · cases h3
          · omega
          · omega
      · rw [if_neg h2, cmpS_lt7]
        constructor
        · intro h3; exact .inr ⟨rfl, .inr ⟨by omega, h3⟩⟩
        · rintro (h3 | ⟨_, h3 | ⟨_, h3⟩⟩)
          · cases h3
          · omega
          · exact h3
  · rw [if_neg h, cmpS_lt7]
    constructor
    · exact .inl
    · rintro (h3 | ⟨h3, _⟩)
      · exact h3
      · exact absurd (cmpS_zero.2 h3) h
theorem LtM.irrefl (a : Mt) : ¬ LtM a a := by
  rintro (h | ⟨_, h | ⟨_, h⟩⟩)
  · rw [ltS_irrefl] at h; cases h
  · omega
  · rw [ltS_irrefl] at h; cases h
theorem LtM.trans {a b c : Mt} (h1 : LtM a b) (h2 : LtM b c) : LtM a c := by
  unfold LtM at *
  rcases h1 with h1 | ⟨e1, h1⟩
  · rcases h2 with h2 | ⟨e2, _⟩
    · exact .inl (ltS_trans h1 h2)
    · exact .inl (by rw [← e2]; exact h1)
  · rcases h2 with h2 | ⟨e2, h2⟩
    · exact .inl (by rw [e1]; exact h2)
    · refine .inr ⟨e1.trans e2, ?_⟩
      rcases h1 with h1 | ⟨k1, h1⟩
      · rcases h2 with h2 | ⟨k2, _⟩
        · exact .inl (by omega)
        · exact .inl (by omega)
      · rcases h2 with h2 | ⟨k2, h2⟩
        · exact .inl (by omega)
        · exact .inr ⟨by omega, ltS_trans h1 h2⟩
theorem LtM.total (a b : Mt) : LtM a b ∨ a = b ∨ LtM b a := by
  unfold LtM
  rcases ltS_total a.name b.name with h | h | h
  · exact .inl (.inl h)
  · by_cases h1 : a.kind < b.kind
    · exact .inl (.inr ⟨h, .inl h1⟩)
    · by_cases h2 : b.kind < a.kind
      · exact .inr (.inr (.inr ⟨h.symm, .inl h2⟩))
      · have hk : a.kind = b.kind := by omega
        rcases ltS_total a.value b.value with h3 | h3 | h3
        · exact .inl (.inr ⟨h, .inr ⟨hk, h3⟩⟩)
        · exact .inr (.inl (Mt.ext' hk h h3))
        · exact .inr (.inr (.inr ⟨h.symm, .inr ⟨hk.symm, h3⟩⟩))
  · exact .inr (.inr (.inl h))
theorem LtM.asymm {a b : Mt} (h : LtM a b) : ¬ LtM b a := fun h2 => LtM.irrefl a (h.trans h2)
theorem cmpM_zero {a b : Mt} : cmpM a b = 0 ↔ a = b := by
  constructor
  · intro h
    unfold cmpM at h
    by_cases h0 : cmpS a.name b.name = 0
    · rw [if_pos h0] at h
      split at h
      · omega
      · split at h
        · omega
        · exact Mt.ext' (by omega) (cmpS_zero.1 h0) (cmpS_zero.1 h)
    · rw [if_neg h0] at h
      exact absurd h h0
  · rintro rfl
    have h1 : ¬ cmpM a a < 0 := fun h => LtM.irrefl a (cmpM_lt.1 h)
    unfold cmpM at h1 ⊢
    rw [if_pos (cmpS_zero.2 rfl), if_neg (by omega), if_neg (by omega), cmpS_zero]

/-! ### Ordered lists without repetition -/
def OrdM (l : List Mt) : Prop := l.Pairwise LtM
theorem mem_ins {x m : Mt} : ∀ {l : List Mt}, x ∈ insM m l ↔ x = m ∨ x ∈ l
  | [] => by simp [insM]
  | y :: r => by
    unfold insM
    split
    · rw [List.mem_cons, mem_ins (l := r), List.mem_cons]
      exact ⟨fun h => by rcases h with h | h | h <;> simp [h], fun h => by rcases h with h | h | h <;> simp [h]⟩
    · split
      · rename_i h
        subst h
        rw [List.mem_cons]
        exact ⟨fun h => .inr h, fun h => by rcases h with h | h <;> simp [h]⟩
      · rw [List.mem_cons, List.mem_cons]
theorem ord_ins {m : Mt} : ∀ {l : List Mt}, OrdM l → OrdM (insM m l)
  | [], _ => List.pairwise_singleton _ _
  | y :: r, h => by
    unfold insM
    have hh := List.pairwise_cons.1 h
    split
    · rename_i h1
      refine List.pairwise_cons.2 ⟨fun z hz => ?_, ord_ins hh.2⟩
      rcases mem_ins.1 hz with rfl | hz
      · exact cmpM_lt.1 h1
      · exact hh.1 z hz
    · rename_i h1
      split
      · exact h
      · rename_i h2
        have h3 : LtM m y := by
          rcases LtM.total m y with h4 | h4 | h4
          · exact h4
          · exact absurd h4.symm h2
          · exact absurd (cmpM_lt.2 h4) h1
        refine List.pairwise_cons.2 ⟨fun z hz => ?_, h⟩
        rcases List.mem_cons.1 hz with rfl | hz
        · exact h3
        · exact h3.trans (hh.1 z hz)
theorem foldl_mem {x : Mt} : ∀ {l a : List Mt}, x ∈ l.foldl (fun a m => insM m a) a ↔ x ∈ a ∨ x ∈ l
  | [], a => by simp
  | y :: r, a => by
    rw [List.foldl_cons, foldl_mem (l := r), mem_ins, List.mem_cons]
    exact ⟨fun h => by rcases h with (h | h) | h <;> simp [h], fun h => by rcases h with h | h | h <;> simp [h]⟩
theorem foldl_ord : ∀ {l a : List Mt}, OrdM a → OrdM (l.foldl (fun a m => insM m a) a)
  | [], _, h => h
  | y :: r, a, h => by
    rw [List.foldl_cons]
    exact foldl_ord (l := r) (ord_ins h)
theorem mem_set {x : Mt} {l : List Mt} : x ∈ setM l ↔ x ∈ l := by
  unfold setM
  rw [foldl_mem]
  simp
theorem ord_set (l : List Mt) : OrdM (setM l) := foldl_ord List.Pairwise.nil
theorem ord_uniq : ∀ {a b : List Mt}, OrdM a → OrdM b → (∀ x, x ∈ a ↔ x ∈ b) → a = b
  | [], [], _, _, _ => rfl
  | [], y :: b, _, _, h => by have := (h y).2 (by simp); simp at this
  | x :: a, [], _, _, h => by have := (h x).1 (by simp); simp at this
  | x :: a, y :: b, ha, hb, h => by
    have ha' := List.pairwise_cons.1 ha
    have hb' := List.pairwise_cons.1 hb
    have e : x = y := by
      rcases List.mem_cons.1 ((h x).1 (by simp)) with h1 | h1
      · exact h1
      · rcases List.mem_cons.1 ((h y).2 (by simp)) with h2 | h2
        · exact h2.symm
        · exact absurd (ha'.1 y h2) (hb'.1 x h1).asymm
    subst e
    rw [ord_uniq ha'.2 hb'.2 fun z => ?_]
    constructor
    · intro hz
      rcases List.mem_cons.1 ((h z).1 (List.mem_cons_of_mem _ hz)) with h1 | h1
      · subst h1
        exact absurd (ha'.1 z hz) (LtM.irrefl z)
      · exact h1
    · intro hz
      rcases List.mem_cons.1 ((h z).2 (List.mem_cons_of_mem _ hz)) with h1 | h1
      · subst h1
        exact absurd (hb'.1 z hz) (LtM.irrefl z)
      · exact h1
theorem set_of_ord {l : List Mt} (h : OrdM l) : setM l = l := ord_uniq (ord_set l) h fun _ => mem_set
theorem set_congr {a b : List Mt} (h : ∀ x, x ∈ a ↔ x ∈ b) : setM a = setM b := ord_uniq (ord_set a) (ord_set b) fun x => by rw [mem_set, mem_set, h]
theorem ins_len {m : Mt} : ∀ {l : List Mt}, (insM m l).length ≤ l.length + 1
  | [] => by simp [insM]
  | y :: r => by
    unfold insM
    split
    · have := ins_len (m := m) (l := r)
      simp only [List.length_cons]
      omega
    · split <;> simp
theorem foldl_len : ∀ {l a : List Mt}, (l.foldl (fun a m => insM m a) a).length ≤ a.length + l.length
  | [], a => by simp
  | y :: r, a => by
    rw [List.foldl_cons]
    have h1 := foldl_len (l := r) (a := insM y a)
    have h2 := ins_len (m := y) (l := a)
    simp only [List.length_cons]
    omega
theorem set_len (l : List Mt) : (setM l).length ≤ l.length := by
  have := foldl_len (l := l) (a := [])
  simpa [setM] using this
end Go.Proofs.YthckgmbadmilfaaGreat
