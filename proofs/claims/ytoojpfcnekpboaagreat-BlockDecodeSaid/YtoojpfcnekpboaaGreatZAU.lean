/- Walks: Read and ReadSigned (the program's). -/
import Derived.Test.YtoojpfcnekpboaaGreatZAT
namespace Go.Proofs.YtoojpfcnekpboaaGreat
open Go.RowKit Go.Shelf

/-- What Read answers. -/
def rdG (s : ByteArray) : Int × Int × Int := if (vres s).2.2 = 0 then (if 1152921504606846976 < (vres s).1 then (0, 0, 12) else vres s) else (0, 0, (vres s).2.2)
def unz (u : Int) : Int := if u % 2 = 0 then u / 2 else -(u / 2) - 1
/-- What ReadSigned answers. -/
def rdS (s : ByteArray) : Int × Int × Int := if (vres s).2.2 = 0 then (if -1152921504606846976 ≤ unz (vres s).1 ∧ unz (vres s).1 ≤ 1152921504606846976 then (unz (vres s).1, (vres s).2.1, 0) else (0, 0, 12)) else (0, 0, (vres s).2.2)
def tripV (p : Int × Int × Int) : Value := .tuple #[.int .i64 p.1, .int .i64 p.2.1, .int .i64 p.2.2]

set_option maxRecDepth 100000 in
set_option maxHeartbeats 1000000 in
theorem read_any (s : ByteArray) (w : World) (hs : s.size ≤ 1000000000) :
    Calls Tryz.prog 126 #[.string s] w fun e w' => e = .returned (tripV (rdG s)) ∧ Below w.heap.size w w' := by
  have HV := Lib.hid (vread_any s w hs)
  rcases vres_err s with h | h | ⟨n, k, h⟩
  · have HR : Hid (tripV (rdG s) = .tuple #[.int .i64 0, .int .i64 0, .int .i64 11]) := Lib.hid (by unfold tripV rdG; rw [h]; rfl)
    rw [h] at HV
    clear h hs
    go_enter Tryz.func126, Tryz.ntmps126
    go_wp2_with fail
    refine HV.out.mono ?_
    rintro e w' ⟨rfl, hb⟩
    have HB := Lib.hid hb
    clear hb HV
    go_wp2_with fail
    go_ret3
    exact ⟨by rw [HR.out]; rfl, HB.out⟩
  · have HR : Hid (tripV (rdG s) = .tuple #[.int .i64 0, .int .i64 0, .int .i64 12]) := Lib.hid (by unfold tripV rdG; rw [h]; rfl)
    rw [h] at HV
    clear h hs
    go_enter Tryz.func126, Tryz.ntmps126
    go_wp2_with fail
    refine HV.out.mono ?_
    rintro e w' ⟨rfl, hb⟩
    have HB := Lib.hid hb
    clear hb HV
    go_wp2_with fail
    go_ret3
    exact ⟨by rw [HR.out]; rfl, HB.out⟩
  · obtain ⟨m, rfl, hm, rfl, _, _⟩ := vres_ok s n k h
    have hm2 : m < 9223372036854775808 := hm
    rw [h] at HV
    by_cases hgt : 1152921504606846976 < m
    · have HR : Hid (tripV (rdG s) = .tuple #[.int .i64 0, .int .i64 0, .int .i64 12]) := Lib.hid (by unfold tripV rdG; rw [h]; simp only [if_true]; rw [if_pos (by omega)])
      clear h hs hm
      go_enter Tryz.func126, Tryz.ntmps126
      go_wp2_with fail
      refine HV.out.mono ?_
      rintro e w' ⟨rfl, hb⟩
      have HB := Lib.hid hb
      clear hb HV
      go_wp2_with fail
      go_ret3
      exact ⟨by rw [HR.out]; rfl, HB.out⟩
    · have HR : Hid (tripV (rdG s) = .tuple #[.int .i64 m, .int .i64 (vE m).length, .int .i64 0]) := Lib.hid (by unfold tripV rdG; rw [h]; simp only [if_true]; rw [if_neg (by omega)])
      have hgt2 : (m : Int) ≤ 1152921504606846976 := by omega
      clear h hs hm
      go_enter Tryz.func126, Tryz.ntmps126
      go_wp2_with fail
      refine HV.out.mono ?_
      rintro e w' ⟨rfl, hb⟩
      have HB := Lib.hid hb
      clear hb HV
      go_wp2_with fail
      go_ret3
      exact ⟨by rw [HR.out]; rfl, HB.out⟩

theorem unz_bounds (m : Nat) (hm : m < 9223372036854775808) : -4611686018427387904 ≤ unz (m : Int) ∧ unz (m : Int) < 4611686018427387904 := by
  unfold unz
  split <;> omega
set_option maxRecDepth 100000 in
set_option maxHeartbeats 1000000 in
theorem unfolded_any (m : Nat) (w : World) (hm : m < 9223372036854775808) :
    Calls Tryz.prog 191 #[.int .u64 m] w fun e w' => e = .returned (.int .i64 (unz m)) ∧ w = w' := by
  by_cases h : m % 2 = 0
  · have HU : Hid (unz (m : Int) = (m : Int) / 2) := Lib.hid (by unfold unz; rw [if_pos (by omega)])
    have h1 : (((m : Int) % 2) == 0) = true := beq_iff_eq.2 (by omega)
    clear h
    go_enter Tryz.func191, Tryz.ntmps191
    go_wp2_with fail
    go_ret
    exact ⟨by rw [HU.out]; rfl, rfl⟩
  · have HU : Hid (unz (m : Int) = -((m : Int) / 2) - 1) := Lib.hid (by unfold unz; rw [if_neg (by omega)])
    have h1 : (((m : Int) % 2) == 0) = false := beq_eq_false_iff_ne.2 (by omega)
    clear h
    go_enter Tryz.func191, Tryz.ntmps191
    go_wp2_with fail
    go_ret
    exact ⟨by rw [HU.out]; rfl, rfl⟩
set_option maxRecDepth 100000 in
set_option maxHeartbeats 1000000 in
theorem readSigned_any (s : ByteArray) (w : World) (hs : s.size ≤ 1000000000) :
    Calls Tryz.prog 179 #[.string s] w fun e w' => e = .returned (tripV (rdS s)) ∧ Below w.heap.size w w' := by
  have HV := Lib.hid (vread_any s w hs)
  rcases vres_err s with h | h | ⟨n, k, h⟩
  · have HR : Hid (tripV (rdS s) = .tuple #[.int .i64 0, .int .i64 0, .int .i64 11]) := Lib.hid (by unfold tripV rdS; rw [h]; rfl)
    rw [h] at HV
    clear h hs
    go_enter Tryz.func179, Tryz.ntmps179
    go_wp2_with fail
    refine HV.out.mono ?_
    rintro e w' ⟨rfl, hb⟩
    have HB := Lib.hid hb
    clear hb HV
    go_wp2_with fail
    go_ret3
    exact ⟨by rw [HR.out]; rfl, HB.out⟩
  · have HR : Hid (tripV (rdS s) = .tuple #[.int .i64 0, .int .i64 0, .int .i64 12]) := Lib.hid (by unfold tripV rdS; rw [h]; rfl)
    rw [h] at HV
    clear h hs
    go_enter Tryz.func179, Tryz.ntmps179
    go_wp2_with fail
    refine HV.out.mono ?_
    rintro e w' ⟨rfl, hb⟩
    have HB := Lib.hid hb
    clear hb HV
    go_wp2_with fail
    go_ret3
    exact ⟨by rw [HR.out]; rfl, HB.out⟩
  · obtain ⟨m, rfl, hm, rfl, _, _⟩ := vres_ok s n k h
    have hm2 : m < 9223372036854775808 := hm
    have hub := unz_bounds m hm2
    rw [h] at HV
    have HUF := Lib.hid (fun w => unfolded_any m w hm2)
    obtain ⟨u, hu⟩ : ∃ u, unz (m : Int) = u := ⟨_, rfl⟩
    have HRD : Hid (rdS s = if -1152921504606846976 ≤ u ∧ u ≤ 1152921504606846976 then (u, ((vE m).length : Int), 0) else (0, 0, 12)) := Lib.hid (by unfold rdS; rw [h]; simp only [if_true, hu])
    rw [hu] at HUF hub
    by_cases hin : -1152921504606846976 ≤ u ∧ u ≤ 1152921504606846976
    · have HR : Hid (tripV (rdS s) = .tuple #[.int .i64 u, .int .i64 (vE m).length, .int .i64 0]) := Lib.hid (by rw [HRD.out, if_pos hin]; rfl)
      have HIN := Lib.hid hin
      clear h hs hm hu HRD hin
      go_enter Tryz.func179, Tryz.ntmps179
      go_wp2_with fail
      refine HV.out.mono ?_
      rintro e w' ⟨rfl, hb⟩
      have HB := Lib.hid hb
      clear hb HV
      go_wp2_with fail
      refine (HUF.out w').mono ?_
      rintro e w2 ⟨rfl, rfl⟩
      go_wp2_with fail
      refine (inRange_any u w').mono ?_
      rintro e w2 ⟨rfl, rfl⟩
      rw [show inR u = true from decide_eq_true HIN.out]
      go_wp2_with fail
      go_ret3
      exact ⟨by rw [HR.out]; rfl, HB.out⟩
    · have HR : Hid (tripV (rdS s) = .tuple #[.int .i64 0, .int .i64 0, .int .i64 12]) := Lib.hid (by rw [HRD.out, if_neg hin]; rfl)
      have HIN := Lib.hid hin
      clear h hs hm hu HRD hin
      go_enter Tryz.func179, Tryz.ntmps179
      go_wp2_with fail
      refine HV.out.mono ?_
      rintro e w' ⟨rfl, hb⟩
      have HB := Lib.hid hb
      clear hb HV
      go_wp2_with fail
      refine (HUF.out w').mono ?_
      rintro e w2 ⟨rfl, rfl⟩
      go_wp2_with fail
      refine (inRange_any u w').mono ?_
      rintro e w2 ⟨rfl, rfl⟩
      rw [show inR u = false from decide_eq_false HIN.out]
      go_wp2_with fail
      go_ret3
      exact ⟨by rw [HR.out]; rfl, HB.out⟩
/-! ### What they tell -/
theorem rdG_ok (s : ByteArray) (n k : Int) (h : rdG s = (n, k, 0)) : ∃ m : Nat, n = m ∧ m ≤ 1152921504606846976 ∧ k = (vE m).length ∧ (vE m).length ≤ s.size ∧ bs s = vE m ++ (bs s).drop (vE m).length := by
  unfold rdG at h
  split at h
  · rename_i h0
    split at h
    · cases h
    · rename_i hle
      obtain ⟨m, rfl, h1, h2, h3, h4⟩ := vres_ok s n k h
      rw [h] at hle
      exact ⟨m, rfl, by simp only at hle; omega, h2, h3, h4⟩
  · rename_i h0
    injection h with _ h
    injection h with _ h
    exact absurd h h0
theorem rdG_vE (s : ByteArray) (n : Nat) (t : List UInt8) (hn : n ≤ 1152921504606846976) (h : bs s = vE n ++ t) : rdG s = ((n : Int), ((vE n).length : Int), 0) := by
  have := vres_vE s n t (by omega) h
  unfold rdG
  rw [this]
  simp only [if_true]
  rw [if_neg (by omega)]
theorem rdG_bad (s : ByteArray) (h : (rdG s).2.2 ≠ 0) : (rdG s).1 = 0 ∧ (rdG s).2.1 = 0 := by
  unfold rdG at h ⊢
  split
  · split
    · exact ⟨rfl, rfl⟩
    · rename_i h1 h2
      rw [if_pos h1, if_neg h2] at h
      exact absurd h1 h
  · exact ⟨rfl, rfl⟩
theorem zig_unz (m : Nat) : zig (unz (m : Int)) = m := by
  unfold zig unz
  split
  · rw [if_pos (by omega)]; omega
  · rw [if_neg (by omega)]; omega
theorem unz_zig (n : Int) : unz (zig n : Int) = n := by
  unfold zig unz
  split
  · rw [if_pos (by omega)]; omega
  · rw [if_neg (by omega)]; omega
theorem rdS_ok (s : ByteArray) (n k : Int) (h : rdS s = (n, k, 0)) : -1152921504606846976 ≤ n ∧ n ≤ 1152921504606846976 ∧ k = (vE (zig n)).length ∧ (vE (zig n)).length ≤ s.size ∧ bs s = vE (zig n) ++ (bs s).drop (vE (zig n)).length := by
  unfold rdS at h
  split at h
  · rename_i h0
    split at h
    · rename_i hle
      rcases vres_err s with he | he | ⟨n2, k2, he⟩
      · rw [he] at h0; cases h0
      · rw [he] at h0; cases h0
      · obtain ⟨m, rfl, h1, h2, h3, h4⟩ := vres_ok s n2 k2 he
        rw [he] at h hle
        simp only at h hle
        injection h with h5 h6
        injection h6 with h6 _
        subst h5
        rw [zig_unz]
        exact ⟨hle.1, hle.2, by rw [← h6]; exact h2, h3, h4⟩
    · cases h
  · rename_i h0
    injection h with _ h
    injection h with _ h
    exact absurd h h0
theorem rdS_vE (s : ByteArray) (n : Int) (t : List UInt8) (h1 : -1152921504606846976 ≤ n) (h2 : n ≤ 1152921504606846976) (h : bs s = vE (zig n) ++ t) : rdS s = (n, ((vE (zig n)).length : Int), 0) := by
  have hz : zig n < 2 ^ 63 := by unfold zig; split <;> omega
  have := vres_vE s (zig n) t hz h
  unfold rdS
  rw [this]
  simp only [if_true, unz_zig]
  rw [if_pos ⟨h1, h2⟩]
theorem rdS_bad (s : ByteArray) (h : (rdS s).2.2 ≠ 0) : (rdS s).1 = 0 ∧ (rdS s).2.1 = 0 := by
  unfold rdS at h ⊢
  split
  · split
    · rename_i h1 h2
      rw [if_pos h1, if_pos h2] at h
      exact absurd rfl h
    · exact ⟨rfl, rfl⟩
  · exact ⟨rfl, rfl⟩
end Go.Proofs.YtoojpfcnekpboaaGreat
