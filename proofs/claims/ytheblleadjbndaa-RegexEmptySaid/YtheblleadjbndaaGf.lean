/- The walk of isEmpty and Empty. -/
import Derived.Test.YtheblleadjbndaaGc
namespace Go.Proofs.Ytheblleadjbndaa
open Go.RowKit Rx

/-- An index that is there if b is true. -/
def SomeIx (b : Bool) (w : World) (e : Ending) (w' : World) : Prop := ∃ r : Int, e = .returned (.int .i64 r) ∧ decide (0 ≤ r) = b ∧ w = w'
theorem any_range_succ (p : Nat → Bool) (j : Nat) : (List.range (j + 1)).any p = ((List.range j).any p || p j) := by rw [List.range_succ, List.any_append]; simp
theorem any_range_yes (p : Nat → Bool) (j n : Nat) (h : j < n) (hp : p j = true) : (List.range n).any p = true := by
  rw [List.any_eq_true]; exact ⟨j, List.mem_range.2 h, hp⟩

set_option maxRecDepth 100000 in
set_option maxHeartbeats 1000000 in
theorem index_bools (f : UInt8 → Bool) (k : Nat) (W : World) (n : Nat) (hn0 : n = 256) (hk : At W k (btab f 256) 102) : Calls Try.prog 56 #[.slice (some ⟨k, 0, none⟩) n n, .bool true] W (SomeIx (all256.any f) W) := by
  have hall : all256.any f = (List.range 256).any fun i => f (UInt8.ofNat i) := by unfold all256; rw [List.any_map]; rfl
  rw [hall]
  have HK := Lib.hid hk
  have HN0 := Lib.hid hn0
  have hnl : (n : Int) ≤ 256 := by omega
  clear hk hall hn0
  obtain ⟨p, hp⟩ : ∃ p : Nat → Bool, (fun i => f (UInt8.ofNat i)) = p := ⟨_, rfl⟩
  have hpc : ∀ j, j < 256 → W.cell? ⟨k, j, none⟩ = some (.bool (p j)) := fun j hj => by
    rw [HK.out.cell, btab_get f 256 j hj, if_pos hj, ← hp]
  rw [hp]
  have HC := Lib.hid hpc
  obtain ⟨R, hR⟩ : ∃ R, (List.range 256).any p = R := ⟨_, rfl⟩
  have HY0 : Hid (∀ j, j < 256 → p j = true → R = true) := Lib.hid (fun j h h2 => by rw [← hR]; exact any_range_yes p j 256 h h2)
  have HE0 : Hid (∀ j, j = 256 → (List.range j).any p = R) := Lib.hid (fun j h => by rw [h]; exact hR)
  rw [hR]
  clear hp hpc HK hR
  go_enter Try.func56, Try.ntmps56
  go_wp2_with fail
  go_loopg [8] n (fun g i wr => ∃ j : Nat, W = wr ∧ g = n - j ∧ j ≤ n ∧ i = .int .i64 j ∧ (List.range j).any p = false)
  case atStart => exact ⟨0, rfl, rfl, Nat.zero_le _, rfl, rfl⟩
  case round =>
    obtain ⟨j, rfl, hg, hj, rfl, hn⟩ := hrel
    have hjl : (j : Int) ≤ 256 := by omega
    by_cases hlt : j < n
    · have hlti : (j : Int) < (n : Int) := by omega
      have hc := HC.out j (by have := HN0.out; omega)
      have hmo : n - (j + 1) < gk := by omega
      have HMO := Lib.hid hmo
      have hsucc := any_range_succ p j
      rw [hn, Bool.false_or] at hsucc
      have HS := Lib.hid hsucc
      have HY := Lib.hid (HY0.out j (by have := HN0.out; omega))
      clear hmo hg hn hsucc
      generalize p j = b at *
      cases b
      · go_wp2_with fail
        go_roundg (n - (j + 1))
        case measure => exact HMO.out
        case rel => exact ⟨j + 1, rfl, rfl, by omega, rfl, HS.out⟩
      · go_wp2_with fail
        go_ret
        exact ⟨j, rfl, by rw [HY.out trivial]; exact decide_eq_true (by omega), rfl⟩
    · have HJ : Hid (j = 256) := Lib.hid (by have := HN0.out; omega)
      have HN := Lib.hid hn
      have hlti : ¬ (j : Int) < (n : Int) := by omega
      clear hn hg
      go_wp2_with fail
      go_ret
      exact ⟨-1, rfl, by rw [← HE0.out j HJ.out, HN.out]; rfl, rfl⟩

set_option maxHeartbeats 1000000 in
theorem contains_bools (f : UInt8 → Bool) (k : Nat) (W : World) (hk : At W k (btab f 256) 102) : Calls Try.prog 46 #[.slice (some ⟨k, 0, none⟩) 256 256, .bool true] W fun e w' => e = .returned (.bool (all256.any f)) ∧ W = w' := by
  have HI := Lib.hid (index_bools f k W 256 rfl hk)
  clear hk
  generalize all256.any f = b at *
  go_enter Try.func46, Try.ntmps46
  go_wp2_with fail
  refine (HI.out).mono ?_
  rintro e w' ⟨r, rfl, hr, rfl⟩
  have HR := Lib.hid hr
  clear hr
  go_wp2_with fail
  go_ret
  exact ⟨by first | rfl | exact ret_bool HR.out | (rw [← HR.out]; rfl), rfl⟩

/-! ### Trees -/
/-- isEmpty answers g at a tree. -/
def EmC (W : World) (x : Value) (g : Bool) : Prop := Calls Try.prog 36 #[x] W fun e w' => e = .returned (.bool g) ∧ W = w'
/-- A closure's answer. -/
def EmN (W : World) (x : Value) (g : Bool) : Prop := Calls Try.prog 48 #[x] W fun e w' => e = .returned (.bool g) ∧ W = w'
set_option maxHeartbeats 1000000 in
theorem EmC.not {W : World} {x : Value} {g : Bool} (h : EmC W x g) : EmN W x (!g) := by
  have H : Hid (Calls Try.prog 36 #[x] W fun e w' => e = .returned (.bool g) ∧ W = w') := Lib.hid h
  clear h
  show Calls Try.prog 48 #[x] W fun e w' => e = .returned (.bool (!g)) ∧ W = w'
  go_enter Try.func48, Try.ntmps48
  go_wp2_with fail
  refine (H.out).mono ?_
  rintro e w' ⟨rfl, rfl⟩
  go_wp2_with fail
  go_ret
  exact ⟨rfl, rfl⟩
/-- A row of trees. -/
structure TRow (W : World) (sv : Value) (xs : List Value) : Prop where mk :: (out : W.ownsRow 0 37 1 sv xs.length xs)

set_option maxHeartbeats 2000000 in
theorem indexFunc_em (W : World) (sv : Value) (xs : List Value) (gs : List Bool) (hrow : TRow W sv xs) (hlen : xs.length ≤ 100000) (hg : xs.length = gs.length) (hc : ∀ (j : Nat) x g, xs[j]? = some x → gs[j]? = some g → EmC W x g) (hp : ∀ x ∈ xs, ∃ b, x = ptr b) :
    Calls Try.prog 57 #[sv, .func (.func 36) #[] #[]] W (SomeIx (gs.any id) W) := by
  obtain ⟨sa, sn, sc, rfl⟩ := owns_slice hrow.out
  obtain rfl : sn = xs.length := by
    rcases hrow.out.2 with ⟨e, h0⟩ | ⟨g, cap, cur, e, _⟩
    · injection e with _ e _; omega
    · injection e with _ e _
  have HR := Lib.hid hrow
  have HL := Lib.hid hlen
  have HG := Lib.hid hg
  have HC := Lib.hid hc
  have HP := Lib.hid hp
  clear hrow hlen hg hc hp
  go_enter Try.func57, Try.ntmps57
  go_wp2_with fail
  go_loopg [8] xs.length (fun g i wr => ∃ j : Nat, W = wr ∧ g = xs.length - j ∧ j ≤ xs.length ∧ i = .int .i64 j ∧ (gs.take j).any id = false)
  case atStart => exact ⟨0, rfl, rfl, Nat.zero_le _, rfl, rfl⟩
  case round =>
    obtain ⟨j, rfl, hg, hj, rfl, hn⟩ := hrel
    have hjl : (j : Int) ≤ 100000 := by have := HL.out; omega
    have HN := Lib.hid hn
    clear hn
    by_cases hlt : j < xs.length
    · have hlti : (j : Int) < (xs.length : Int) := by omega
      have hglt : j < gs.length := by rw [← HG.out]; exact hlt
      have hxj := List.getElem?_eq_getElem hlt
      have hgj := List.getElem?_eq_getElem hglt
      obtain ⟨b, hb⟩ := HP.out _ (List.getElem_mem hlt)
      rw [hb] at hxj
      obtain ⟨r, hr⟩ : ∃ r, gs[j] = r := ⟨_, rfl⟩
      rw [hr] at hgj
      have hcall : Calls Try.prog 36 #[ptr b] W fun e w' => e = .returned (.bool r) ∧ W = w' := HC.out j _ _ hxj hgj
      have hsa : ∃ g, sa = some ⟨g, 0, none⟩ ∧ xs.length ≤ sc := by
        rcases HR.out.out.2 with ⟨e, h0⟩ | ⟨g, cap, cur, e, _, _, h3, _⟩
        · omega
        · injection e with e1 _ e3; exact ⟨g, e1, by omega⟩
      obtain ⟨g, rfl, hsc⟩ := hsa
      have d1 : W.cell? ⟨g, j, none⟩ = some (ptr b) := owns_cell HR.out.out rfl hxj
      have hmo : xs.length - (j + 1) < gk := by omega
      have HMO := Lib.hid hmo
      have HS : Hid ((gs.take (j + 1)).any id = r) := Lib.hid (by
        rw [List.take_succ_eq_append_getElem hglt, List.any_append, HN.out, hr]; simp)
      have HY : Hid (r = true → gs.any id = true) := Lib.hid (fun h => by
        rw [List.any_eq_true]; exact ⟨_, List.getElem_mem hglt, by rw [hr]; exact h⟩)
      have HCALL := Lib.hid hcall
      clear hmo hg hcall hxj hgj hb hr hsc
      unfold ptr at *
      go_wp2_with fail
      refine (HCALL.out).mono ?_
      rintro e w' ⟨rfl, rfl⟩
      cases r
      · go_wp2_with fail
        go_roundg (xs.length - (j + 1))
        case measure => exact HMO.out
        case rel => exact ⟨j + 1, rfl, rfl, by omega, rfl, HS.out⟩
      · go_wp2_with fail
        go_ret
        exact ⟨j, rfl, by rw [HY.out trivial]; exact decide_eq_true (by omega), rfl⟩
    · have HJ : Hid (gs.any id = false) := Lib.hid (by
        have h := HN.out
        rwa [List.take_of_length_le (by have := HG.out; omega)] at h)
      have hlti : ¬ (j : Int) < (xs.length : Int) := by omega
      clear hg HN
      go_wp2_with fail
      go_ret
      exact ⟨-1, rfl, by rw [HJ.out]; rfl, rfl⟩

set_option maxHeartbeats 1000000 in
theorem containsFunc_em (W : World) (sv : Value) (xs : List Value) (gs : List Bool) (hrow : TRow W sv xs) (hlen : xs.length ≤ 100000) (hg : xs.length = gs.length) (hc : ∀ (j : Nat) x g, xs[j]? = some x → gs[j]? = some g → EmC W x g) (hp : ∀ x ∈ xs, ∃ b, x = ptr b) :
    Calls Try.prog 47 #[sv, .func (.func 36) #[] #[]] W fun e w' => e = .returned (.bool (gs.any id)) ∧ W = w' := by
  have HI := Lib.hid (indexFunc_em W sv xs gs hrow hlen hg hc hp)
  obtain ⟨sa, sn, sc, rfl⟩ := owns_slice hrow.out
  clear hrow hlen hg hc hp
  generalize gs.any id = b at *
  go_enter Try.func47, Try.ntmps47
  go_wp2_with fail
  refine (HI.out).mono ?_
  rintro e w' ⟨r, rfl, hr, rfl⟩
  have HR := Lib.hid hr
  clear hr
  go_wp2_with fail
  go_ret
  exact ⟨by first | rfl | exact ret_bool HR.out | (rw [← HR.out]; rfl), rfl⟩

set_option maxHeartbeats 2000000 in
theorem indexFunc_ne (W : World) (sv : Value) (xs : List Value) (gs : List Bool) (hrow : TRow W sv xs) (hlen : xs.length ≤ 100000) (hg : xs.length = gs.length) (hc : ∀ (j : Nat) x g, xs[j]? = some x → gs[j]? = some g → EmN W x g) (hp : ∀ x ∈ xs, ∃ b, x = ptr b) :
    Calls Try.prog 57 #[sv, .func (.func 48) #[] #[]] W (SomeIx (gs.any id) W) := by
  obtain ⟨sa, sn, sc, rfl⟩ := owns_slice hrow.out
  obtain rfl : sn = xs.length := by
    rcases hrow.out.2 with ⟨e, h0⟩ | ⟨g, cap, cur, e, _⟩
    · injection e with _ e _; omega
    · injection e with _ e _
  have HR := Lib.hid hrow
  have HL := Lib.hid hlen
  have HG := Lib.hid hg
  have HC := Lib.hid hc
  have HP := Lib.hid hp
  clear hrow hlen hg hc hp
  go_enter Try.func57, Try.ntmps57
  go_wp2_with fail
  go_loopg [8] xs.length (fun g i wr => ∃ j : Nat, W = wr ∧ g = xs.length - j ∧ j ≤ xs.length ∧ i = .int .i64 j ∧ (gs.take j).any id = false)
  case atStart => exact ⟨0, rfl, rfl, Nat.zero_le _, rfl, rfl⟩
  case round =>
    obtain ⟨j, rfl, hg, hj, rfl, hn⟩ := hrel
    have hjl : (j : Int) ≤ 100000 := by have := HL.out; omega
    have HN := Lib.hid hn
    clear hn
    by_cases hlt : j < xs.length
    · have hlti : (j : Int) < (xs.length : Int) := by omega
      have hglt : j < gs.length := by rw [← HG.out]; exact hlt
      have hxj := List.getElem?_eq_getElem hlt
      have hgj := List.getElem?_eq_getElem hglt
      obtain ⟨b, hb⟩ := HP.out _ (List.getElem_mem hlt)
      rw [hb] at hxj
      obtain ⟨r, hr⟩ : ∃ r, gs[j] = r := ⟨_, rfl⟩
      rw [hr] at hgj
      have hcall : Calls Try.prog 48 #[ptr b] W fun e w' => e = .returned (.bool r) ∧ W = w' := HC.out j _ _ hxj hgj
      have hsa : ∃ g, sa = some ⟨g, 0, none⟩ ∧ xs.length ≤ sc := by
        rcases HR.out.out.2 with ⟨e, h0⟩ | ⟨g, cap, cur, e, _, _, h3, _⟩
        · omega
        · injection e with e1 _ e3; exact ⟨g, e1, by omega⟩
      obtain ⟨g, rfl, hsc⟩ := hsa
      have d1 : W.cell? ⟨g, j, none⟩ = some (ptr b) := owns_cell HR.out.out rfl hxj
      have hmo : xs.length - (j + 1) < gk := by omega
      have HMO := Lib.hid hmo
      have HS : Hid ((gs.take (j + 1)).any id = r) := Lib.hid (by
        rw [List.take_succ_eq_append_getElem hglt, List.any_append, HN.out, hr]; simp)
      have HY : Hid (r = true → gs.any id = true) := Lib.hid (fun h => by
        rw [List.any_eq_true]; exact ⟨_, List.getElem_mem hglt, by rw [hr]; exact h⟩)
      have HCALL := Lib.hid hcall
      clear hmo hg hcall hxj hgj hb hr hsc
      unfold ptr at *
      go_wp2_with fail
      refine (HCALL.out).mono ?_
      rintro e w' ⟨rfl, rfl⟩
      cases r
      · go_wp2_with fail
        go_roundg (xs.length - (j + 1))
        case measure => exact HMO.out
        case rel => exact ⟨j + 1, rfl, rfl, by omega, rfl, HS.out⟩
      · go_wp2_with fail
        go_ret
        exact ⟨j, rfl, by rw [HY.out trivial]; exact decide_eq_true (by omega), rfl⟩
    · have HJ : Hid (gs.any id = false) := Lib.hid (by
        have h := HN.out
        rwa [List.take_of_length_le (by have := HG.out; omega)] at h)
      have hlti : ¬ (j : Int) < (xs.length : Int) := by omega
      clear hg HN
      go_wp2_with fail
      go_ret
      exact ⟨-1, rfl, by rw [HJ.out]; rfl, rfl⟩

set_option maxHeartbeats 1000000 in
theorem containsFunc_ne (W : World) (sv : Value) (xs : List Value) (gs : List Bool) (hrow : TRow W sv xs) (hlen : xs.length ≤ 100000) (hg : xs.length = gs.length) (hc : ∀ (j : Nat) x g, xs[j]? = some x → gs[j]? = some g → EmN W x g) (hp : ∀ x ∈ xs, ∃ b, x = ptr b) :
    Calls Try.prog 47 #[sv, .func (.func 48) #[] #[]] W fun e w' => e = .returned (.bool (gs.any id)) ∧ W = w' := by
  have HI := Lib.hid (indexFunc_ne W sv xs gs hrow hlen hg hc hp)
  obtain ⟨sa, sn, sc, rfl⟩ := owns_slice hrow.out
  clear hrow hlen hg hc hp
  generalize gs.any id = b at *
  go_enter Try.func47, Try.ntmps47
  go_wp2_with fail
  refine (HI.out).mono ?_
  rintro e w' ⟨r, rfl, hr, rfl⟩
  have HR := Lib.hid hr
  clear hr
  go_wp2_with fail
  go_ret
  exact ⟨by first | rfl | exact ret_bool HR.out | (rw [← HR.out]; rfl), rfl⟩
end Go.Proofs.Ytheblleadjbndaa
