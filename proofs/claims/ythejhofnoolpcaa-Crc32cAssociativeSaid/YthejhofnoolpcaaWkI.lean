/- The walks of the reference's apply, square and Combine. -/
import Derived.Test.YthejhofnoolpcaaWkH
import Derived.Deep.RegionHeld3
namespace Go.Proofs.Ythejhofnoolpcaa
open Go.RowKit Crc

theorem bit_test (x : BitVec 32) (k : Nat) : ((u x / 2 ^ k).tmod 2 == 1) = x.getLsbD k := by
  rw [u_shr x k _ rfl, tmod_u, shr_bit]
  cases x.getLsbD k <;> rfl

set_option maxHeartbeats 400000 in
theorem apply_any (f : Nat → BitVec 32) (x : BitVec 32) (w : World) :
    Calls Try.prog 31 #[.agg (tab 32 f 32), .int .u32 (u x)] w fun e w' => e = .returned (.int .u32 (u (app f 32 x))) ∧ Below w.heap.size w w' := by
  go_enter Try.func31, Try.ntmps31
  go_wp2_with fail
  go_loopw [5, 6] (fun o i wr => ∃ k : Nat, k ≤ 32 ∧ i = .int .i64 k ∧ o = .int .u32 (u (app f k x)) ∧ wr = w.alloc (.cells (tab 32 f 32) 45)) (fun _ i _ => 32 - (intOf i).toNat)
  case atStart => exact ⟨0, Nat.zero_le _, rfl, rfl, rfl⟩
  case round =>
    obtain ⟨k, hk, rfl, rfl, rfl⟩ := hrel
    by_cases hlt : k < 32
    · have g1 := tab_get 32 f 32 k hlt
      rw [if_pos hlt] at g1
      rcases hx : x.getLsbD k
      · have d0 := bit_test x k
        rw [hx] at d0
        have H2 := Lib.hid (app_no f k x hx)
        clear hx
        go_wp2_with fail
        exact ⟨⟨k + 1, by omega, by go_num, by rw [H2.out], trivial⟩, by simp [intOf]; omega⟩
      · have d0 := bit_test x k
        rw [hx] at d0
        have H2 := Lib.hid (app_yes f k x hx)
        clear hx
        go_wp2_with fail
        exact ⟨⟨k + 1, by omega, by go_num, by rw [H2.out], trivial⟩, by simp [intOf]; omega⟩
    · obtain rfl : k = 32 := by omega
      go_wp2
      go_ret
      exact ⟨rfl, (Below.refl _ _).alloc (Nat.le_refl _) _⟩

/-- What square has in memory behind k rounds. -/
structure SqR (B : Nat) (f : Nat → BitVec 32) (c : Array Value) (w W : World) : Prop where
  a : At W B (tab 32 f 32) 45
  b : At W (B + 1) (tab 32 f 0) 45
  c : At W (B + 1 + 1) c 45
  h : Below B w W
/-- 32 registers, the first k of them by g, the others by f. -/
def mix (f g : Nat → BitVec 32) (k : Nat) : Array Value := tab 32 (fun i => if i < k then g i else f i) 32
theorem mix_zero (f g : Nat → BitVec 32) : mix f g 0 = tab 32 f 32 := tab_congr 32 _ _ 32 (fun i _ => if_neg (by omega))
theorem mix_all (f g : Nat → BitVec 32) : mix f g 32 = tab 32 g 32 := tab_congr 32 _ _ 32 (fun _ h => if_pos h)
theorem mix_get (f g : Nat → BitVec 32) (k i : Nat) (h : i < 32) : (mix f g k)[i]? = some (.int .u32 (u (if i < k then g i else f i))) := by
  unfold mix
  rw [tab_get 32 _ 32 i h, if_pos h]
theorem mix_size (f g : Nat → BitVec 32) (k : Nat) : (mix f g k).size = 32 := tab_size _ _ _
theorem mix_set (f g : Nat → BitVec 32) (k : Nat) (h : k < 32) : (mix f g k).setIfInBounds k (.int .u32 (u (g k))) = mix f g (k + 1) := by
  apply Array.ext_getElem?
  intro i
  rw [Array.getElem?_setIfInBounds]
  by_cases e : k = i
  · subst e
    rw [if_pos rfl, if_pos (by rw [mix_size]; exact h), mix_get f g _ k h, if_pos (by omega)]
  · rw [if_neg e]
    by_cases hi : i < 32
    · rw [mix_get f g _ i hi, mix_get f g _ i hi]
      by_cases h2 : i < k
      · rw [if_pos h2, if_pos (by omega)]
      · rw [if_neg h2, if_neg (by omega)]
    · rw [Array.getElem?_eq_none (by rw [mix_size]; omega), Array.getElem?_eq_none (by rw [mix_size]; omega)]
attribute [irreducible] mix

theorem At.drew {W : World} {b : Nat} {c : Array Value} {t : TypeId} (h : At W b c t) : At W.drew b c t := ⟨h.out⟩
theorem apply_list (f : Nat → BitVec 32) (cs : List Value) (hcs : cs = (tab 32 f 32).toList) (x : BitVec 32) (w : World) :
    Calls Try.prog 31 #[.agg cs.toArray, .int .u32 (u x)] w fun e w' => e = .returned (.int .u32 (u (app f 32 x))) ∧ Below w.heap.size w w' := by
  subst hcs
  rw [Array.toArray_toList]
  exact apply_any f x w
theorem At.range {W : World} {b : Nat} {c : Array Value} {t : TypeId} (h : At W b c t) (cs : List Value) (hcs : cs = c.toList) : W.rangeAt b 0 cs := fun j v hv => by
  subst hcs
  rw [Nat.zero_add, h.cell j]
  simpa using hv
theorem held_cells {W : World} {b : Nat} {f : Nat → BitVec 32} {cs : List Value} {k : Nat} (hcs : cs = (tab 32 f 32).toList) (hk : k < 32) (h : At W b (tab 32 f 32) 45) : W.rangeAt b 0 cs ∧ W.cell? ⟨b, k, none⟩ = some (.int .u32 (u (f k))) :=
  ⟨h.range cs hcs, by rw [h.cell k, tab_get 32 f 32 k hk, if_pos hk]⟩
theorem below_drawn {W W1 : World} (h : Below W.drew.heap.size W.drew W1) : Below W.heap.size W W1 := ⟨h.os, h.tape, h.output, h.size, h.block⟩
set_option maxHeartbeats 400000 in
theorem square_any (f : Nat → BitVec 32) (w : World) :
    Calls Try.prog 32 #[.agg (tab 32 f 32)] w fun e w' => e = .returned (.agg (tab 32 (fun i => app f 32 (f i)) 32)) ∧ Below w.heap.size w w' := by
  go_enter Try.func32, Try.ntmps32
  go_wp2_with (first | ((with_reducible refine arm_load 5 rfl rfl 45 (.tmp 1) rfl w.heap.size rfl (c := tab 32 f 32) (t := 45) ?c1 32 22 Try.underlying45 (size32R f 32) ?_); (case c1 => exact (At.new _ _ _).alloc _)) | ((with_reducible refine arm_store 3 (.tmp 5) 45 rfl rfl (w.heap.size + 1 + 1) rfl (c := tab 32 f 32) rfl (t := 45) (old := tab 32 f 0) ?c2 (size32R _ 32) (by rw [tab_size, tab_size]) (tab_one _ _ _) ?_)))
  case c2 =>
    have h := At.new ((w.alloc (.cells (tab 32 f 32) 45)).alloc (.cells (tab 32 f 0) 45)) (tab 32 f 0) 45
    rw [zero32] at h ⊢
    simpa using h
  go_loopw [4] (fun i wr => ∃ k : Nat, k ≤ 32 ∧ i = .int .i64 k ∧ SqR w.heap.size f (mix f (fun i => app f 32 (f i)) k) w wr) (fun i _ => 32 - (intOf i).toNat)
  case atStart =>
    refine ⟨0, Nat.zero_le _, rfl, ?_⟩
    rw [mix_zero]
    refine ⟨((((At.new _ _ _).alloc _).alloc _).rowOther _ (by omega)), ?_, ?_, below_row ((((Below.refl _ _).alloc (Nat.le_refl _) _).alloc (by simp) _).alloc (by simp; omega) _) (by omega) _⟩
    · have h := ((At.new (w.alloc (.cells (tab 32 f 32) 45)) (tab 32 f 0) 45).alloc (.cells (tab 32 f 0) 45)).rowOther (g := w.heap.size + 1 + 1) (tab 32 f 32) (by simp)
      rw [zero32] at h ⊢
      simpa using h
    · have h := (At.new ((w.alloc (.cells (tab 32 f 32) 45)).alloc (.cells (tab 32 f 0) 45)) (tab 32 f 0) 45).row (tab 32 f 32)
      rw [zero32] at h
      simpa using h
  case round =>
    obtain ⟨k, hk, rfl, hsq⟩ := hrel
    by_cases hlt : k < 32
    · obtain ⟨cs, hcs⟩ : ∃ cs, cs = (tab 32 f 32).toList := ⟨_, rfl⟩
      have hsz : (Try.prog.info? 45).map (·.size) = some cs.length := by rw [hcs, Array.length_toList]; exact size32R f 32
      have hu45 := Try.underlying45
      have HAP := Lib.hid (apply_list f cs hcs (f k))
      have hr := hsq.a.range cs hcs
      have HC := Lib.hid hcs
      clear hcs
      have c0 := hsq.a.cell k
      rw [tab_get 32 f 32 k hlt, if_pos hlt] at c0
      have H := Lib.hid (mix_set f (fun i => app f 32 (f i)) k hlt)
      go_wp2_with fail
      go_region_held3 (fun w' => w'.rangeAt w.heap.size 0 cs ∧ w'.cell? ⟨w.heap.size, k, none⟩ = some (.int .u32 (u (f k))))
        (first | exact ⟨hr, c0⟩ | exact held_cells HC.out hlt (hsq.a.below (below_drawn hb)) | exact held_cells HC.out hlt ((hsq.a.below (below_drawn hb)).other _ (by show w.heap.size ≠ w.heap.size + 1 + 1; omega)))
        (first | (go_at_call 31; refine (HAP.out _).mono ?_; rintro e w1 ⟨rfl, hb⟩; (have c1 := (hsq.c.below (below_drawn hb)).cell k); rw [mix_get _ _ k k hlt] at c1; (have c2 := (hsq.c.below (below_drawn hb)).free k)) | fail)
      go_wp2_with fail
      have hb2 := below_drawn hb
      refine ⟨⟨k + 1, by omega, by go_num, ⟨(hsq.a.below hb2).other _ (by show w.heap.size ≠ w.heap.size + 1 + 1; omega), (hsq.b.below hb2).other _ (by show w.heap.size + 1 ≠ w.heap.size + 1 + 1; omega), ?_, (hsq.h.trans (hb2.mono (Nat.le_of_lt hsq.a.lt))).setCell (by show w.heap.size ≤ w.heap.size + 1 + 1; omega) _⟩⟩, by simp [intOf]; omega⟩
      have h1 := (hsq.c.below hb2).set k (.int .u32 (u (app f 32 (f k))))
      rw [H.out] at h1
      exact h1
    · obtain rfl : k = 32 := by omega
      have hc := hsq.c
      rw [mix_all] at hc
      go_wp2_with (first | (with_reducible refine arm_load 17 rfl rfl 45 (.tmp 3) rfl (w.heap.size + 1 + 1) rfl (c := tab 32 (fun i => app f 32 (f i)) 32) (t := 45) hc 32 22 Try.underlying45 (size32R _ 32) ?_) | (with_reducible refine arm_store 2 (.tmp 17) 45 rfl rfl (w.heap.size + 1) rfl (c := tab 32 (fun i => app f 32 (f i)) 32) rfl (t := 45) hsq.b (size32R _ 32) (by rw [tab_size, tab_size]) (tab_one _ _ _) ?_))
      exact bodyPost_ret (results_cell_row (p := 2) (ty := 45) Try.results32 _ _ (w.heap.size + 1) 45 _ (0, 0) _ rfl (hsq.b.row _).out Try.underlying45 rfl (size32R _ 32)) rfl ⟨rfl, below_row hsq.h (by omega) _⟩
end Go.Proofs.Ythejhofnoolpcaa
