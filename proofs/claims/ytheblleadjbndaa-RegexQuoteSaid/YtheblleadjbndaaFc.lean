/- The search's walks: spread at every state, the functions that accept. -/
import Derived.Test.YtheblleadjbndaaFb
namespace Go.Proofs.Ytheblleadjbndaa
open Go.RowKit Rx

theorem spread_ok (n : Nat) : SpreadOK n := by
  induction n with
  | zero => intro B Z W m b st M sv ts mk q f k hM hOk hs hm hz hlen hq hMl hfree; omega
  | succ n ih =>
    intro B Z W m b st M sv ts mk q f k hM hOk hs hm hz hlen hq hMl hfree htf hf hk
    by_cases h : mk[q]? = some k
    · exact spread_marked n W m b sv ts mk q f k M hs hm h (by omega)
    · obtain ⟨s, hst⟩ : ∃ s, M[q]? = some s := ⟨_, List.getElem?_eq_getElem hq⟩
      rcases s with ⟨g, q'⟩ | qs
      · exact spread_rd n B Z W m b st M sv ts mk q f k hM hs hm hz hlen hq hMl (by omega) h g q' hst
      · by_cases h0 : q = 0
        · exact spread_zero n B Z W m b st M sv ts mk q f k hM hs hm hz hlen hq hMl (by omega) h qs hst h0
        · exact spread_ep n B Z W m b st M sv ts mk q f k hM hs hm hz hlen hq hMl (by omega) h qs hst h0 hOk hfree htf hf hk ih

set_option maxHeartbeats 400000 in
theorem acc_byte (c x : UInt8) (b : Nat) (w : World) (h : At w b #[.int .u8 c.toNat] 5) :
    Calls Try.prog 60 #[.int .u8 x.toNat, ptr b] w fun e w' => e = .returned (.bool (x == c)) ∧ w' = w := by
  have c1 : w.cell? ⟨b, 0, none⟩ = some (.int .u8 c.toNat) := h.cell 0
  have HB : Hid ((x == c) = ((x.toNat : Int) == (c.toNat : Int))) := Lib.hid (by
    by_cases e : x = c
    · subst e; simp
    · have : ¬ x.toNat = c.toNat := fun h => e (UInt8.toNat_inj.1 h)
      rw [beq_eq_false_iff_ne.2 e]
      symm
      rw [beq_eq_false_iff_ne]; omega)
  unfold ptr
  go_enter Try.func60, Try.ntmps60
  go_wp2_with fail
  go_ret
  exact ⟨ret_bool HB.out.symm, rfl⟩
set_option maxHeartbeats 400000 in
theorem acc_cls (x : UInt8) (b k : Nat) (f : UInt8 → Bool) (w : World) (h : At w b #[ptr k] 51) (hk : At w k (btab f 256) 102) :
    Calls Try.prog 61 #[.int .u8 x.toNat, ptr b] w fun e w' => e = .returned (.bool (f x)) ∧ w' = w := by
  have c1 : w.cell? ⟨b, 0, none⟩ = some (ptr k) := h.cell 0
  have hx := x.toNat_lt
  have c2 : w.cell? ⟨k, x.toNat, none⟩ = some (.bool (f x)) := by
    rw [hk.cell x.toNat, btab_get f 256 _ hx, if_pos hx]; simp
  unfold ptr at *
  generalize f x = y at *
  go_enter Try.func61, Try.ntmps61
  go_wp2_with fail
  go_ret
  exact ⟨rfl, rfl⟩
/-- What a function value of a state tells. -/
theorem fn_calls {w : World} {v : Value} {f : UInt8 → Bool} (h : IsFn w v f) (x : UInt8) : ∃ k b, v = .func (.func k) #[] #[ptr b] ∧ (k = 60 ∨ k = 61) ∧ ∀ n, Calls Try.prog k #[.int .u8 x.toNat, ptr b] (w.drewN n) fun e w' => e = .returned (.bool (f x)) ∧ w' = w.drewN n := by
  rcases h with ⟨b, c, e, ha, rfl⟩ | ⟨b, k, e, ha, hk⟩
  · exact ⟨_, b, e, .inl rfl, fun n => acc_byte c x b _ (ha.drewN n)⟩
  · exact ⟨_, b, e, .inr rfl, fun n => acc_cls x b k f _ (ha.drewN n) (hk.drewN n)⟩
end Go.Proofs.Ytheblleadjbndaa
