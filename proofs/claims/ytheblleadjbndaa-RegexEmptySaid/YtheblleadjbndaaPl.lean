/- The parser's walks: parse. -/
import Derived.Test.YtheblleadjbndaaPk
namespace Go.Proofs.Ytheblleadjbndaa
open Go.RowKit Rx

theorem all_ok (n : Nat) : AltOK n ∧ SeqOK n ∧ AtomOK n := by
  induction n using Nat.strongRecOn with
  | _ n ih =>
    refine ⟨alt_ok n fun m hm => (ih m hm).2.1, seq_ok n fun m hm => (ih m hm).2.2, ?_⟩
    rcases n with _ | n
    · intro W p s l _ _ h
      omega
    · exact atom_ok n (ih n (Nat.lt_succ_self n)).1

/-- What parse hands back. -/
def ParsePost (s : ByteArray) (W : World) (e : Ending) (w' : World) : Prop :=
  Below W.heap.size W w' ∧ match parse (bs s) with
  | none => e = .returned (.tuple #[.pointer none, .bool false])
  | some a => ∃ v, e = .returned (.tuple #[v, .bool true]) ∧ IsA (Fresh W w') w' a v
theorem ParsePost.no {s : ByteArray} {W w' : World} (hr : parse (bs s) = none) (hk : Below W.heap.size W w') : ParsePost s W (.returned (.tuple #[.pointer none, .bool false])) w' := by
  unfold ParsePost; rw [hr]; exact ⟨hk, rfl⟩
theorem ParsePost.yes {s : ByteArray} {W w' : World} {a : As} {v : Value} (hr : parse (bs s) = some a) (hk : Below W.heap.size W w') (ha : IsA (Fresh W w') w' a v) : ParsePost s W (.returned (.tuple #[v, .bool true])) w' := by
  unfold ParsePost; rw [hr]; exact ⟨hk, v, rfl, ha⟩

set_option maxHeartbeats 1000000 in
theorem parse_any (s : ByteArray) (W : World) :
    Calls Try.prog 28 #[.string s] W (ParsePost s W) := by
  by_cases h : 200 < s.size
  · have HE : Hid (parse (bs s) = none) := Lib.hid (by unfold parse; rw [if_pos (by rw [bs_length]; exact h)])
    go_enter Try.func28, Try.ntmps28
    go_wp2_with fail
    go_ret2
    exact ParsePost.no HE.out (Below.refl _ _)
  · have hs : s.size ≤ 200 := by omega
    have HE : Hid (parse (bs s) = match alts (fuel s.size) (bs s) with | some (a, []) => some a | _ => none) := Lib.hid (by unfold parse; rw [if_neg (by rw [bs_length]; exact h)]; rfl)
    have hp0 : PS (W.alloc (.cells #[.string s, .int .i64 0] 62)) W.heap.size s (bs s) := by
      refine ⟨Nat.le_refl _, by rw [bs_length, Nat.sub_self]; rfl, ?_⟩
      have := At.new W #[.string s, .int .i64 0] 62
      rw [bs_length, Nat.sub_self]
      exact this
    have HC := Lib.hid ((all_ok (fuel s.size)).1 _ _ s (bs s) (by omega) hp0 (by rw [bs_length]; unfold fuel; omega))
    have HB1 : Hid (Below W.heap.size W (W.alloc (.cells #[.string s, .int .i64 0] 62))) := Lib.hid ((Below.refl _ _).alloc (Nat.le_refl _) _)
    have HS1 : Hid (W.heap.size ≤ (W.alloc (.cells #[.string s, .int .i64 0] 62)).heap.size) := Lib.hid (by simp)
    clear h hp0
    unfold ptr at HC
    go_enter Try.func28, Try.ntmps28
    go_wp2_with fail
    generalize (W.alloc (.cells #[.string s, .int .i64 0] 62)) = w1 at *
    refine (HC.out).mono ?_
    rintro e w2 ⟨hk2, h2⟩
    have HB2 : Hid (Below W.heap.size W w2) := Lib.hid (HB1.out.trans (hk2.toBelow (Nat.le_refl _) HS1.out))
    clear hk2
    rcases hal : alts (fuel s.size) (bs s) with _ | ⟨a, l'⟩
    · rw [hal] at h2 HE
      simp only at h2
      subst h2
      clear hal
      go_wp2_with fail
      go_ret2
      exact ParsePost.no HE.out HB2.out
    · rw [hal] at h2 HE
      simp only at h2
      obtain ⟨v, rfl, hia, hp2⟩ := h2
      have HIA := Lib.hid hia
      have c1 : w2.cell? ⟨W.heap.size, 1, none⟩ = some (.int .i64 ((s.size - l'.length : Nat) : Int)) := hp2.at_.cell 1
      have hle := hp2.le
      clear hal hia hp2
      rcases l' with _ | ⟨c, r⟩
      · have d1 : ((((s.size - ([] : List UInt8).length : Nat) : Int)) != (s.size : Int)) = false := by simp
        generalize s.size - ([] : List UInt8).length = k at *
        go_wp2_with fail
        go_ret2
        exact ParsePost.yes HE.out HB2.out (IsA.same (Same.refl _ _) (fun k hk => Fresh.mono HS1.out hk) a v HIA.out)
      · have d1 : ((((s.size - (c :: r).length : Nat) : Int)) != (s.size : Int)) = true := by rw [bne_iff_ne]; simp only [List.length_cons] at hle ⊢; omega
        clear hle
        generalize s.size - (c :: r).length = k at *
        go_wp2_with fail
        go_ret2
        exact ParsePost.no HE.out HB2.out
end Go.Proofs.Ytheblleadjbndaa
