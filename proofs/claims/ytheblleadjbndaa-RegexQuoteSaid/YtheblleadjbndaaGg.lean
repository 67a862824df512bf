/- The walk of isEmpty, node by node, and Empty. -/
import Derived.Test.YtheblleadjbndaaGf
namespace Go.Proofs.Ytheblleadjbndaa
open Go.RowKit Rx

set_option maxHeartbeats 1000000 in
theorem em_byte (W : World) (b : Nat) (c : Int) (h : At W b (nd 0 true c (.pointer none) (.slice none 0 0)) 54) : EmC W (ptr b) false := by
  have c0 : W.cell? ⟨b, 0, none⟩ = some (.int .i64 0) := h.cell 0
  have c1 : W.cell? ⟨b, 1, none⟩ = some (.bool true) := h.cell 1
  clear h
  unfold EmC ptr
  go_enter Try.func36, Try.ntmps36
  go_wp2_with fail
  go_ret
  exact ⟨rfl, rfl⟩
set_option maxHeartbeats 1000000 in
theorem em_cls (W : World) (b k : Nat) (f : UInt8 → Bool) (h : At W b (nd 0 false 0 (ptr k) (.slice none 0 0)) 54) (hk : At W k (btab f 256) 102) : EmC W (ptr b) (!all256.any f) := by
  have c0 : W.cell? ⟨b, 0, none⟩ = some (.int .i64 0) := h.cell 0
  have c1 : W.cell? ⟨b, 1, none⟩ = some (.bool false) := h.cell 1
  have c3 : W.cell? ⟨b, 3, none⟩ = some (.pointer (some ⟨k, 0, none⟩)) := h.cell 3
  have HK := Lib.hid (contains_bools f k W hk)
  clear h hk
  generalize all256.any f = r at *
  unfold EmC ptr
  go_enter Try.func36, Try.ntmps36
  go_wp2_with fail
  refine (HK.out).mono ?_
  rintro e w' ⟨rfl, rfl⟩
  go_wp2_with fail
  go_ret
  exact ⟨rfl, rfl⟩
set_option maxHeartbeats 1000000 in
theorem em_seq (W : World) (b : Nat) (sv : Value) (xs : List Value) (gs : List Bool) (h : At W b (nd 1 false 0 (.pointer none) sv) 54) (hrow : TRow W sv xs) (hlen : xs.length ≤ 100000) (hg : xs.length = gs.length) (hc : ∀ (j : Nat) x g, xs[j]? = some x → gs[j]? = some g → EmC W x g) (hp : ∀ x ∈ xs, ∃ b, x = ptr b) : EmC W (ptr b) (gs.any id) := by
  have c0 : W.cell? ⟨b, 0, none⟩ = some (.int .i64 1) := h.cell 0
  have c4 : W.cell? ⟨b, 4, none⟩ = some sv := h.cell 4
  have HK := Lib.hid (containsFunc_em W sv xs gs hrow hlen hg hc hp)
  obtain ⟨sa, sn, sc, rfl⟩ := owns_slice hrow.out
  clear h hrow hlen hg hc hp
  generalize gs.any id = r at *
  unfold EmC ptr
  go_enter Try.func36, Try.ntmps36
  go_wp2_with fail
  refine (HK.out).mono ?_
  rintro e w' ⟨rfl, rfl⟩
  go_wp2_with fail
  go_ret
  exact ⟨rfl, rfl⟩
set_option maxHeartbeats 1000000 in
theorem em_alt (W : World) (b : Nat) (sv : Value) (xs : List Value) (gs : List Bool) (h : At W b (nd 2 false 0 (.pointer none) sv) 54) (hrow : TRow W sv xs) (hlen : xs.length ≤ 100000) (hg : xs.length = gs.length) (hc : ∀ (j : Nat) x g, xs[j]? = some x → gs[j]? = some g → EmN W x g) (hp : ∀ x ∈ xs, ∃ b, x = ptr b) : EmC W (ptr b) (!gs.any id) := by
  have c0 : W.cell? ⟨b, 0, none⟩ = some (.int .i64 2) := h.cell 0
  have c4 : W.cell? ⟨b, 4, none⟩ = some sv := h.cell 4
  have HK := Lib.hid (containsFunc_ne W sv xs gs hrow hlen hg hc hp)
  obtain ⟨sa, sn, sc, rfl⟩ := owns_slice hrow.out
  clear h hrow hlen hg hc hp
  generalize gs.any id = r at *
  unfold EmC ptr
  go_enter Try.func36, Try.ntmps36
  go_wp2_with fail
  refine (HK.out).mono ?_
  rintro e w' ⟨rfl, rfl⟩
  go_wp2_with fail
  go_ret
  exact ⟨rfl, rfl⟩
set_option maxHeartbeats 1000000 in
theorem em_star (W : World) (b : Nat) (sv : Value) (h : At W b (nd 3 false 0 (.pointer none) sv) 54) : EmC W (ptr b) false := by
  have c0 : W.cell? ⟨b, 0, none⟩ = some (.int .i64 3) := h.cell 0
  clear h
  unfold EmC ptr
  go_enter Try.func36, Try.ntmps36
  go_wp2_with fail
  go_ret
  exact ⟨rfl, rfl⟩
set_option maxHeartbeats 1000000 in
theorem em_opt (W : World) (b : Nat) (sv : Value) (h : At W b (nd 5 false 0 (.pointer none) sv) 54) : EmC W (ptr b) false := by
  have c0 : W.cell? ⟨b, 0, none⟩ = some (.int .i64 5) := h.cell 0
  clear h
  unfold EmC ptr
  go_enter Try.func36, Try.ntmps36
  go_wp2_with fail
  go_ret
  exact ⟨rfl, rfl⟩
set_option maxHeartbeats 1000000 in
theorem em_plus (W : World) (b : Nat) (sv x : Value) (r : Bool) (h : At W b (nd 4 false 0 (.pointer none) sv) 54) (hrow : TRow W sv [x]) (hx : EmC W x r) (hp : ∃ b, x = ptr b) : EmC W (ptr b) r := by
  have c0 : W.cell? ⟨b, 0, none⟩ = some (.int .i64 4) := h.cell 0
  have c4 : W.cell? ⟨b, 4, none⟩ = some sv := h.cell 4
  obtain ⟨g, cap, rfl, h1, d1⟩ : ∃ g cap, sv = .slice (some ⟨g, 0, none⟩) 1 cap ∧ 1 ≤ cap ∧ W.cell? ⟨g, 0, none⟩ = some x := by
    rcases hrow.out.2 with ⟨e, h0⟩ | ⟨g, cap, cur, e, _, _, h3, _⟩
    · simp at h0
    · exact ⟨g, cap, e, by simpa using h3, owns_cell (j := 0) hrow.out (by rw [e]; rfl) rfl⟩
  obtain ⟨xb, rfl⟩ := hp
  have HX : Hid (Calls Try.prog 36 #[ptr xb] W fun e w' => e = .returned (.bool r) ∧ W = w') := Lib.hid hx
  clear h hrow hx h1
  unfold ptr at *
  unfold EmC
  go_enter Try.func36, Try.ntmps36
  go_wp2_with fail
  refine (HX.out).mono ?_
  rintro e w' ⟨rfl, rfl⟩
  go_wp2_with fail
  go_ret
  exact ⟨rfl, rfl⟩

/-- Answers along a row. -/
structure EmL (W : World) (xs : List Value) (gs : List Bool) : Prop where
  len : xs.length = gs.length
  at_ : ∀ (j : Nat) x g, xs[j]? = some x → gs[j]? = some g → EmC W x g
  ptr : ∀ x ∈ xs, ∃ b, x = Go.Proofs.Ytheblleadjbndaa.ptr b
theorem EmL.nil (W : World) : EmL W [] [] := ⟨rfl, fun j x g h => (by simp at h), fun x h => (by simp at h)⟩
theorem EmL.cons {W : World} {x : Value} {g : Bool} {xs : List Value} {gs : List Bool} (h : EmC W x g) (hp : ∃ b, x = Go.Proofs.Ytheblleadjbndaa.ptr b) (hs : EmL W xs gs) : EmL W (x :: xs) (g :: gs) := by
  refine ⟨by simp [hs.len], fun j y r hy hr => ?_, fun y hy => ?_⟩
  · rcases j with _ | j
    · simp at hy hr
      obtain rfl := hy
      obtain rfl := hr
      exact h
    · exact hs.at_ j y r (by simpa using hy) (by simpa using hr)
  · rcases List.mem_cons.1 hy with rfl | hy
    · exact hp
    · exact hs.ptr y hy
theorem EmL.notN {W : World} {xs : List Value} {gs : List Bool} (h : EmL W xs gs) (j : Nat) (x : Value) (g : Bool) (hx : xs[j]? = some x) (hg : (gs.map (!·))[j]? = some g) : EmN W x g := by
  rw [List.getElem?_map, Option.map_eq_some_iff] at hg
  obtain ⟨r, hr, rfl⟩ := hg
  exact (h.at_ j x r hx hr).not
theorem any_not (gs : List Bool) : (!(gs.map (!·)).any id) = gs.all id := by
  induction gs with
  | nil => rfl
  | cons g gs ih => cases g <;> simp_all
mutual
theorem isEmpty_U {S : Nat → Prop} {W : World} : ∀ (u : U) (v : Value), szU u ≤ 1000 → IsU S W u v → EmC W v (emU u)
  | .byte c, v, _, h => by
    unfold IsU at h
    obtain ⟨b, _, rfl, h1⟩ := h
    exact em_byte W b _ h1
  | .cls f, v, _, h => by
    unfold IsU at h
    obtain ⟨b, k, _, _, rfl, h1, h2⟩ := h
    exact em_cls W b k f h1 h2
  | .grp a, v, hz, h => by
    unfold IsU at h
    exact isEmpty_A a v (by simp only [szU] at hz; omega) h
  | .star u, v, _, h => by
    unfold IsU at h
    obtain ⟨b, sv, xs, _, rfl, h1, _⟩ := h
    exact em_star W b sv h1
  | .opt u, v, _, h => by
    unfold IsU at h
    obtain ⟨b, sv, xs, _, rfl, h1, _⟩ := h
    exact em_opt W b sv h1
  | .plus u, v, hz, h => by
    unfold IsU at h
    obtain ⟨b, sv, xs, _, rfl, h1, h2, x, rfl, h3⟩ := h
    exact em_plus W b sv x _ h1 ⟨h2.1⟩ (isEmpty_U u x (by simp only [szU] at hz; omega) h3) (IsU.ptr u x h3)
theorem isEmpty_A {S : Nat → Prop} {W : World} : ∀ (a : As) (v : Value), szA a ≤ 1000 → IsA S W a v → EmC W v (emA a)
  | .one s, v, hz, h => by
    unfold IsA at h
    obtain ⟨b, sv, xs, _, rfl, h1, h2, h3⟩ := h
    obtain ⟨gs, h4, h5⟩ := isEmpty_S s xs (by simp only [szA] at hz; omega) h3
    have hl := IsSl.len s xs h3
    have hl2 := szSs_le s
    simp only [szA] at hz
    have := em_seq W b sv xs gs h1 ⟨h2.1⟩ (by omega) h4.len h4.at_ h4.ptr
    rw [h5] at this
    exact this
  | .more s a, v, hz, h => by
    unfold IsA at h
    obtain ⟨b, sv, xs, _, rfl, h1, h2, x, ys, rfl, h3, h4⟩ := h
    simp only [szA] at hz
    obtain ⟨xb, xsv, zs, _, rfl, h5, h6, h7⟩ := h3
    obtain ⟨gs, h8, h9⟩ := isEmpty_S s zs (by omega) h7
    have hl := IsSl.len s zs h7
    have hl2 := szSs_le s
    have hx := em_seq W xb xsv zs gs h5 ⟨h6.1⟩ (by omega) h8.len h8.at_ h8.ptr
    rw [h9] at hx
    obtain ⟨hs, h10, h11, h12⟩ := isEmpty_L a ys (by omega) h4
    have hall := EmL.cons hx ⟨xb, rfl⟩ h10
    have := em_alt W b sv _ _ h1 ⟨h2.1⟩ (by simp; omega) (by rw [List.length_map]; exact hall.len) hall.notN hall.ptr
    rw [any_not] at this
    simp only [List.all_cons, h11, id] at this
    unfold emA
    exact this
theorem isEmpty_L {S : Nat → Prop} {W : World} : ∀ (a : As) (xs : List Value), szA a ≤ 1000 → IsAl S W a xs → ∃ gs, EmL W xs gs ∧ gs.all id = emA a ∧ xs.length ≤ szA a + 1
  | .one s, xs, hz, h => by
    unfold IsAl at h
    simp only [szA] at hz
    obtain ⟨x, rfl, xb, xsv, zs, _, rfl, h5, h6, h7⟩ := h
    obtain ⟨gs, h8, h9⟩ := isEmpty_S s zs (by omega) h7
    have hl := IsSl.len s zs h7
    have hl2 := szSs_le s
    have hx := em_seq W xb xsv zs gs h5 ⟨h6.1⟩ (by omega) h8.len h8.at_ h8.ptr
    rw [h9] at hx
    exact ⟨[emS s], EmL.cons hx ⟨xb, rfl⟩ (EmL.nil W), by simp [emA], by simp⟩
  | .more s a, xs, hz, h => by
    unfold IsAl at h
    simp only [szA] at hz
    obtain ⟨x, ys, rfl, ⟨xb, xsv, zs, _, rfl, h5, h6, h7⟩, h4⟩ := h
    obtain ⟨gs, h8, h9⟩ := isEmpty_S s zs (by omega) h7
    have hl := IsSl.len s zs h7
    have hl2 := szSs_le s
    have hx := em_seq W xb xsv zs gs h5 ⟨h6.1⟩ (by omega) h8.len h8.at_ h8.ptr
    rw [h9] at hx
    obtain ⟨hs, h10, h11, h12⟩ := isEmpty_L a ys (by omega) h4
    exact ⟨emS s :: hs, EmL.cons hx ⟨xb, rfl⟩ h10, by simp [emA, h11], by simp only [List.length_cons, szA]; omega⟩
theorem isEmpty_S {S : Nat → Prop} {W : World} : ∀ (s : Ss) (xs : List Value), szS s ≤ 1000 → IsSl S W s xs → ∃ gs, EmL W xs gs ∧ gs.any id = emS s
  | .nil, xs, _, h => by
    unfold IsSl at h
    subst h
    exact ⟨[], EmL.nil W, by simp [emS]⟩
  | .cons u s, xs, hz, h => by
    unfold IsSl at h
    simp only [szS] at hz
    obtain ⟨x, ys, rfl, h1, h2⟩ := h
    have hx := isEmpty_U u x (by omega) h1
    obtain ⟨gs, h3, h4⟩ := isEmpty_S s ys (by omega) h2
    exact ⟨emU u :: gs, EmL.cons hx (IsU.ptr u x h1) h3, by simp [emS, h4]⟩
end

set_option maxHeartbeats 1000000 in
theorem empty_any (p : ByteArray) (W : World) : Calls Try.prog 26 #[.string p] W fun e w' => e = .returned (.bool (emptyR (bs p))) ∧ Below W.heap.size W w' := by
  have HP := Lib.hid (parse_any p W)
  go_enter Try.func26, Try.ntmps26
  go_wp2_with fail
  refine (HP.out).mono ?_
  rintro e w1 ⟨hb, hp⟩
  have HB := Lib.hid hb
  clear hb HP
  rcases ha : parse (bs p) with _ | a
  · rw [ha] at hp
    simp only at hp
    obtain rfl := hp
    have HE2 : Hid (emptyR (bs p) = false) := Lib.hid (by unfold emptyR; rw [ha])
    clear ha
    go_wp2_with fail
    go_ret
    exact ⟨ret_bool HE2.out.symm, HB.out⟩
  · rw [ha] at hp
    simp only at hp
    obtain ⟨v, rfl, hv⟩ := hp
    have HE2 : Hid (emptyR (bs p) = emA a) := Lib.hid (empty_of ha)
    have hsz := parse_sz ha
    have hem := isEmpty_A a v (by omega) hv
    obtain ⟨vb, rfl⟩ := IsA.ptr a v hv
    have HM : Hid (Calls Try.prog 36 #[ptr vb] w1 fun e w' => e = .returned (.bool (emA a)) ∧ w1 = w') := Lib.hid hem
    clear ha hv hsz hem
    unfold ptr at *
    go_wp2_with fail
    refine (HM.out).mono ?_
    rintro e w2 ⟨rfl, rfl⟩
    go_wp2_with fail
    go_ret
    exact ⟨ret_bool HE2.out.symm, HB.out⟩
end Go.Proofs.Ytheblleadjbndaa
