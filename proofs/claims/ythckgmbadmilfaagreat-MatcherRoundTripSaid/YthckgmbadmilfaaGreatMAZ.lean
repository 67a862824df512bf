/- The walk of isEmpty, node by node, and Empty. Walks: the first step of simplifying, what excludes what (the program's). DERIVED: THE SHELF's CONTRACTS AT THIS DUMP, IN PLAIN WORDS (tools/lay-plain.mjs out of 'TryzShelfC.lean', which tools/lay-shelf.mjs wrote): THE SAME DECLARATIONS UNDER THE SAME NAMES: 'import', 'namespace', 'open', 'def', 'theorem' AND NOTHING ELSE: no command of the shelf's: FOR A HAND-IN. Each laying: the table of numbers ('.._ren') and one theorem, a field a fact of the dump's own or the kernel's comparison; each contract: ONE APPLICATION. -/
import Derived.Test.YthckgmbadmilfaaGreatMAY
import Derived.Test.YthckgmbadmilfaaGreatMAX
import Derived.Test.YthckgmbadmilfaaGreatMAG
import Derived.Test.YthckgmbadmilfaaGreatMAL
import Derived.Shelf.SlGeneric
import Derived.Shelf.SlicesQ.IndexFunc
import Derived.Shelf.SlicesQ.Contains
import Derived.Shelf.SlicesQ.Reverse
import Derived.Shelf.SlicesE.Clone
import Derived.Shelf.SlicesE.IndexFunc
import Derived.Shelf.SlSortCmp.NoneTotal
import Derived.Ground.SlgfProg
import Derived.Ground.SlsfProg
import Derived.Ground.SlgqProg
import Derived.Ground.SlgnProg
import Derived.Test.YthckgmbadmilfaaGreatProg
namespace Go.Proofs.YthckgmbadmilfaaGreat
open Go.RowKit Rx

set_option maxHeartbeats 1000000 in
theorem em_byte (W : World) (b : Nat) (c : Int) (h : At W b (nd 0 true c (.pointer none) (.slice none 0 0)) 121) : EmC W (ptr b) false := by
  have c0 : W.cell? ⟨b, 0, none⟩ = some (.int .i64 0) := h.cell 0
  have c1 : W.cell? ⟨b, 1, none⟩ = some (.bool true) := h.cell 1
  clear h
  unfold EmC ptr
  go_enter Tryz.func109, Tryz.ntmps109
  go_wp2_with fail
  go_ret
  exact ⟨rfl, rfl⟩
set_option maxHeartbeats 1000000 in
theorem em_cls (W : World) (b k : Nat) (f : UInt8 → Bool) (h : At W b (nd 0 false 0 (ptr k) (.slice none 0 0)) 121) (hk : At W k (btab f 256) 202) : EmC W (ptr b) (!all256.any f) := by
  have c0 : W.cell? ⟨b, 0, none⟩ = some (.int .i64 0) := h.cell 0
  have c1 : W.cell? ⟨b, 1, none⟩ = some (.bool false) := h.cell 1
  have c3 : W.cell? ⟨b, 3, none⟩ = some (.pointer (some ⟨k, 0, none⟩)) := h.cell 3
  have HK := Lib.hid (contains_bools f k W hk)
  clear h hk
  generalize all256.any f = r at *
  unfold EmC ptr
  go_enter Tryz.func109, Tryz.ntmps109
  go_wp2_with fail
  refine (HK.out).mono ?_
  rintro e w' ⟨rfl, rfl⟩
  go_wp2_with fail
  go_ret
  exact ⟨rfl, rfl⟩
set_option maxHeartbeats 1000000 in
theorem em_seq (W : World) (b : Nat) (sv : Value) (xs : List Value) (gs : List Bool) (h : At W b (nd 1 false 0 (.pointer none) sv) 121) (hrow : TRow W sv xs) (hlen : xs.length ≤ 100000) (hg : xs.length = gs.length) (hc : ∀ (j : Nat) x g, xs[j]? = some x → gs[j]? = some g → EmC W x g) (hp : ∀ x ∈ xs, ∃ b, x = ptr b) : EmC W (ptr b) (gs.any id) := by
  have c0 : W.cell? ⟨b, 0, none⟩ = some (.int .i64 1) := h.cell 0
  have c4 : W.cell? ⟨b, 4, none⟩ = some sv := h.cell 4
  have HK := Lib.hid (containsFunc_em W sv xs gs hrow hlen hg hc hp)
  obtain ⟨sa, sn, sc, rfl⟩ := owns_slice hrow.out
  clear h hrow hlen hg hc hp
  generalize gs.any id = r at *
  unfold EmC ptr
  go_enter Tryz.func109, Tryz.ntmps109
  go_wp2_with fail
  refine (HK.out).mono ?_
  rintro e w' ⟨rfl, rfl⟩
  go_wp2_with fail
  go_ret
  exact ⟨rfl, rfl⟩
set_option maxHeartbeats 1000000 in
theorem em_alt (W : World) (b : Nat) (sv : Value) (xs : List Value) (gs : List Bool) (h : At W b (nd 2 false 0 (.pointer none) sv) 121) (hrow : TRow W sv xs) (hlen : xs.length ≤ 100000) (hg : xs.length = gs.length) (hc : ∀ (j : Nat) x g, xs[j]? = some x → gs[j]? = some g → EmN W x g) (hp : ∀ x ∈ xs, ∃ b, x = ptr b) : EmC W (ptr b) (!gs.any id) := by
  have c0 : W.cell? ⟨b, 0, none⟩ = some (.int .i64 2) := h.cell 0
  have c4 : W.cell? ⟨b, 4, none⟩ = some sv := h.cell 4
  have HK := Lib.hid (containsFunc_ne W sv xs gs hrow hlen hg hc hp)
  obtain ⟨sa, sn, sc, rfl⟩ := owns_slice hrow.out
  clear h hrow hlen hg hc hp
  generalize gs.any id = r at *
  unfold EmC ptr
  go_enter Tryz.func109, Tryz.ntmps109
  go_wp2_with fail
  refine (HK.out).mono ?_
  rintro e w' ⟨rfl, rfl⟩
  go_wp2_with fail
  go_ret
  exact ⟨rfl, rfl⟩
set_option maxHeartbeats 1000000 in
theorem em_star (W : World) (b : Nat) (sv : Value) (h : At W b (nd 3 false 0 (.pointer none) sv) 121) : EmC W (ptr b) false := by
  have c0 : W.cell? ⟨b, 0, none⟩ = some (.int .i64 3) := h.cell 0
  clear h
  unfold EmC ptr
  go_enter Tryz.func109, Tryz.ntmps109
  go_wp2_with fail
  go_ret
  exact ⟨rfl, rfl⟩
set_option maxHeartbeats 1000000 in
theorem em_opt (W : World) (b : Nat) (sv : Value) (h : At W b (nd 5 false 0 (.pointer none) sv) 121) : EmC W (ptr b) false := by
  have c0 : W.cell? ⟨b, 0, none⟩ = some (.int .i64 5) := h.cell 0
  clear h
  unfold EmC ptr
  go_enter Tryz.func109, Tryz.ntmps109
  go_wp2_with fail
  go_ret
  exact ⟨rfl, rfl⟩
set_option maxHeartbeats 1000000 in
theorem em_plus (W : World) (b : Nat) (sv x : Value) (r : Bool) (h : At W b (nd 4 false 0 (.pointer none) sv) 121) (hrow : TRow W sv [x]) (hx : EmC W x r) (hp : ∃ b, x = ptr b) : EmC W (ptr b) r := by
  have c0 : W.cell? ⟨b, 0, none⟩ = some (.int .i64 4) := h.cell 0
  have c4 : W.cell? ⟨b, 4, none⟩ = some sv := h.cell 4
  obtain ⟨g, cap, rfl, h1, d1⟩ : ∃ g cap, sv = .slice (some ⟨g, 0, none⟩) 1 cap ∧ 1 ≤ cap ∧ W.cell? ⟨g, 0, none⟩ = some x := by
    rcases hrow.out.2 with ⟨e, h0⟩ | ⟨g, cap, cur, e, _, _, h3, _⟩
    · simp at h0
    · exact ⟨g, cap, e, by simpa using h3, owns_cell (j := 0) hrow.out (by rw [e]; rfl) rfl⟩
  obtain ⟨xb, rfl⟩ := hp
  have HX : Hid (Calls Tryz.prog 109 #[ptr xb] W fun e w' => e = .returned (.bool r) ∧ W = w') := Lib.hid hx
  clear h hrow hx h1
  unfold ptr at *
  unfold EmC
  go_enter Tryz.func109, Tryz.ntmps109
  go_wp2_with fail
  refine (HX.out).mono ?_
  rintro e w' ⟨rfl, rfl⟩
  go_wp2_with fail
  go_ret
  exact ⟨rfl, rfl⟩

/-- Answers along a row. -/
structure EmL (W : World) (xs : List Value) (gs : List Bool) : Prop where
  len : xs.length = gs.length
  at_ : ∀ (j : Nat) x g, xs[j]? = some x → gs[j]? = some g → EmC W x g
  ptr : ∀ x ∈ xs, ∃ b, x = Go.Proofs.YthckgmbadmilfaaGreat.ptr b
theorem EmL.nil (W : World) : EmL W [] [] := ⟨rfl, fun j x g h => (by simp at h), fun x h => (by simp at h)⟩
theorem EmL.cons {W : World} {x : Value} {g : Bool} {xs : List Value} {gs : List Bool} (h : EmC W x g) (hp : ∃ b, x = Go.Proofs.YthckgmbadmilfaaGreat.ptr b) (hs : EmL W xs gs) : EmL W (x :: xs) (g :: gs) := by
  refine ⟨by simp [hs.len], fun j y r hy hr => ?_, fun y hy => ?_⟩
  · rcases j with _ | j
    · simp at hy hr
      obtain rfl := hy
      obtain rfl := hr
      exact h
    · exact hs.at_ j y r (by simpa using hy) (by simpa using hr)
  · rcases List.mem_cons.1 hy with rfl | hy
    · exact hp
    · exact hs.ptr y hy
theorem EmL.notN {W : World} {xs : List Value} {gs : List Bool} (h : EmL W xs gs) (j : Nat) (x : Value) (g : Bool) (hx : xs[j]? = some x) (hg : (gs.map (!·))[j]? = some g) : EmN W x g := by
  rw [List.getElem?_map, Option.map_eq_some_iff] at hg
  obtain ⟨r, hr, rfl⟩ := hg
  exact (h.at_ j x r hx hr).not
theorem any_not (gs : List Bool) : (!(gs.map (!·)).any id) = gs.all id := by
  induction gs with
  | nil => rfl
  | cons g gs ih => cases g <;> simp_all
mutual
theorem isEmpty_U {S : Nat → Prop} {W : World} : ∀ (u : U) (v : Value), szU u ≤ 1000 → IsU S W u v → EmC W v (emU u)
  | .byte c, v, _, h => by
    unfold IsU at h
    obtain ⟨b, _, rfl, h1⟩ := h
    exact em_byte W b _ h1
  | .cls f, v, _, h => by
    unfold IsU at h
    obtain ⟨b, k, _, _, rfl, h1, h2⟩ := h
    exact em_cls W b k f h1 h2
  | .grp a, v, hz, h => by
    unfold IsU at h
    exact isEmpty_A a v (by simp only [szU] at hz; omega) h
  | .star u, v, _, h => by
    unfold IsU at h
    obtain ⟨b, sv, xs, _, rfl, h1, _⟩ := h
    exact em_star W b sv h1
  | .opt u, v, _, h => by
    unfold IsU at h
    obtain ⟨b, sv, xs, _, rfl, h1, _⟩ := h
    exact em_opt W b sv h1
  | .plus u, v, hz, h => by
    unfold IsU at h
    obtain ⟨b, sv, xs, _, rfl, h1, h2, x, rfl, h3⟩ := h
    exact em_plus W b sv x _ h1 ⟨h2.1⟩ (isEmpty_U u x (by simp only [szU] at hz; omega) h3) (IsU.ptr u x h3)
theorem isEmpty_A {S : Nat → Prop} {W : World} : ∀ (a : As) (v : Value), szA a ≤ 1000 → IsA S W a v → EmC W v (emA a)
  | .one s, v, hz, h => by
    unfold IsA at h
    obtain ⟨b, sv, xs, _, rfl, h1, h2, h3⟩ := h
    obtain ⟨gs, h4, h5⟩ := isEmpty_S s xs (by simp only [szA] at hz; omega) h3
    have hl := IsSl.len s xs h3
    have hl2 := szSs_le s
    simp only [szA] at hz
    have := em_seq W b sv xs gs h1 ⟨h2.1⟩ (by omega) h4.len h4.at_ h4.ptr
    rw [h5] at this
    exact this
  | .more s a, v, hz, h => by
    unfold IsA at h
    obtain ⟨b, sv, xs, _, rfl, h1, h2, x, ys, rfl, h3, h4⟩ := h
    simp only [szA] at hz
    obtain ⟨xb, xsv, zs, _, rfl, h5, h6, h7⟩ := h3
    obtain ⟨gs, h8, h9⟩ := isEmpty_S s zs (by omega) h7
    have hl := IsSl.len s zs h7
    have hl2 := szSs_le s
    have hx := em_seq W xb xsv zs gs h5 ⟨h6.1⟩ (by omega) h8.len h8.at_ h8.ptr
    rw [h9] at hx
    obtain ⟨hs, h10, h11, h12⟩ := isEmpty_L a ys (by omega) h4
    have hall := EmL.cons hx ⟨xb, rfl⟩ h10
    have := em_alt W b sv _ _ h1 ⟨h2.1⟩ (by simp; omega) (by rw [List.length_map]; exact hall.len) hall.notN hall.ptr
    rw [any_not] at this
    simp only [List.all_cons, h11, id] at this
    unfold emA
    exact this
theorem isEmpty_L {S : Nat → Prop} {W : World} : ∀ (a : As) (xs : List Value), szA a ≤ 1000 → IsAl S W a xs → ∃ gs, EmL W xs gs ∧ gs.all id = emA a ∧ xs.length ≤ szA a + 1
  | .one s, xs, hz, h => by
    unfold IsAl at h
    simp only [szA] at hz
    obtain ⟨x, rfl, xb, xsv, zs, _, rfl, h5, h6, h7⟩ := h
    obtain ⟨gs, h8, h9⟩ := isEmpty_S s zs (by omega) h7
    have hl := IsSl.len s zs h7
    have hl2 := szSs_le s
    have hx := em_seq W xb xsv zs gs h5 ⟨h6.1⟩ (by omega) h8.len h8.at_ h8.ptr
    rw [h9] at hx
    exact ⟨[emS s], EmL.cons hx ⟨xb, rfl⟩ (EmL.nil W), by simp [emA], by simp⟩
  | .more s a, xs, hz, h => by
    unfold IsAl at h
    simp only [szA] at hz
    obtain ⟨x, ys, rfl, ⟨xb, xsv, zs, _, rfl, h5, h6, h7⟩, h4⟩ := h
    obtain ⟨gs, h8, h9⟩ := isEmpty_S s zs (by omega) h7
    have hl := IsSl.len s zs h7
    have hl2 := szSs_le s
    have hx := em_seq W xb xsv zs gs h5 ⟨h6.1⟩ (by omega) h8.len h8.at_ h8.ptr
    rw [h9] at hx
    obtain ⟨hs, h10, h11, h12⟩ := isEmpty_L a ys (by omega) h4
    exact ⟨emS s :: hs, EmL.cons hx ⟨xb, rfl⟩ h10, by simp [emA, h11], by simp only [List.length_cons, szA]; omega⟩
theorem isEmpty_S {S : Nat → Prop} {W : World} : ∀ (s : Ss) (xs : List Value), szS s ≤ 1000 → IsSl S W s xs → ∃ gs, EmL W xs gs ∧ gs.any id = emS s
  | .nil, xs, _, h => by
    unfold IsSl at h
    subst h
    exact ⟨[], EmL.nil W, by simp [emS]⟩
  | .cons u s, xs, hz, h => by
    unfold IsSl at h
    simp only [szS] at hz
    obtain ⟨x, ys, rfl, h1, h2⟩ := h
    have hx := isEmpty_U u x (by omega) h1
    obtain ⟨gs, h3, h4⟩ := isEmpty_S s ys (by omega) h2
    exact ⟨emU u :: gs, EmL.cons hx (IsU.ptr u x h1) h3, by simp [emS, h4]⟩
end

set_option maxHeartbeats 1000000 in
theorem empty_any (p : ByteArray) (W : World) : Calls Tryz.prog 74 #[.string p] W fun e w' => e = .returned (.bool (emptyR (bs p))) ∧ Below W.heap.size W w' := by
  have HP := Lib.hid (parse_any6 p W)
  go_enter Tryz.func74, Tryz.ntmps74
  go_wp2_with fail
  refine (HP.out).mono ?_
  rintro e w1 ⟨hb, hp⟩
  have HB := Lib.hid hb
  clear hb HP
  rcases ha : parse (bs p) with _ | a
  · rw [ha] at hp
    simp only at hp
    obtain rfl := hp
    have HE2 : Hid (emptyR (bs p) = false) := Lib.hid (by unfold emptyR; rw [ha])
    clear ha
    go_wp2_with fail
    go_ret
    exact ⟨ret_bool HE2.out.symm, HB.out⟩
  · rw [ha] at hp
    simp only at hp
    obtain ⟨v, rfl, hv⟩ := hp
    have HE2 : Hid (emptyR (bs p) = emA a) := Lib.hid (empty_of ha)
    have hsz := parse_sz ha
    have hem := isEmpty_A a v (by omega) hv
    obtain ⟨vb, rfl⟩ := IsA.ptr a v hv
    have HM : Hid (Calls Tryz.prog 109 #[ptr vb] w1 fun e w' => e = .returned (.bool (emA a)) ∧ w1 = w') := Lib.hid hem
    clear ha hv hsz hem
    unfold ptr at *
    go_wp2_with fail
    refine (HM.out).mono ?_
    rintro e w2 ⟨rfl, rfl⟩
    go_wp2_with fail
    go_ret
    exact ⟨ret_bool HE2.out.symm, HB.out⟩
end Go.Proofs.YthckgmbadmilfaaGreat

namespace Go.Proofs.YthckgmbadmilfaaGreat
open Go.RowKit

set_option maxRecDepth 100000 in
set_option maxHeartbeats 1000000 in
theorem lit_any (m : Mt) (w : World) : Calls Tryz.prog 42 #[.agg #[.int .i64 m.kind, .string m.name, .string m.value]] w fun e w' => e = .returned (.agg #[.int .i64 (litM m).kind, .string (litM m).name, .string (litM m).value]) ∧ Below w.heap.size w w' := by
  have HAT0 := Lib.hid ((At.new w #[.int .i64 m.kind, .string m.name, .string m.value] 39).alloc (.cells #[.int .i64 0, .string ⟨#[]⟩, .string ⟨#[]⟩] 39))
  have HZ0 := At.new (w.alloc (.cells #[.int .i64 m.kind, .string m.name, .string m.value] 39)) #[.int .i64 0, .string ⟨#[]⟩, .string ⟨#[]⟩] 39
  rw [show (w.alloc (.cells #[.int .i64 m.kind, .string m.name, .string m.value] 39)).heap.size = w.heap.size + 1 by simp] at HZ0
  have HZ := Lib.hid HZ0
  clear HZ0
  have HB0 : Hid (Below w.heap.size w ((w.alloc (.cells #[.int .i64 m.kind, .string m.name, .string m.value] 39)).alloc (.cells #[.int .i64 0, .string ⟨#[]⟩, .string ⟨#[]⟩] 39))) := Lib.hid (((Below.refl _ _).alloc (Nat.le_refl _) _).alloc (by simp) _)
  have HP := Lib.hid (fun W => prefix_any m.value W)
  go_enter Tryz.func42, Tryz.ntmps42
  go_upto_region 1 with fail
  generalize (w.alloc (.cells #[.int .i64 m.kind, .string m.name, .string m.value] 39)).alloc (.cells #[.int .i64 0, .string ⟨#[]⟩, .string ⟨#[]⟩] 39) = w0 at *
  have c0 := HAT0.out.cell 0
  have c1 := HAT0.out.cell 1
  have c2 := HAT0.out.cell 2
  have f0 := HAT0.out.free 0
  have f2 := HAT0.out.free 2
  have d0 := HZ.out.cell 0
  have d1 := HZ.out.cell 1
  have d2 := HZ.out.cell 2
  have g0 := HZ.out.free 0
  have g1 := HZ.out.free 1
  have g2 := HZ.out.free 2
  have hlt := HZ.out.lt
  by_cases hk : m.kind = 3 ∨ m.kind = 4
  · have hk34 : (m.kind != 3) = false ∨ (m.kind != 3) = true ∧ (m.kind != 4) = false := by
      rcases hk with hk | hk
      · left; simp [hk]
      · right; simp [hk]
    have hx0 := HP.out w0
    by_cases hp : (Rx.prefR (bs m.value)).2 = true
    · have HR : Hid (litM m = ⟨m.kind - 2, m.name, str (Rx.prefR (bs m.value)).1⟩) := Lib.hid (by unfold litM; rw [if_pos hk, if_pos hp])
      rw [hp] at hx0
      have hk2 : 3 ≤ m.kind ∧ m.kind ≤ 4 := by omega
      have hks : IntKind.i64.wrap (m.kind - 2) = m.kind - 2 := by rw [IntKind.wrap_i64]; omega
      clear hk hp HP
      generalize (Rx.prefR (bs m.value)).1 = q at *
      have HX0 := Lib.hid hx0
      clear hx0
      rcases hk34 with h3b | ⟨h3b, h4b⟩
      all_goals
        go_wp2_with fail
        refine HX0.out.mono ?_
        rintro e w1 ⟨rfl, hb⟩
        have HAT1 := Lib.hid (HAT0.out.below hb)
        have HZ1 := Lib.hid (HZ.out.below hb)
        have HB1 := Lib.hid (HB0.out.trans (hb.mono HB0.out.size))
        have hlt1 := HZ1.out.lt
        clear hb c0 c1 c2 f0 f2 d0 d1 d2 g0 g1 g2 HX0 hlt
        have c0 := HAT1.out.cell 0
        have c1 := HAT1.out.cell 1
        have c2 := HAT1.out.cell 2
        have f0 := HAT1.out.free 0
        have f2 := HAT1.out.free 2
        have d0 := HZ1.out.cell 0
        have d1 := HZ1.out.cell 1
        have d2 := HZ1.out.cell 2
        have g0 := HZ1.out.free 0
        have g1 := HZ1.out.free 1
        have g2 := HZ1.out.free 2
        go_wp2_with fail
        have HB2 := below_set3 (x' := .int .i64 (m.kind - 2)) (y' := .string m.name) (z' := .string ⟨q.toArray⟩) ((HB1.out.setCell (p := ⟨w.heap.size, 0, none⟩) (Nat.le_refl _) (.int .i64 (m.kind - 2))).setCell (p := ⟨w.heap.size, 2, none⟩) (Nat.le_refl _) (.string ⟨q.toArray⟩)) (show w.heap.size ≤ w.heap.size + 1 by omega)
        refine bodyPost_ret (results_rowM rfl _ _ (w.heap.size + 1) 39 _ _ rfl ((HZ1.out.other (a := ⟨w.heap.size, 0, none⟩) _ (by show w.heap.size + 1 ≠ w.heap.size; omega)).other (a := ⟨w.heap.size, 2, none⟩) _ (by show w.heap.size + 1 ≠ w.heap.size; omega)).set3 Tryz.underlying39 rfl size_mt) rfl ⟨?_, HB2⟩
        rw [HR.out]
        rfl
    · have HR : Hid (litM m = m) := Lib.hid (by unfold litM; rw [if_pos hk, if_neg hp])
      have hpf : (Rx.prefR (bs m.value)).2 = false := by simpa using hp
      rw [hpf] at hx0
      clear hk hp hpf HP
      generalize (Rx.prefR (bs m.value)).1 = q at *
      have HX0 := Lib.hid hx0
      clear hx0
      rcases hk34 with h3b | ⟨h3b, h4b⟩
      all_goals
        go_wp2_with fail
        refine HX0.out.mono ?_
        rintro e w1 ⟨rfl, hb⟩
        have HAT1 := Lib.hid (HAT0.out.below hb)
        have HZ1 := Lib.hid (HZ.out.below hb)
        have HB1 := Lib.hid (HB0.out.trans (hb.mono HB0.out.size))
        have hlt1 := HZ1.out.lt
        clear hb c0 c1 c2 f0 f2 d0 d1 d2 g0 g1 g2 HX0 hlt
        have c0 := HAT1.out.cell 0
        have c1 := HAT1.out.cell 1
        have c2 := HAT1.out.cell 2
        have d0 := HZ1.out.cell 0
        have d1 := HZ1.out.cell 1
        have d2 := HZ1.out.cell 2
        have g0 := HZ1.out.free 0
        have g1 := HZ1.out.free 1
        have g2 := HZ1.out.free 2
        go_wp2_with fail
        have HB2 := below_set3 (x' := .int .i64 m.kind) (y' := .string m.name) (z' := .string m.value) HB1.out (show w.heap.size ≤ w.heap.size + 1 by omega)
        refine bodyPost_ret (results_rowM rfl _ _ (w.heap.size + 1) 39 _ _ rfl HZ1.out.set3 Tryz.underlying39 rfl size_mt) rfl ⟨?_, HB2⟩
        rw [HR.out]
  · have HR : Hid (litM m = m) := Lib.hid (by unfold litM; rw [if_neg hk])
    have h3b : (m.kind != 3) = true := by simp; omega
    have h4b : (m.kind != 4) = true := by simp; omega
    clear hk
    go_wp2_with fail
    have HB1 := below_set3 (x' := .int .i64 m.kind) (y' := .string m.name) (z' := .string m.value) HB0.out (show w.heap.size ≤ w.heap.size + 1 by omega)
    refine bodyPost_ret (results_rowM rfl _ _ (w.heap.size + 1) 39 _ _ rfl HZ.out.set3 Tryz.underlying39 rfl size_mt) rfl ⟨?_, HB1⟩
    rw [HR.out]

theorem apart_not (p q : ByteArray) : (!apartM p q) = (Lib.hasPrefix (Rx.prefR (bs p)).1 (Rx.prefR (bs q)).1 || Lib.hasPrefix (Rx.prefR (bs q)).1 (Rx.prefR (bs p)).1) := by
  unfold apartM Lib.hasPrefix
  cases (Rx.prefR (bs p)).1.isPrefixOf (Rx.prefR (bs q)).1 <;> cases (Rx.prefR (bs q)).1.isPrefixOf (Rx.prefR (bs p)).1 <;> rfl
set_option maxRecDepth 100000 in
set_option maxHeartbeats 1000000 in
theorem compat_any (p q : ByteArray) (w : World) : Calls Tryz.prog 77 #[.string p, .string q] w fun e w' => e = .returned (.bool (!apartM p q)) ∧ Below w.heap.size w w' := by
  have HP := Lib.hid (prefix_any p w)
  have HQ := Lib.hid (fun W => prefix_any q W)
  have HR := Lib.hid (apart_not p q)
  have H1 := Lib.hid (fun W => Tryz.strings_HasPrefix ⟨(Rx.prefR (bs p)).1.toArray⟩ ⟨(Rx.prefR (bs q)).1.toArray⟩ W)
  have H2 := Lib.hid (fun W => Tryz.strings_HasPrefix ⟨(Rx.prefR (bs q)).1.toArray⟩ ⟨(Rx.prefR (bs p)).1.toArray⟩ W)
  generalize (Rx.prefR (bs p)).1 = x at *
  generalize (Rx.prefR (bs p)).2 = x2 at *
  generalize (Rx.prefR (bs q)).1 = y at *
  generalize (Rx.prefR (bs q)).2 = y2 at *
  simp only at H1 H2
  generalize Lib.hasPrefix x y = r1 at *
  generalize Lib.hasPrefix y x = r2 at *
  go_enter Tryz.func77, Tryz.ntmps77
  go_wp2_with fail
  refine HP.out.mono ?_
  rintro e w1 ⟨rfl, hb1⟩
  have HB1 := Lib.hid hb1
  clear hb1 HP
  go_wp2_with fail
  refine (HQ.out w1).mono ?_
  rintro e w2 ⟨rfl, hb2⟩
  have HB2 := Lib.hid (HB1.out.trans (hb2.mono HB1.out.size))
  clear hb2 HQ
  go_wp2_with fail
  refine (H1.out w2).mono ?_
  rintro e w3 ⟨rfl, rfl⟩
  cases r1
  · go_wp2_with fail
    refine (H2.out _).mono ?_
    rintro e w4 ⟨rfl, rfl⟩
    go_wp2_with fail
    go_ret
    exact ⟨ret_bool (by rw [HR.out]; rfl), HB2.out⟩
  · go_wp2_with fail
    go_ret
    exact ⟨ret_bool (by rw [HR.out]; rfl), HB2.out⟩
set_option maxRecDepth 100000 in
set_option maxHeartbeats 1000000 in
theorem excl_any (y m : Mt) (w : World) (hv : m.value.size ≤ 40000) : Calls Tryz.prog 111 #[.agg #[.int .i64 y.kind, .string y.name, .string y.value], .agg #[.int .i64 m.kind, .string m.name, .string m.value]] w fun e w' => e = .returned (.bool (exclM y m)) ∧ Below w.heap.size w w' := by
  have HY := Lib.hid ((At.new w #[.int .i64 y.kind, .string y.name, .string y.value] 39).alloc (.cells #[.int .i64 m.kind, .string m.name, .string m.value] 39))
  have HM0 := At.new (w.alloc (.cells #[.int .i64 y.kind, .string y.name, .string y.value] 39)) #[.int .i64 m.kind, .string m.name, .string m.value] 39
  rw [show (w.alloc (.cells #[.int .i64 y.kind, .string y.name, .string y.value] 39)).heap.size = w.heap.size + 1 by simp] at HM0
  have HM := Lib.hid HM0
  have HB0 : Hid (Below w.heap.size w ((w.alloc (.cells #[.int .i64 y.kind, .string y.name, .string y.value] 39)).alloc (.cells #[.int .i64 m.kind, .string m.name, .string m.value] 39))) := Lib.hid (((Below.refl _ _).alloc (Nat.le_refl _) _).alloc (by simp) _)
  have HMA := Lib.hid (fun W => match_any y.value m.value W hv)
  have HCO := Lib.hid (fun W => compat_any y.value m.value W)
  clear HM0 hv
  go_enter Tryz.func111, Tryz.ntmps111
  go_upto_region 1 with fail
  generalize (w.alloc (.cells #[.int .i64 y.kind, .string y.name, .string y.value] 39)).alloc (.cells #[.int .i64 m.kind, .string m.name, .string m.value] 39) = w0 at *
  have c2 := HY.out.cell 2
  have d0 := HM.out.cell 0
  have d2 := HM.out.cell 2
  by_cases h2 : m.kind = 2
  · have HR : Hid (exclM y m = !Rx.matchR (bs y.value) (bs m.value)) := Lib.hid (by unfold exclM; rw [if_pos h2])
    have h2b : (m.kind == 2) = true := by rw [h2]; rfl
    clear h2
    go_wp2_with fail
    refine (HMA.out w0).mono ?_
    rintro e w1 ⟨rfl, hb⟩
    have HB1 := Lib.hid (HB0.out.trans (hb.mono HB0.out.size))
    clear hb
    go_wp2_with fail
    go_ret
    exact ⟨ret_bool HR.out.symm, HB1.out⟩
  · have h2b : (m.kind == 2) = false := beq_eq_false_iff_ne.2 h2
    by_cases h4 : m.kind = 4
    · have HR : Hid (exclM y m = apartM y.value m.value) := Lib.hid (by unfold exclM; rw [if_neg h2, if_pos h4])
      have h4b : (m.kind == 4) = true := by rw [h4]; rfl
      clear h2 h4
      generalize apartM y.value m.value = r at *
      go_wp2_with fail
      refine (HCO.out w0).mono ?_
      rintro e w1 ⟨rfl, hb⟩
      have HB1 := Lib.hid (HB0.out.trans (hb.mono HB0.out.size))
      clear hb
      go_wp2_with fail
      go_ret
      exact ⟨ret_bool (by rw [HR.out]), HB1.out⟩
    · have HR : Hid (exclM y m = false) := Lib.hid (by unfold exclM; rw [if_neg h2, if_neg h4])
      have h4b : (m.kind == 4) = false := beq_eq_false_iff_ne.2 h4
      clear h2 h4
      go_wp2_with fail
      go_ret
      exact ⟨ret_bool HR.out.symm, HB0.out⟩
end Go.Proofs.YthckgmbadmilfaaGreat

namespace Go.Proofs
open Go.Shelf
def Tryz.cfM_ren : Go.Shelf.Ren := ⟨fun | 8 => 44 | 6 => 73 | n => n, fun | 22 => 22 | 23 => 39 | 25 => 68 | 4 => 4 | 3 => 3 | 0 => 0 | n => n, fun | n => n⟩
theorem Tryz.cfM : Go.Proofs.SlLaysH0.n8 Tryz.prog Tryz.cfM_ren := {
  mixed := by kernel_rfl
  f6 := ⟨Tryz.f73.name, by decide, Tryz.func73.trans (congrArg some (by kernel_rfl))⟩
  f8 := ⟨Tryz.f44.name, by decide, Tryz.func44.trans (congrArg some (by kernel_rfl))⟩
  t0 := Tryz.underlying0
  a0 := Tryz.isAgg0
  z0 := Tryz.sizeOf0
  v0 := Tryz.zeroValue0
  t3 := Tryz.underlying3
  a3 := Tryz.isAgg3
  z3 := Tryz.sizeOf3
  v3 := Tryz.zeroValue3
  t4 := Tryz.underlying4
  a4 := Tryz.isAgg4
  z4 := Tryz.sizeOf4
  v4 := Tryz.zeroValue4
  t22 := Tryz.underlying22
  a22 := Tryz.isAgg22
  z22 := Tryz.sizeOf22
  v22 := Tryz.zeroValue22
  t25 := Tryz.underlying68
  a25 := Tryz.isAgg68
  z25 := Tryz.sizeOf68
  v25 := Tryz.zeroValue68 }
def Tryz.sortM_ren : Go.Shelf.Ren := ⟨fun | 6 => 48 | 15 => 80 | 14 => 79 | 28 => 120 | 29 => 121 | 20 => 112 | 21 => 113 | 22 => 114 | 23 => 115 | 24 => 116 | 25 => 117 | 26 => 118 | 27 => 119 | 46 => 140 | 47 => 141 | 48 => 142 | 49 => 143 | 50 => 144 | 57 => 159 | n => n, fun | 22 => 22 | 24 => 39 | 25 => 71 | 3 => 3 | 39 => 93 | 0 => 0 | 53 => 132 | 55 => 134 | 4 => 4 | 46 => 125 | 45 => 124 | 50 => 129 | 5 => 5 | 9 => 9 | 66 => 158 | 70 => 162 | 76 => 185 | 77 => 105 | n => n, fun | n => n⟩
theorem Tryz.sortM : Go.Proofs.SlLaysF0.n6 Tryz.prog Tryz.sortM_ren := {
  mixed := by kernel_rfl
  f6 := ⟨Tryz.f48.name, by decide, Tryz.func48.trans (congrArg some (by kernel_rfl))⟩
  f14 := ⟨Tryz.f79.name, by decide, Tryz.func79.trans (congrArg some (by kernel_rfl))⟩
  f15 := Tryz.func80.trans (congrArg some (by kernel_rfl))
  f20 := ⟨Tryz.f112.name, by decide, Tryz.func112.trans (congrArg some (by kernel_rfl))⟩
  f21 := ⟨Tryz.f113.name, by decide, Tryz.func113.trans (congrArg some (by kernel_rfl))⟩
  f22 := ⟨Tryz.f114.name, by decide, Tryz.func114.trans (congrArg some (by kernel_rfl))⟩
  f23 := ⟨Tryz.f115.name, by decide, Tryz.func115.trans (congrArg some (by kernel_rfl))⟩
  f24 := ⟨Tryz.f116.name, by decide, Tryz.func116.trans (congrArg some (by kernel_rfl))⟩
  f25 := ⟨Tryz.f117.name, by decide, Tryz.func117.trans (congrArg some (by kernel_rfl))⟩
  f26 := ⟨Tryz.f118.name, by decide, Tryz.func118.trans (congrArg some (by kernel_rfl))⟩
  f27 := ⟨Tryz.f119.name, by decide, Tryz.func119.trans (congrArg some (by kernel_rfl))⟩
  f28 := Tryz.func120.trans (congrArg some (by kernel_rfl))
  f29 := Tryz.func121.trans (congrArg some (by kernel_rfl))
  f46 := ⟨Tryz.f140.name, by decide, Tryz.func140.trans (congrArg some (by kernel_rfl))⟩
  f47 := Tryz.func141.trans (congrArg some (by kernel_rfl))
  f48 := Tryz.func142.trans (congrArg some (by kernel_rfl))
  f49 := ⟨Tryz.f143.name, by decide, Tryz.func143.trans (congrArg some (by kernel_rfl))⟩
  f50 := ⟨Tryz.f144.name, by decide, Tryz.func144.trans (congrArg some (by kernel_rfl))⟩
  f57 := ⟨Tryz.f159.name, by decide, Tryz.func159.trans (congrArg some (by kernel_rfl))⟩
  t0 := Tryz.underlying0
  a0 := Tryz.isAgg0
  z0 := Tryz.sizeOf0
  v0 := Tryz.zeroValue0
  t3 := Tryz.underlying3
  a3 := Tryz.isAgg3
  z3 := Tryz.sizeOf3
  v3 := Tryz.zeroValue3
  t4 := Tryz.underlying4
  a4 := Tryz.isAgg4
  z4 := Tryz.sizeOf4
  v4 := Tryz.zeroValue4
  t5 := Tryz.underlying5
  a5 := Tryz.isAgg5
  z5 := Tryz.sizeOf5
  v5 := Tryz.zeroValue5
  t9 := Tryz.underlying9
  a9 := Tryz.isAgg9
  z9 := Tryz.sizeOf9
  v9 := Tryz.zeroValue9
  t22 := Tryz.underlying22
  a22 := Tryz.isAgg22
  z22 := Tryz.sizeOf22
  v22 := Tryz.zeroValue22
  t25 := Tryz.underlying71
  a25 := Tryz.isAgg71
  z25 := Tryz.sizeOf71
  v25 := Tryz.zeroValue71
  t39 := Tryz.underlying93
  a39 := Tryz.isAgg93
  z39 := Tryz.sizeOf93
  v39 := Tryz.zeroValue93
  t45 := Tryz.underlying124
  a45 := Tryz.isAgg124
  z45 := Tryz.sizeOf124
  v45 := Tryz.zeroValue124
  t46 := Tryz.underlying125
  a46 := Tryz.isAgg125
  z46 := Tryz.sizeOf125
  v46 := Tryz.zeroValue125
  t50 := Tryz.underlying129
  a50 := Tryz.isAgg129
  z50 := Tryz.sizeOf129
  v50 := Tryz.zeroValue129
  t53 := Tryz.underlying132
  a53 := Tryz.isAgg132
  z53 := Tryz.sizeOf132
  v53 := Tryz.zeroValue132
  t55 := Tryz.underlying134
  a55 := Tryz.isAgg134
  z55 := Tryz.sizeOf134
  v55 := Tryz.zeroValue134
  t66 := Tryz.underlying158
  a66 := Tryz.isAgg158
  z66 := Tryz.sizeOf158
  v66 := Tryz.zeroValue158
  t70 := Tryz.underlying162
  a70 := Tryz.isAgg162
  z70 := Tryz.sizeOf162
  v70 := Tryz.zeroValue162
  t76 := Tryz.underlying185
  a76 := Tryz.isAgg185
  z76 := Tryz.sizeOf185
  v76 := Tryz.zeroValue185
  t77 := Tryz.underlying105
  a77 := Tryz.isAgg105
  z77 := Tryz.sizeOf105
  v77 := Tryz.zeroValue105 }
def Tryz.ctM_ren : Go.Shelf.Ren := ⟨fun | 7 => 96 | 6 => 131 | n => n, fun | 22 => 22 | 24 => 39 | 4 => 4 | 0 => 0 | 3 => 3 | n => n, fun | n => n⟩
theorem Tryz.ctM : Go.Proofs.SlLaysQ.n7 Tryz.prog Tryz.ctM_ren := {
  mixed := by kernel_rfl
  f6 := ⟨Tryz.f131.name, by decide, Tryz.func131.trans (congrArg some (by kernel_rfl))⟩
  f7 := ⟨Tryz.f96.name, by decide, Tryz.func96.trans (congrArg some (by kernel_rfl))⟩
  t0 := Tryz.underlying0
  a0 := Tryz.isAgg0
  z0 := Tryz.sizeOf0
  v0 := Tryz.zeroValue0
  t3 := Tryz.underlying3
  a3 := Tryz.isAgg3
  z3 := Tryz.sizeOf3
  v3 := Tryz.zeroValue3
  t4 := Tryz.underlying4
  a4 := Tryz.isAgg4
  z4 := Tryz.sizeOf4
  v4 := Tryz.zeroValue4
  t22 := Tryz.underlying22
  a22 := Tryz.isAgg22
  z22 := Tryz.sizeOf22
  v22 := Tryz.zeroValue22 }
def Tryz.revM_ren : Go.Shelf.Ren := ⟨fun | 35 => 25 | n => n, fun | 22 => 22 | 23 => 39 | 3 => 3 | 4 => 4 | 0 => 0 | n => n, fun | n => n⟩
theorem Tryz.revM : Go.Proofs.SlLaysE0.n35 Tryz.prog Tryz.revM_ren := {
  mixed := by kernel_rfl
  f35 := ⟨Tryz.f25.name, by decide, Tryz.func25.trans (congrArg some (by kernel_rfl))⟩
  t0 := Tryz.underlying0
  a0 := Tryz.isAgg0
  z0 := Tryz.sizeOf0
  v0 := Tryz.zeroValue0
  t3 := Tryz.underlying3
  a3 := Tryz.isAgg3
  z3 := Tryz.sizeOf3
  v3 := Tryz.zeroValue3
  t4 := Tryz.underlying4
  a4 := Tryz.isAgg4
  z4 := Tryz.sizeOf4
  v4 := Tryz.zeroValue4
  t22 := Tryz.underlying22
  a22 := Tryz.isAgg22
  z22 := Tryz.sizeOf22
  v22 := Tryz.zeroValue22 }
def Tryz.cloM_ren : Go.Shelf.Ren := ⟨fun | 41 => 24 | n => n, fun | 22 => 22 | 23 => 39 | 4 => 4 | n => n, fun | n => n⟩
theorem Tryz.cloM : Go.Proofs.SlLaysE0.n41 Tryz.prog Tryz.cloM_ren := {
  mixed := by kernel_rfl
  f41 := ⟨Tryz.f24.name, by decide, Tryz.func24.trans (congrArg some (by kernel_rfl))⟩
  t4 := Tryz.underlying4
  a4 := Tryz.isAgg4
  z4 := Tryz.sizeOf4
  v4 := Tryz.zeroValue4
  t22 := Tryz.underlying22
  a22 := Tryz.isAgg22
  z22 := Tryz.sizeOf22
  v22 := Tryz.zeroValue22 }
def Tryz.cfMM_ren : Go.Shelf.Ren := ⟨fun | 8 => 34 | 6 => 66 | n => n, fun | 22 => 48 | 23 => 22 | 25 => 46 | 4 => 4 | 3 => 3 | 0 => 0 | n => n, fun | n => n⟩
theorem Tryz.cfMM : Go.Proofs.SlLaysH.n8 Tryz.prog Tryz.cfMM_ren := {
  mixed := by kernel_rfl
  f6 := ⟨Tryz.f66.name, by decide, Tryz.func66.trans (congrArg some (by kernel_rfl))⟩
  f8 := ⟨Tryz.f34.name, by decide, Tryz.func34.trans (congrArg some (by kernel_rfl))⟩
  t0 := Tryz.underlying0
  a0 := Tryz.isAgg0
  z0 := Tryz.sizeOf0
  v0 := Tryz.zeroValue0
  t3 := Tryz.underlying3
  a3 := Tryz.isAgg3
  z3 := Tryz.sizeOf3
  v3 := Tryz.zeroValue3
  t4 := Tryz.underlying4
  a4 := Tryz.isAgg4
  z4 := Tryz.sizeOf4
  v4 := Tryz.zeroValue4
  t22 := Tryz.underlying48
  a22 := Tryz.isAgg48
  z22 := Tryz.sizeOf48
  v22 := Tryz.zeroValue48
  a23 := Tryz.isAgg22
  z23 := Tryz.sizeOf22
  t25 := Tryz.underlying46
  a25 := Tryz.isAgg46
  z25 := Tryz.sizeOf46
  v25 := Tryz.zeroValue46 }
end Go.Proofs
