/- The parser's walks: factor. -/
import Derived.Test.YtheblleadjbndaaPh
namespace Go.Proofs.Ytheblleadjbndaa
open Go.RowKit Rx

theorem skipped_no {k : UInt8} {l : List UInt8} (h : (skipped k l).1 = false) : (skipped k l).2 = l := by
  unfold skipped at h ⊢
  rcases l with _ | ⟨c, t⟩
  · rfl
  · simp only at h ⊢
    split
    · rename_i hc; rw [if_pos hc] at h; cases h
    · rfl
theorem quant_eq (u : U) (l : List UInt8) : quant u l = if (skipped 42 l).1 then (.star u, (skipped 42 l).2) else if (skipped 43 l).1 then (.plus u, (skipped 43 l).2) else if (skipped 63 l).1 then (.opt u, (skipped 63 l).2) else (u, l) := by
  rcases l with _ | ⟨c, t⟩
  · rfl
  · by_cases h1 : c = 42
    · subst h1; rfl
    · by_cases h2 : c = 43
      · subst h2; rfl
      · by_cases h3 : c = 63
        · subst h3; rfl
        · simp only [skipped, if_neg h1, if_neg h2, if_neg h3]
          unfold quant
          split
          · rename_i h; exact absurd (List.cons.inj h).1 h1
          · rename_i h; exact absurd (List.cons.inj h).1 h2
          · rename_i h; exact absurd (List.cons.inj h).1 h3
          · rfl
/-- A slice made with one element. -/
theorem owns_one (w : World) (x : Value) : (w.alloc (.cells #[x] 37)).ownsRow 0 37 1 (.slice (some ⟨w.heap.size, 0, none⟩) 1 1) 1 [x] :=
  ⟨rfl, .inr ⟨w.heap.size, 1, #[x], rfl, Nat.zero_le _, heap_alloc_new _ _, Nat.le_refl _, by decide, rfl, rfl⟩⟩
theorem node_one {W w3 : World} {u : U} {x v sv : Value} {kind : Int} (hW : W.heap.size ≤ w3.heap.size) (hu : IsU (Fresh W w3) w3 u x) (hsv : sv = .slice (some ⟨w3.heap.size, 0, none⟩) 1 1) (hv : v = ptr (w3.heap.size + 1)) :
    Node (Fresh W ((w3.alloc (.cells #[x] 37)).alloc (.cells (nd kind false 0 (.pointer none) sv) 54))) ((w3.alloc (.cells #[x] 37)).alloc (.cells (nd kind false 0 (.pointer none) sv) 54)) kind v fun xs => ∃ y, xs = [y] ∧ IsU (Fresh W ((w3.alloc (.cells #[x] 37)).alloc (.cells (nd kind false 0 (.pointer none) sv) 54))) ((w3.alloc (.cells #[x] 37)).alloc (.cells (nd kind false 0 (.pointer none) sv) 54)) u y := by
  subst hsv hv
  have hb : Below w3.heap.size w3 ((w3.alloc (.cells #[x] 37)).alloc (.cells (nd kind false 0 (.pointer none) (.slice (some ⟨w3.heap.size, 0, none⟩) 1 1)) 54)) := ((Below.refl _ _).alloc (Nat.le_refl _) _).alloc (by rw [alloc_size]; omega) _
  have hat := At.new (w3.alloc (.cells #[x] 37)) (nd kind false 0 (.pointer none) (.slice (some ⟨w3.heap.size, 0, none⟩) 1 1)) 54
  rw [alloc_size] at hat
  refine ⟨w3.heap.size + 1, .slice (some ⟨w3.heap.size, 0, none⟩) 1 1, [x], ⟨by omega, by rw [alloc_size, alloc_size]; omega⟩, rfl, hat, ⟨(owns_one w3 x).alloc _, ?_⟩, x, rfl, ?_⟩
  · intro g hg
    injection hg with hg
    subst hg
    exact ⟨hW, by rw [alloc_size, alloc_size]; show w3.heap.size < _; omega⟩
  · have hf : Same (Fresh W w3) w3 _ := Same.below hb fun k hk => hk.2
    exact IsU.same hf (fun k hk => ⟨hk.1, Nat.lt_of_lt_of_le hk.2 hb.size⟩) u x hu

theorem IsA.ptr {S : Nat → Prop} {W : World} (a : As) (v : Value) (h : IsA S W a v) : ∃ b, v = Go.Proofs.Ytheblleadjbndaa.ptr b := by
  rcases a with s | ⟨s, a⟩
  all_goals
    unfold IsA at h
    obtain ⟨b, _, _, _, rfl, _⟩ := h
    exact ⟨b, rfl⟩
theorem IsU.ptr {S : Nat → Prop} {W : World} (u : U) (v : Value) (h : IsU S W u v) : ∃ b, v = Go.Proofs.Ytheblleadjbndaa.ptr b := by
  rcases u with c | f | a | u | u | u
  · unfold IsU at h
    obtain ⟨b, _, rfl, _⟩ := h
    exact ⟨b, rfl⟩
  · unfold IsU at h
    obtain ⟨b, _, _, _, rfl, _⟩ := h
    exact ⟨b, rfl⟩
  · unfold IsU at h
    exact IsA.ptr a v h
  all_goals
    unfold IsU at h
    obtain ⟨b, _, _, _, rfl, _⟩ := h
    exact ⟨b, rfl⟩

set_option maxHeartbeats 1000000 in
theorem factor_ok (n : Nat) (hA : AtomOK n) (W : World) (p : Nat) (s : ByteArray) (l : List UInt8) (hs : s.size ≤ 1000) (h : PS W p s l) (hn : 4 * l.length + 1 ≤ n) :
    Calls Try.prog 59 #[ptr p] W (UPost p s W ((atom n l).map fun x => quant x.1 x.2)) := by
  have HA := Lib.hid (hA W p s l hs h hn)
  have hpl := h.lt
  clear h hn hA
  unfold ptr
  go_enter Try.func59, Try.ntmps59
  go_wp2_with fail
  refine (HA.out).mono ?_
  rintro e w1 ⟨hk1, h1⟩
  have HK1 := Lib.hid hk1
  clear hk1
  rcases hat : atom n l with _ | ⟨u, r⟩
  · rw [hat] at h1
    simp only at h1
    subst h1
    have HAT := Lib.hid hat
    clear hat
    go_wp2_with fail
    go_ret2
    exact UPost.no (by rw [HAT.out]; rfl) HK1.out
  · rw [hat] at h1
    simp only at h1
    obtain ⟨v, rfl, hu, hp1⟩ := h1
    obtain ⟨vb, rfl⟩ := IsU.ptr u v hu
    have HU := Lib.hid hu
    unfold ptr
    have HS1 := Lib.hid (skip_any w1 p s 42 42 r rfl hs hp1)
    have HQ : Hid ((atom n l).map (fun x => quant x.1 x.2) = some _) := Lib.hid (by rw [hat]; show some (quant u r) = _; rw [quant_eq])
    clear hat hu hp1 HA
    go_wp2_with fail
    refine (HS1.out).mono ?_
    rintro e w2 ⟨rfl, hk2, hp2⟩
    have hf2 := Fresh.keep (W := W) hk2 hpl
    have HU2 := Lib.hid (IsU.same hf2.1 hf2.2 u _ HU.out)
    have HK2 := Lib.hid (HK1.out.trans hk2)
    have HP2 := Lib.hid hp2
    clear hk2 hp2 hf2
    cases hb1 : (skipped 42 r).1
    · have hn1 := skipped_no hb1
      rw [hn1] at HP2
      have HB1 := Lib.hid hb1
      have HS2 := Lib.hid (skip_any w2 p s 43 43 r rfl hs HP2.out)
      clear hn1 hb1
      go_wp2_with fail
      refine (HS2.out).mono ?_
      rintro e w3 ⟨rfl, hk3, hp3⟩
      have hf3 := Fresh.keep (W := W) hk3 hpl
      have HU3 := Lib.hid (IsU.same hf3.1 hf3.2 u _ HU2.out)
      have HK3 := Lib.hid (HK2.out.trans hk3)
      have HP3 := Lib.hid hp3
      clear hk3 hp3 hf3
      cases hb2 : (skipped 43 r).1
      · have hn2 := skipped_no hb2
        rw [hn2] at HP3
        have HB2 := Lib.hid hb2
        have HS3 := Lib.hid (skip_any w3 p s 63 63 r rfl hs HP3.out)
        clear hn2 hb2
        go_wp2_with fail
        refine (HS3.out).mono ?_
        rintro e w4 ⟨rfl, hk4, hp4⟩
        have hf4 := Fresh.keep (W := W) hk4 hpl
        have HU4 := Lib.hid (IsU.same hf4.1 hf4.2 u _ HU3.out)
        have HK4 := Lib.hid (HK3.out.trans hk4)
        have HP4 := Lib.hid hp4
        clear hk4 hp4 hf4
        cases hb3 : (skipped 63 r).1
        · have hn3 := skipped_no hb3
          rw [hn3] at HP4
          have HB3 := Lib.hid hb3
          clear hn3 hb3
          go_wp2_with fail
          go_ret2
          exact UPost.yes _ (by rw [HQ.out, HB1.out, HB2.out, HB3.out]; rfl) HK4.out HU4.out HP4.out
        · have HB3 := Lib.hid hb3
          clear hb3
          go_wp2_with fail
          go_ret2
          refine UPost.yes _ (by rw [HQ.out, HB1.out, HB2.out, HB3.out]; rfl) ((HK4.out.alloc _).alloc _) ?_ ((HP4.out.alloc _).alloc _)
          unfold IsU
          exact node_one HK4.out.size HU4.out rfl rfl
      · have HB2 := Lib.hid hb2
        clear hb2
        go_wp2_with fail
        go_ret2
        refine UPost.yes _ (by rw [HQ.out, HB1.out, HB2.out]; rfl) ((HK3.out.alloc _).alloc _) ?_ ((HP3.out.alloc _).alloc _)
        unfold IsU
        exact node_one HK3.out.size HU3.out rfl rfl
    · have HB1 := Lib.hid hb1
      clear hb1
      go_wp2_with fail
      go_ret2
      refine UPost.yes _ (by rw [HQ.out, HB1.out]; rfl) ((HK2.out.alloc _).alloc _) ?_ ((HP2.out.alloc _).alloc _)
      unfold IsU
      exact node_one HK2.out.size HU2.out rfl rfl
end Go.Proofs.Ytheblleadjbndaa
