/- The parser's walks: choice, parse. -/
import Derived.Test.YtheblleadjbndaaPj
namespace Go.Proofs.Ytheblleadjbndaa
open Go.RowKit Rx

/-- Nodes of sequences. -/
def NsQ : List Ss → (Nat → Prop) → World → List Value → Prop
  | [], _, _, xs => xs = []
  | d :: l, S, W, xs => ∃ x ys, xs = x :: ys ∧ (Node S W 1 x fun zs => IsSl S W d zs) ∧ NsQ l S W ys
/-- The node of a sequence. -/
def SQ (d : Ss) (S : Nat → Prop) (W : World) (xs : List Value) : Prop := ∃ x, xs = [x] ∧ Node S W 1 x fun zs => IsSl S W d zs
theorem SQ.stable (d : Ss) : Stable (SQ d) := fun _ _ _ _ _ hs hc ⟨x, e, h⟩ => ⟨x, e, h.same hs hc fun zs hz => IsSl.same hs hc d zs hz⟩
theorem NsQ.stable (l : List Ss) : Stable (NsQ l) := by
  induction l with
  | nil => exact fun _ _ _ _ _ _ _ h => h
  | cons d l ih => exact fun _ _ _ _ _ hs hc ⟨x, ys, e, h1, h2⟩ => ⟨x, ys, e, h1.same hs hc fun zs hz => IsSl.same hs hc d zs hz, ih _ _ _ _ _ hs hc h2⟩
theorem NsQ.snoc {S : Nat → Prop} {W : World} {d : Ss} {x : Value} (hx : Node S W 1 x fun zs => IsSl S W d zs) (l : List Ss) : ∀ xs, NsQ l S W xs → NsQ (l ++ [d]) S W (xs ++ [x]) := by
  induction l with
  | nil => intro xs h; unfold NsQ at h; subst h; exact ⟨x, [], rfl, hx, rfl⟩
  | cons e l ih => intro xs ⟨y, ys, e1, h1, h2⟩; subst e1; exact ⟨y, ys ++ [x], rfl, h1, ih ys h2⟩
theorem NsQ.al {S : Nat → Prop} {W : World} {d : Ss} (l : List Ss) : ∀ xs, NsQ (l ++ [d]) S W xs → IsAl S W (ahd l (.one d)) xs := by
  induction l with
  | nil =>
    intro xs ⟨x, ys, e, h1, h2⟩
    unfold NsQ at h2
    subst h2 e
    unfold ahd IsAl
    exact ⟨x, rfl, h1⟩
  | cons c l ih =>
    intro xs ⟨x, ys, e, h1, h2⟩
    unfold ahd IsAl
    exact ⟨x, ys, e, h1, ih ys h2⟩
theorem APost.no {p : Nat} {s : ByteArray} {W w' : World} {res : Option (As × List UInt8)} (hr : res = none) (hk : Keep p W w') : APost p s W res (.returned (.tuple #[.pointer none, .bool false])) w' := by
  subst hr; exact ⟨hk, rfl⟩
/-- One alternative alone: its own node is handed back. -/
theorem alt_one {W : World} {p : Nat} {s : ByteArray} {t : Nat} {sv : Value} {x : Value} {d : Ss} {l : List UInt8} {wr : World} (h : NodeIn 2 (NsQ [d]) W p s t sv [x] l wr) {res : Option (As × List UInt8)} (hr : res = some (.one d, l)) : APost p s W res (.returned (.tuple #[x, .bool true])) wr := by
  subst hr
  obtain ⟨y, ys, e, h1, h2⟩ := h.list
  injection e with e1 e2
  subst e1
  refine ⟨h.keep, _, rfl, ?_, h.ps⟩
  unfold IsA
  exact h1.same (Same.refl _ _) (fun k hk => hk.1) fun zs hz => IsSl.same (Same.refl _ _) (fun k hk => hk.1) d zs hz
theorem alt_more {W : World} {p : Nat} {s : ByteArray} {t : Nat} {sv : Value} {xs : List Value} {c d : Ss} {l : List Ss} {lc : List UInt8} {wr : World} (h : NodeIn 2 (NsQ (c :: l ++ [d])) W p s t sv xs lc wr) {res : Option (As × List UInt8)} (hr : res = some (ahd (c :: l) (.one d), lc)) : APost p s W res (.returned (.tuple #[ptr t, .bool true])) wr := by
  subst hr
  refine ⟨h.keep, _, rfl, ?_, h.ps⟩
  have h2 := NsQ.stable _ _ _ _ _ xs (Same.refl _ _) (fun k (hk : Got W wr t sv k) => hk.1) h.list
  obtain ⟨x, ys, e, h3, h4⟩ := h2
  unfold ahd IsA
  exact ⟨t, sv, xs, ⟨h.new, h.node.lt⟩, rfl, h.node, ⟨h.own, fun g hg => (h.row g hg).1⟩, x, ys, e, h3, NsQ.al l ys h4⟩
/-- Where the alternatives' result stands. -/
def AltR (n : Nat) (R : Option (As × List UInt8)) (ss : List Ss) (l : List UInt8) : Prop := ∃ m, m < n ∧ 4 * l.length + 2 ≤ m ∧ R = (alts (m + 1) l).map fun x => (ahd ss x.1, x.2)
theorem alts_succ (m : Nat) (l : List UInt8) : alts (m + 1) l = (seqs m l).bind fun (d, r) => if (skipped 124 r).1 then (alts m (skipped 124 r).2).map fun (a, r'') => (.more d a, r'') else some (.one d, r) := by
  rw [alts]
  rcases seqs m l with _ | ⟨d, r⟩
  · rfl
  simp only [Option.bind_some]
  rcases r with _ | ⟨c, t⟩
  · rfl
  · by_cases hc : c = 124
    · subst hc; rfl
    · simp only [skipped, if_neg hc]
      split
      · rename_i h
        exact absurd (List.cons.inj h).1 hc
      · rfl
theorem AltR.next {n : Nat} {R : Option (As × List UInt8)} {ss : List Ss} {l : List UInt8} (h : AltR n R ss l) : ∃ m, m < n ∧ 4 * l.length + 2 ≤ m ∧ (∀ x, seqs m l = x → (x = .none → R = .none) ∧ ∀ d r, x = some (d, r) → r.length ≤ l.length ∧ ((skipped 124 r).1 = false → R = some (ahd ss (.one d), r)) ∧ ((skipped 124 r).1 = true → (skipped 124 r).2.length < l.length ∧ AltR n R (ss ++ [d]) (skipped 124 r).2)) := by
  obtain ⟨m, h1, h2, rfl⟩ := h
  refine ⟨m, h1, h2, ?_⟩
  rintro x rfl
  rw [alts_succ]
  refine ⟨fun hx => by rw [hx]; rfl, fun d r hx => ?_⟩
  have e1 := (short m).2.1 _ _ _ hx
  rw [hx]
  simp only [Option.bind_some]
  refine ⟨e1, fun hb => by rw [hb]; rfl, fun hb => ?_⟩
  rw [hb]
  have e2 : (skipped 124 r).2.length < r.length := by
    unfold skipped at hb ⊢
    rcases r with _ | ⟨c, t⟩
    · cases hb
    · simp only at hb ⊢
      split
      · simp
      · rename_i hc; rw [if_neg hc] at hb; cases hb
  refine ⟨by omega, m - 1, by omega, by omega, ?_⟩
  rw [Nat.sub_add_cancel (by omega)]
  simp only [if_true]
  rcases alts m (skipped 124 r).2 with _ | ⟨a, r2⟩
  · rfl
  · simp only [Option.map_some]; rw [ahd_snoc]

theorem owns_some {w : World} {e n : Nat} {v : Value} {xs : List Value} (h : w.ownsRow 0 e 1 v n xs) (hn : 0 < n) : ∃ g cap, v = .slice (some ⟨g, 0, none⟩) n cap ∧ n ≤ cap ∧ ∀ j u, xs[j]? = some u → w.cell? ⟨g, j, none⟩ = some u := by
  have hc := fun g hg => h.cells (g := g) hg
  rcases h.2 with ⟨rfl, h0⟩ | ⟨g, cap, cur, rfl, _, _, hnc, _⟩
  · omega
  · refine ⟨g, cap, rfl, hnc, fun j u hu => ?_⟩
    have := hc g rfl j u hu
    have e1 : (⟨g, 0, none⟩ : Addr).add j = ⟨g, j, none⟩ := by unfold Addr.add; simp; omega
    rwa [e1] at this

set_option maxRecDepth 100000 in
set_option maxHeartbeats 1000000 in
theorem alt_ok (n : Nat) (hA : ∀ m, m < n → SeqOK m) : AltOK n := by
  intro W p s l hs h hn
  obtain ⟨i0, hi, hz0, hz1, hz2⟩ := info_parts info_ptree
  have HI := Lib.hid hi
  have HZ0 := Lib.hid hz0
  have HZ1 := Lib.hid hz1
  have HZ2 := Lib.hid hz2
  have HA := Lib.hid hA
  have hpl := h.lt
  obtain ⟨R, hR⟩ : ∃ R, R = alts n l := ⟨_, rfl⟩
  have HR : Hid (AltR n R [] l) := Lib.hid ⟨n - 1, by omega, by omega, by
    rw [Nat.sub_add_cancel (by omega), hR]
    rcases alts n l with _ | x
    · rfl
    · rfl⟩
  have HRE := Lib.hid hR
  have HP := Lib.hid h
  clear hi hz0 hz1 hz2 hA hR h hn
  rw [← HRE.out]
  unfold ptr
  go_enter Try.func38, Try.ntmps38
  go_wp2_with fail
  obtain ⟨t, ht⟩ : ∃ t, t = W.heap.size := ⟨_, rfl⟩
  have hin : NodeIn 2 (NsQ []) W p s t (.slice none 0 0) [] l (W.alloc (.cells (nd 2 false 0 (.pointer none) (.slice none 0 0)) 54)) := by
    subst ht
    refine ⟨HP.out.alloc _, (Keep.refl _ _).alloc _, At.new _ _ _, Nat.le_refl _, World.ownsRow_nil _ _ _ _, (fun g hg => by cases hg), rfl, ?_⟩
    have := HP.out.le; simp; omega
  have HIN := Lib.hid hin
  clear hin
  have hw1 : (W.alloc (.cells (nd 2 false 0 (.pointer none) (.slice none 0 0)) 54)) = (W.alloc (.cells #[.int .i64 2, .bool false, .int .u8 0, .pointer none, .slice none 0 0] 54)) := rfl
  rw [hw1] at HIN
  clear hw1
  generalize (W.alloc (.cells #[.int .i64 2, .bool false, .int .u8 0, .pointer none, .slice none 0 0] 54)) = w1 at *
  rw [← ht]
  clear ht
  go_loopw [5] (fun _ wr => ∃ (sv : Value) (xs : List Value) (ss : List Ss) (lc : List UInt8), NodeIn 2 (NsQ ss) W p s t sv xs lc wr ∧ AltR n R ss lc ∧ xs.length = ss.length ∧ xs.length + lc.length ≤ s.size) (fun _ wr => ahead s p wr)
  case atStart => exact ⟨_, _, _, l, HIN.out, HR.out, rfl, by have := HP.out.le; simpa using this⟩
  case round =>
    clear HIN HR
    obtain ⟨sv, xs, ss, lc, hin, hr, hxl, hxs⟩ := hrel
    obtain ⟨sa, sn, sc, rfl⟩ := owns_slice hin.own
    obtain ⟨m, hm1, hm2, hm3⟩ := hr.next
    have HIN := Lib.hid hin
    have HM := Lib.hid hm3
    have HXE := Lib.hid hxl
    have HSZ : Hid (ahead s p wr = lc.length) := Lib.hid hin.ps.ahead
    have HF := Lib.hid (HA.out m hm1 wr p s lc hs hin.ps hm2)
    clear hin hr hm3 hxl
    go_wp2_with fail
    refine (HF.out).mono ?_
    rintro e w3 ⟨hk3, h3⟩
    obtain ⟨x, hx⟩ : ∃ x, x = seqs m lc := ⟨_, rfl⟩
    have HX := Lib.hid (HM.out x hx.symm)
    rw [← hx] at h3
    have HK3 := Lib.hid hk3
    clear hx hk3 HF
    rcases x with _ | ⟨d, l'⟩
    · simp only at h3
      subst h3
      go_wp2_with fail
      go_ret2
      exact APost.no (by first | exact HX.out.1 rfl | exact HX.out.1 trivial) (HIN.out.keep.trans HK3.out)
    · simp only at h3
      obtain ⟨v, rfl, hu, hp3⟩ := h3
      have hptr : ∃ vb, v = ptr vb := by obtain ⟨b, _, _, _, e, _⟩ := hu; exact ⟨b, e⟩
      obtain ⟨vb, rfl⟩ := hptr
      have HU := Lib.hid hu
      have hle := (HX.out.2 d l' rfl).1
      have HIN3 := Lib.hid (HIN.out.call (NsQ.stable _) hpl HK3.out hp3 hle)
      have c4 : w3.cell? ⟨t, 4, none⟩ = some (.slice sa sn sc) := HIN3.out.node.cell 4
      have hxl : xs.length ≤ 1001 := by have := HIN3.out.len; omega
      have HXL := Lib.hid hxl
      have HSK := Lib.hid (fun (w : World) h => skip_any w p s 124 124 l' rfl hs h)
      clear hu hp3 hxl
      unfold ptr
      go_wp2_with ((with_reducible refine wpList_append_where _ rfl (.tmp 20) (.tmp 22) 52 rfl 37 i0 (.pointer none) 1 8 Try.underlying52 HI.out HZ0.out HZ1.out HZ2.out rfl (by decide) (.slice sa sn sc) xs.length xs rfl (HIN3.out.own.alloc _) ⟨w3.heap.size, 0, none⟩ 1 1 [.pointer (some ⟨vb, 0, none⟩)] rfl (by decide) rfl (new_one w3 _ _) (one_ptr _) (len_small HXL.out) (len_bytes HXL.out) ?_))
      intro sv' w4 hown hgrow hwhere
      have hat := (HIN3.out.node.alloc (.cells #[.pointer (some ⟨vb, 0, none⟩)] 37)).grown hgrow (fun e => (HIN3.out.row t e).2 rfl)
      have c5 : w4.cell? ⟨t, 4, none⟩ = some (.slice sa sn sc) := hat.cell 4
      have c6 := hat.free 4
      obtain ⟨g, cap, rfl, hcap, hcell⟩ := owns_some hown (Nat.succ_pos _)
      have HPUT : Hid (NodeIn 2 (NsQ (ss ++ [d])) W p s t (.slice (some ⟨g, 0, none⟩) (xs.length + 1) cap) (xs ++ [.pointer (some ⟨vb, 0, none⟩)]) l' (w4.setCell ⟨t, 4, none⟩ (.slice (some ⟨g, 0, none⟩) (xs.length + 1) cap))) := Lib.hid (HIN3.out.put (X := SQ d) (NsQ.stable _) (SQ.stable _) hpl ⟨_, rfl, HU.out⟩ (fun S W h1 ⟨x, e, h2⟩ => by
        injection e with e
        subst e
        exact NsQ.snoc h2 _ _ h1) HIN.out.keep.size HIN.out.node.lt (fun g hg => (HIN.out.row g hg).1.2) hown rfl hgrow (by rw [alloc_size]; exact hwhere) (by omega))
      have HCAP := Lib.hid hcap
      clear hown hgrow hwhere hat c4 hcell hcap
      go_wp2_with fail
      generalize (w4.setCell ⟨t, 4, none⟩ (.slice (some ⟨g, 0, none⟩) (xs.length + 1) cap)) = w5 at *
      refine (HSK.out w5 HPUT.out.ps).mono ?_
      rintro e w6 ⟨rfl, hk6, hp6⟩
      have HP6 := Lib.hid hp6
      have HIN6 := Lib.hid (HPUT.out.call (NsQ.stable _) hpl hk6 hp6 (skipped_le _ _))
      clear hk6 hp6
      cases hb : (skipped 124 l').1
      · have HRR := Lib.hid ((HX.out.2 d l' rfl).2.1 hb)
        have e6 := skipped_no hb
        rw [e6] at HIN6
        have c7 : w6.cell? ⟨t, 4, none⟩ = some (.slice (some ⟨g, 0, none⟩) (xs.length + 1) cap) := HIN6.out.node.cell 4
        clear hb e6
        rcases ss with _ | ⟨c, ss⟩
        · have e7 : xs = [] := List.eq_nil_of_length_eq_zero HXE.out
          subst e7
          have c8 : w6.cell? ⟨g, 0, none⟩ = some (.pointer (some ⟨vb, 0, none⟩)) := by
            obtain ⟨g', cap', e8, _, hc8⟩ := owns_some HIN6.out.own (by simp)
            injection e8 with e9
            injection e9 with e9
            injection e9 with e9
            subst e9
            exact hc8 0 _ rfl
          go_wp2_with fail
          go_ret2
          exact alt_one HIN6.out HRR.out
        · have d1 : (((xs.length : Int) + 1) == 1) = false := by rw [beq_eq_false_iff_ne]; have := HXE.out; simp only [List.length_cons] at this; omega
          go_wp2_with fail
          go_ret2
          exact alt_more HIN6.out HRR.out
      · have HRR := Lib.hid ((HX.out.2 d l' rfl).2.2 hb)
        clear hb
        go_wp2_with fail
        go_roundw
        case rel => exact ⟨_, _, _, _, HIN6.out, HRR.out.2, by simp [HXE.out], by have := HRR.out.1; simp only [List.length_append, List.length_singleton]; omega⟩
        case measure => rw [HIN6.out.ps.ahead, HSZ.out]; exact HRR.out.1
end Go.Proofs.Ytheblleadjbndaa
