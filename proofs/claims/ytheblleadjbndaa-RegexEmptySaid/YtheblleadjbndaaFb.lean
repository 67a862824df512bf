/- The search's walks: spread at the end and at states without reading. -/
import Derived.Test.YtheblleadjbndaaFa
namespace Go.Proofs.Ytheblleadjbndaa
open Go.RowKit Rx

set_option maxRecDepth 100000 in
set_option maxHeartbeats 2000000 in
theorem spread_zero (n : Nat) (B : Nat) (Z : Nat → Prop) (W : World) (m b : Nat) (st : Int) (M : List St) (sv : Value) (ts : List Th) (mk : List Nat) (q f k : Nat) (hM : Mach B Z m st M W) (hs : Ths W sv ts) (hm : Marks W b mk) (hz : ¬ Z b) (hlen : mk.length = M.length) (hq : q < M.length) (_hMl : M.length ≤ 9000) (hts : ts.length ≤ 100000)
    (hnq : mk[q]? ≠ some k) (qs : List Nat) (hst : M[q]? = some (.ep qs)) (hq0 : q = 0) :
    Calls Try.prog 40 #[ptr m, sv, .slice (some ⟨b, 0, none⟩) mk.length mk.length, .agg #[.int .i64 q, .int .i64 f], .int .i64 k] W (SpreadPost b sv W (spreadF M (n + 1) ts mk q f k)) := by
  have HE : Hid (spreadF M (n + 1) ts mk q f k = (ts ++ [(q, f)], mk.set q k)) := Lib.hid (by simp only [spreadF]; rw [if_neg hnq, hst]; simp only; rw [if_pos hq0])
  rw [HE.out]
  have HQ0 := Lib.hid hq0
  clear hq0
  obtain ⟨i0, hi, hz0, hz1, hz2⟩ := info_parts info_thread
  have HI := Lib.hid hi
  have HZ0 := Lib.hid hz0
  have HZ1 := Lib.hid hz1
  have HZ2 := Lib.hid hz2
  clear hi hz0 hz1 hz2
  obtain ⟨sa, sn, sc, rfl⟩ := owns_slice hs
  have hqm : q < mk.length := by omega
  obtain ⟨x, hx⟩ : ∃ x, mk[q]? = some x := ⟨_, List.getElem?_eq_getElem hqm⟩
  have d1 : ((x : Int) == (k : Int)) = false := by
    rw [beq_eq_false_iff_ne]
    intro e
    exact hnq (by rw [hx]; congr 1; omega)
  have hbl := hm.lt
  have d0 : (W.alloc (.cells #[.int .i64 q, .int .i64 f] 72)).cell? ⟨b, q, none⟩ = some (.int .i64 x) := by rw [World.cell?_alloc_past _ _ _ hbl]; exact hm.cell hx
  have df : (W.alloc (.cells #[.int .i64 q, .int .i64 f] 72)).frozen? ⟨b, q, none⟩ = false := (At.alloc hm _).free q
  have hb2 : FrS b (.slice sa sn sc) W ((W.alloc (.cells #[.int .i64 q, .int .i64 f] 72)).setCell ⟨b, q, none⟩ (.int .i64 k)) := ((Fr.refl W).alloc _).set b q _ (.inl (.inl rfl))
  have hx2 := XS.no hm hs hz
  have hM2 : Mach B Z m st M ((W.alloc (.cells #[.int .i64 q, .int .i64 f] 72)).setCell ⟨b, q, none⟩ (.int .i64 k)) := hM.frS hb2 hx2
  have hmk2 : Marks ((W.alloc (.cells #[.int .i64 q, .int .i64 f] 72)).setCell ⟨b, q, none⟩ (.int .i64 k)) b (mk.set q k) := Marks.set (At.alloc hm _) q k
  have htb2 : At ((W.alloc (.cells #[.int .i64 q, .int .i64 f] 72)).setCell ⟨b, q, none⟩ (.int .i64 k)) W.heap.size #[.int .i64 q, .int .i64 f] 72 := (At.new _ _ _).other _ (by show W.heap.size ≠ b; omega)
  have hs2 : Ths ((W.alloc (.cells #[.int .i64 q, .int .i64 f] 72)).setCell ⟨b, q, none⟩ (.int .i64 k)) (.slice sa sn sc) ts := owns_same (S := fun k => k < W.heap.size ∧ k ≠ b) hs (fun g hg => by
    obtain ⟨C, hC⟩ := owns_type hs hg
    exact ⟨hC.lt, fun e => owns_ne hs hm (by decide) (by rw [hg, e])⟩) (fun j hj => by rw [Below.heap_setCell _ ⟨b, q, none⟩ _ j hj.2, Below.heap_alloc _ _ _ hj.1])
  have HB2 := Lib.hid hb2
  have HX2 := Lib.hid hx2
  clear hb2 hx2 hx hnq HE hM hm hs hz hbl
  unfold ptr
  go_enter Try.func40, Try.ntmps40
  go_wp2_with fail
  generalize ((W.alloc (.cells #[.int .i64 q, .int .i64 f] 72)).setCell ⟨b, q, none⟩ (.int .i64 k)) = w2 at *
  clear d0 df
  obtain ⟨g0, cap, fv, nv, m0, m1, m2, hsx, hml, hgl, hcap⟩ := hM2.read hst
  have t0 : w2.cell? ⟨W.heap.size, 0, none⟩ = some (.int .i64 q) := htb2.cell 0
  have t1 : w2.cell? ⟨W.heap.size, 1, none⟩ = some (.int .i64 f) := htb2.cell 1
  obtain ⟨na, nn, nc, rfl, hfv⟩ := hsx.shape
  have hfv2 : fv = .nilFunc := hsx.1
  subst hfv2
  have e0 : ((q : Int) == 0) = true := by rw [HQ0.out]; rfl
  have m0a : (w2.alloc (.cells #[.nilFunc, .slice none 0 0] 74)).cell? ⟨m, 0, none⟩ = some (.slice (some ⟨g0, 0, none⟩) M.length cap) := by rw [World.cell?_alloc_past _ _ _ hml]; exact m0
  have m1a : (w2.alloc (.cells #[.nilFunc, .slice none 0 0] 74)).cell? ⟨g0, q * 2, none⟩ = some .nilFunc := by rw [World.cell?_alloc_past _ _ _ hgl]; exact m1
  have m2a : (w2.alloc (.cells #[.nilFunc, .slice none 0 0] 74)).cell? ⟨g0, q * 2 + 1, none⟩ = some (.slice na nn nc) := by rw [World.cell?_alloc_past _ _ _ hgl]; exact m2
  have t0a : (w2.alloc (.cells #[.nilFunc, .slice none 0 0] 74)).cell? ⟨W.heap.size, 0, none⟩ = some (.int .i64 q) := by rw [World.cell?_alloc_past _ _ _ htb2.lt]; exact t0
  have hqi : (q : Int) < (M.length : Int) := by omega
  go_region
  have hfe := fn_eq
  have hb3 : Below w2.heap.size w2 (w2.alloc (.cells #[.nilFunc, .slice na nn nc] 74)) := (Below.refl _ _).alloc (Nat.le_refl _) _
  have hs3 : Ths (w2.alloc (.cells #[.nilFunc, .slice na nn nc] 74)) (.slice sa sn sc) ts := hs2.alloc _
  have hm3 : Marks (w2.alloc (.cells #[.nilFunc, .slice na nn nc] 74)) b (mk.set q k) := At.alloc hmk2 _
  have htb3 : At (w2.alloc (.cells #[.nilFunc, .slice na nn nc] 74)) W.heap.size #[.int .i64 q, .int .i64 f] 72 := htb2.alloc _
  have hsb3 : At (w2.alloc (.cells #[.nilFunc, .slice na nn nc] 74)) w2.heap.size #[.nilFunc, .slice na nn nc] 74 := At.new _ _ _
  have hf3 := HB2.out.alloc (.cells #[.nilFunc, .slice na nn nc] 74)
  have HS2 := Lib.hid hs2
  have HT2 := Lib.hid hts
  clear m0 m1 m2 m0a m1a m2a t0 t1 t0a hs2 hmk2 htb2 hM2 hml hgl hsx hfv hb3 hts
  have HF3 := Lib.hid hf3
  have HS3 := Lib.hid hs3
  have HM3 := Lib.hid hm3
  clear hf3 hs3 hm3
  generalize (w2.alloc (.cells #[.nilFunc, .slice na nn nc] 74)) = w3 at *
  have t0 : w3.cell? ⟨W.heap.size, 0, none⟩ = some (.int .i64 q) := htb3.cell 0
  have t1 : w3.cell? ⟨W.heap.size, 1, none⟩ = some (.int .i64 f) := htb3.cell 1
  have s0 : w3.cell? ⟨w2.heap.size, 0, none⟩ = some .nilFunc := hsb3.cell 0
  clear htb3 hsb3
  go_wp2_with (at_builtin; (refine wpList_append_where _ rfl (.tmp 43) (.tmp 45) 69 rfl 72 i0 _ 2 16 Try.underlying69 HI.out HZ0.out HZ1.out HZ2.out rfl (by decide) (.slice sa sn sc) ts.length (thc ts) rfl (HS3.out.alloc _) ⟨w3.heap.size, 0, none⟩ 1 1 [.int .i64 q, .int .i64 f] rfl (by decide) rfl (World.news_of_block (cs := #[.int .i64 q, .int .i64 f]) (t := 72) (fr := (0, 0)) (heap_alloc_new _ _)) (th_one _ _) (len_smallT HT2.out) (len_bytesT HT2.out) ?_))
  intro sv' w4 hown hgrow hwhere
  have HPO := Lib.hid (spread_app HF3.out HS3.out HM3.out hown hgrow (by simpa using hwhere))
  clear hown hgrow hwhere
  go_wp2_with fail
  go_ret
  exact HPO.out

/-- What the loop over the next states has in memory. -/
structure SpIn (B : Nat) (Z : Nat → Prop) (m b : Nat) (st : Int) (M : List St) (sv : Value) (W w3 : World) (tb q f : Nat) (nv : Value) (qs : List Nat) (r : List Th × List Nat) (svj : Value) (wr : World) : Prop where
  ths : Ths wr svj r.1
  marks : Marks wr b r.2
  fr : FrS b sv W wr
  own : svj.ownBlock = sv.ownBlock ∨ ∀ g, svj.ownBlock = some g → w3.heap.size ≤ g
  mach : Mach B Z m st M wr
  box : At wr tb #[.int .i64 q, .int .i64 f] 72
  ints : Ints wr nv qs
  size : w3.heap.size ≤ wr.heap.size
theorem SpIn.step {B : Nat} {Z : Nat → Prop} {m b : Nat} {st : Int} {M : List St} {sv : Value} {W w3 : World} {tb q f : Nat} {nv : Value} {qs : List Nat} {r r' : List Th × List Nat} {svj sv' : Value} {wr w' : World} {ts : List Th} (h : SpIn B Z m b st M sv W w3 tb q f nv qs r svj wr)
    (hz : ¬ Z b) (ho : Own Z nv) (hsv : Ths W sv ts) (htb : tb = W.heap.size) (h3 : W.heap.size < w3.heap.size)
    (h1 : Ths w' sv' r'.1) (h2 : Marks w' b r'.2) (hf : FrS b svj wr w') (hw : sv'.ownBlock = svj.ownBlock ∨ ∀ g, sv'.ownBlock = some g → wr.heap.size ≤ g) : SpIn B Z m b st M sv W w3 tb q f nv qs r' sv' w' := by
  have hsvlt : ∀ g, sv.ownBlock = some g → g < W.heap.size := fun g hg => by
    obtain ⟨C, hC⟩ := owns_type hsv hg
    exact hC.lt
  refine ⟨h1, h2, ⟨hf.os.trans h.fr.os, hf.tape.trans h.fr.tape, hf.output.trans h.fr.output, Nat.le_trans h.fr.size hf.size, fun k hk hx ht => ?_⟩, ?_, h.mach.frS hf (XS.no h.marks h.ths hz), ?_, ?_, Nat.le_trans h.size hf.size⟩
  · have e := h.fr.block k hk hx ht
    rw [hf.block k (Nat.lt_of_lt_of_le hk h.fr.size) ?_ (fun _ _ _ _ _ => rfl)]
    · exact e
    · intro hx2
      rcases hx2 with hx2 | hx2
      · exact hx (.inl hx2)
      · rcases h.own with h4 | h4
        · exact hx (.inr (by rw [← h4]; exact hx2))
        · have := h4 k hx2
          omega
  · rcases hw with h4 | h4
    · rcases h.own with h5 | h5
      · exact .inl (h4.trans h5)
      · exact .inr fun g hg => h5 g (by rw [← h4]; exact hg)
    · exact .inr fun g hg => Nat.le_trans h.size (h4 g hg)
  · refine h.box.fr hf (fun hx => ?_) rfl
    rcases hx with hx | hx
    · have e1 := h.box.out
      rw [hx] at e1
      have e2 := At.out h.marks
      rw [e1] at e2
      injection e2 with e2
      injection e2 with _ e2
      exact absurd e2 (by decide)
    · rcases h.own with h4 | h4
      · have := hsvlt tb (by rw [← h4]; exact hx); omega
      · have := h4 tb hx; omega
  · refine owns_fr h.ints hf (fun g hg hx => ?_) rfl
    rcases hx with hx | hx
    · exact hz (by rw [← hx]; exact ho g hg)
    · obtain ⟨C, hC⟩ := owns_type h.ints hg
      obtain ⟨C2, hC2⟩ := owns_type h.ths hx
      have e1 := hC.out
      rw [hC2.out] at e1
      injection e1 with e1
      injection e1 with _ e1
      exact absurd e1 (by decide)

set_option maxRecDepth 100000 in
set_option maxHeartbeats 2000000 in
theorem spread_ep (n : Nat) (B : Nat) (Z : Nat → Prop) (W : World) (m b : Nat) (st : Int) (M : List St) (sv : Value) (ts : List Th) (mk : List Nat) (q f k : Nat) (hM : Mach B Z m st M W) (hs : Ths W sv ts) (hm : Marks W b mk) (hz : ¬ Z b) (hlen : mk.length = M.length) (hq : q < M.length) (_hMl : M.length ≤ 9000) (hts : ts.length ≤ 100000)
    (hnq : mk[q]? ≠ some k) (qs : List Nat) (hst : M[q]? = some (.ep qs)) (hq0 : ¬ q = 0) (hOk : Ok M) (hfree : free k mk < n + 1) (htf : ts.length + free k mk ≤ 100000) (hfb : f ≤ 100000) (hkb : k ≤ 100000) (IH : SpreadOK n) :
    Calls Try.prog 40 #[ptr m, sv, .slice (some ⟨b, 0, none⟩) mk.length mk.length, .agg #[.int .i64 q, .int .i64 f], .int .i64 k] W (SpreadPost b sv W (spreadF M (n + 1) ts mk q f k)) := by
  have HE : Hid (spreadF M (n + 1) ts mk q f k = qs.foldl (fun r p => spreadF M n r.1 r.2 p f k) (ts, mk.set q k)) := Lib.hid (by simp only [spreadF]; rw [if_neg hnq, hst]; simp only; rw [if_neg hq0])
  rw [HE.out]
  obtain ⟨i0, hi, hz0, hz1, hz2⟩ := info_parts info_thread
  have HI := Lib.hid hi
  have HZ0 := Lib.hid hz0
  have HZ1 := Lib.hid hz1
  have HZ2 := Lib.hid hz2
  clear hi hz0 hz1 hz2
  obtain ⟨sa, sn, sc, rfl⟩ := owns_slice hs
  have hqm : q < mk.length := by omega
  have HL0 := Lib.hid hlen
  have HSV := Lib.hid hs
  have HZB := Lib.hid hz
  have hfs := free_set hqm hnq
  have hqs : ∀ p ∈ qs, p < M.length := hOk q _ hst
  have HQS := Lib.hid hqs
  clear hqs
  obtain ⟨x, hx⟩ : ∃ x, mk[q]? = some x := ⟨_, List.getElem?_eq_getElem hqm⟩
  have d1 : ((x : Int) == (k : Int)) = false := by
    rw [beq_eq_false_iff_ne]
    intro e
    exact hnq (by rw [hx]; congr 1; omega)
  have hbl := hm.lt
  have d0 : (W.alloc (.cells #[.int .i64 q, .int .i64 f] 72)).cell? ⟨b, q, none⟩ = some (.int .i64 x) := by rw [World.cell?_alloc_past _ _ _ hbl]; exact hm.cell hx
  have df : (W.alloc (.cells #[.int .i64 q, .int .i64 f] 72)).frozen? ⟨b, q, none⟩ = false := (At.alloc hm _).free q
  have hb2 : FrS b (.slice sa sn sc) W ((W.alloc (.cells #[.int .i64 q, .int .i64 f] 72)).setCell ⟨b, q, none⟩ (.int .i64 k)) := ((Fr.refl W).alloc _).set b q _ (.inl (.inl rfl))
  have hx2 := XS.no hm hs hz
  have hM2 : Mach B Z m st M ((W.alloc (.cells #[.int .i64 q, .int .i64 f] 72)).setCell ⟨b, q, none⟩ (.int .i64 k)) := hM.frS hb2 hx2
  have hmk2 : Marks ((W.alloc (.cells #[.int .i64 q, .int .i64 f] 72)).setCell ⟨b, q, none⟩ (.int .i64 k)) b (mk.set q k) := Marks.set (At.alloc hm _) q k
  have htb2 : At ((W.alloc (.cells #[.int .i64 q, .int .i64 f] 72)).setCell ⟨b, q, none⟩ (.int .i64 k)) W.heap.size #[.int .i64 q, .int .i64 f] 72 := (At.new _ _ _).other _ (by show W.heap.size ≠ b; omega)
  have hs2 : Ths ((W.alloc (.cells #[.int .i64 q, .int .i64 f] 72)).setCell ⟨b, q, none⟩ (.int .i64 k)) (.slice sa sn sc) ts := owns_same (S := fun k => k < W.heap.size ∧ k ≠ b) hs (fun g hg => by
    obtain ⟨C, hC⟩ := owns_type hs hg
    exact ⟨hC.lt, fun e => owns_ne hs hm (by decide) (by rw [hg, e])⟩) (fun j hj => by rw [Below.heap_setCell _ ⟨b, q, none⟩ _ j hj.2, Below.heap_alloc _ _ _ hj.1])
  have HB2 := Lib.hid hb2
  have HX2 := Lib.hid hx2
  clear hlen hb2 hx2 hx hnq HE hM hm hs hz hbl
  unfold ptr
  go_enter Try.func40, Try.ntmps40
  go_wp2_with fail
  generalize ((W.alloc (.cells #[.int .i64 q, .int .i64 f] 72)).setCell ⟨b, q, none⟩ (.int .i64 k)) = w2 at *
  clear d0 df
  obtain ⟨g0, cap, fv, nv, m0, m1, m2, hsx, hml, hgl, hcap⟩ := hM2.read hst
  have t0 : w2.cell? ⟨W.heap.size, 0, none⟩ = some (.int .i64 q) := htb2.cell 0
  have t1 : w2.cell? ⟨W.heap.size, 1, none⟩ = some (.int .i64 f) := htb2.cell 1
  obtain ⟨na, nn, nc, rfl, hfv⟩ := hsx.shape
  have hfv2 : fv = .nilFunc := hsx.1
  subst hfv2
  have e0 : ((q : Int) == 0) = false := by rw [beq_eq_false_iff_ne]; omega
  have m0a : (w2.alloc (.cells #[.nilFunc, .slice none 0 0] 74)).cell? ⟨m, 0, none⟩ = some (.slice (some ⟨g0, 0, none⟩) M.length cap) := by rw [World.cell?_alloc_past _ _ _ hml]; exact m0
  have m1a : (w2.alloc (.cells #[.nilFunc, .slice none 0 0] 74)).cell? ⟨g0, q * 2, none⟩ = some .nilFunc := by rw [World.cell?_alloc_past _ _ _ hgl]; exact m1
  have m2a : (w2.alloc (.cells #[.nilFunc, .slice none 0 0] 74)).cell? ⟨g0, q * 2 + 1, none⟩ = some (.slice na nn nc) := by rw [World.cell?_alloc_past _ _ _ hgl]; exact m2
  have t0a : (w2.alloc (.cells #[.nilFunc, .slice none 0 0] 74)).cell? ⟨W.heap.size, 0, none⟩ = some (.int .i64 q) := by rw [World.cell?_alloc_past _ _ _ htb2.lt]; exact t0
  have hqi : (q : Int) < (M.length : Int) := by omega
  go_region
  have hfe := fn_eq
  have hb3 : Below w2.heap.size w2 (w2.alloc (.cells #[.nilFunc, .slice na nn nc] 74)) := (Below.refl _ _).alloc (Nat.le_refl _) _
  have hs3 : Ths (w2.alloc (.cells #[.nilFunc, .slice na nn nc] 74)) (.slice sa sn sc) ts := hs2.alloc _
  have hm3 : Marks (w2.alloc (.cells #[.nilFunc, .slice na nn nc] 74)) b (mk.set q k) := At.alloc hmk2 _
  have htb3 : At (w2.alloc (.cells #[.nilFunc, .slice na nn nc] 74)) W.heap.size #[.int .i64 q, .int .i64 f] 72 := htb2.alloc _
  have hsb3 : At (w2.alloc (.cells #[.nilFunc, .slice na nn nc] 74)) w2.heap.size #[.nilFunc, .slice na nn nc] 74 := At.new _ _ _
  have hf3 := HB2.out.alloc (.cells #[.nilFunc, .slice na nn nc] 74)
  have HSX := Lib.hid (hsx.frM (B := 0) (Fr.below hb3))
  have HMA3 := Lib.hid (hM2.frM hb3)
  clear hsx hM2
  have HS2 := Lib.hid hs2
  have HT2 := Lib.hid hts
  clear m0 m1 m2 m0a m1a m2a t0 t1 t0a hs2 hmk2 htb2 hml hgl hfv hb3 hts
  have HF3 := Lib.hid hf3
  have HS3 := Lib.hid hs3
  have HM3 := Lib.hid hm3
  clear hf3 hs3 hm3
  generalize (w2.alloc (.cells #[.nilFunc, .slice na nn nc] 74)) = w3 at *
  have t0 : w3.cell? ⟨W.heap.size, 0, none⟩ = some (.int .i64 q) := htb3.cell 0
  have t1 : w3.cell? ⟨W.heap.size, 1, none⟩ = some (.int .i64 f) := htb3.cell 1
  have s0 : w3.cell? ⟨w2.heap.size, 0, none⟩ = some .nilFunc := hsb3.cell 0
  have s1 : w3.cell? ⟨w2.heap.size, 1, none⟩ = some (.slice na nn nc) := hsb3.cell 1
  have HT3 := Lib.hid htb3
  have hnn : nn = qs.length := by
    rcases HSX.out.2.1.2 with ⟨e, h0⟩ | ⟨g, cap, cur, e, _⟩
    · injection e with _ e _; omega
    · injection e with _ e _
  subst hnn
  have hql : qs.length ≤ 9223372036854775807 := by
    rcases HSX.out.2.1.2 with ⟨_, h0⟩ | ⟨g, cap, cur, _, _, _, h1, h2, _⟩
    · omega
    · unfold maxLen at h2; omega
  clear htb3 hsb3
  have hin : SpIn B Z m b st M (.slice sa sn sc) W w3 W.heap.size q f (.slice na qs.length nc) qs (ts, mk.set q k) (.slice sa sn sc) w3 := ⟨HS3.out, HM3.out, HF3.out, .inl rfl, HMA3.out, HT3.out, HSX.out.2.1, Nat.le_refl _⟩
  have HIN := Lib.hid hin
  have hw3 : W.heap.size < w3.heap.size := HT3.out.lt
  clear hin
  go_wp2_with fail
  go_loopw [1, 50] (fun svj i wr => ∃ j : Nat, j ≤ qs.length ∧ i = .int .i64 j ∧ SpIn B Z m b st M (.slice sa sn sc) W w3 W.heap.size q f (.slice na qs.length nc) qs ((qs.take j).foldl (fun r p => spreadF M n r.1 r.2 p f k) (ts, mk.set q k)) svj wr) (fun _ i _ => qs.length - (intOf i).toNat)
  case atStart => exact ⟨0, Nat.zero_le _, rfl, by have h := HIN.out; exact ⟨h.ths, At.drew h.marks, h.fr.drew, h.own, h.mach.frM (Below.refl _ _).drew, h.box.drew, h.ints, h.size⟩⟩
  case round =>
    obtain ⟨j, hj, rfl, hin⟩ := hrel
    obtain ⟨ja, jn, jc, rfl⟩ := owns_slice hin.ths
    have HJ := Lib.hid hin
    clear hin HIN
    by_cases hlt : j < qs.length
    · have hna : ∃ g, na = some ⟨g, 0, none⟩ := by
        rcases HJ.out.ints.2 with ⟨e, h0⟩ | ⟨g, cap, cur, e, _⟩
        · omega
        · injection e with e _ _; exact ⟨g, e⟩
      obtain ⟨ng, rfl⟩ := hna
      obtain ⟨p, hp⟩ : ∃ p, qs[j]? = some p := ⟨_, List.getElem?_eq_getElem hlt⟩
      have d4 : wr.cell? ⟨ng, j, none⟩ = some (.int .i64 p) := owns_cell HJ.out.ints rfl (by rw [List.getElem?_map, hp]; rfl)
      have d5 : wr.cell? ⟨W.heap.size, 1, none⟩ = some (.int .i64 f) := HJ.out.box.cell 1
      have hfct := fold_facts M hOk k f n (qs.take j) (ts, mk.set q k) (fun x hx => HQS.out x (List.mem_of_mem_take hx)) (by simp [HL0.out])
      have HTK : Hid ((qs.take (j + 1)).foldl (fun r p => spreadF M n r.1 r.2 p f k) (ts, mk.set q k) = spreadF M n ((qs.take j).foldl (fun r p => spreadF M n r.1 r.2 p f k) (ts, mk.set q k)).1 ((qs.take j).foldl (fun r p => spreadF M n r.1 r.2 p f k) (ts, mk.set q k)).2 p f k) := Lib.hid (by
        rw [List.take_succ_eq_append_getElem hlt, List.foldl_append]
        have : qs[j] = p := by rw [List.getElem?_eq_getElem hlt] at hp; exact Option.some.inj hp
        rw [this]; rfl)
      have hpM : p < M.length := HQS.out p (List.mem_of_getElem? hp)
      generalize (qs.take j).foldl (fun r p => spreadF M n r.1 r.2 p f k) (ts, mk.set q k) = r at *
      obtain ⟨f1, f2, f3⟩ := hfct
      simp only [List.length_set] at f1 f2 f3
      have HC := Lib.hid (IH B Z wr m b st M (.slice ja jn jc) r.1 r.2 p f k HJ.out.mach hOk HJ.out.ths HJ.out.marks HZB.out (by rw [f1, HL0.out]) hpM _hMl (by omega) (by omega) hfb hkb)
      have HL1 : Hid (r.2.length = mk.length) := Lib.hid f1
      clear f1 f2 f3 hp
      unfold ptr at *
      go_wp2_with fail
      rw [← HL1.out]
      refine (HC.out).mono ?_
      rw [HL1.out]
      rintro e w5 ⟨sv5, rfl, g1, g2, g3, g4⟩
      have HS5 := Lib.hid (HJ.out.step HZB.out HSX.out.2.2 HSV.out rfl hw3 g1 g2 g3 g4)
      obtain ⟨xa, xn, xc, rfl⟩ := owns_slice g1
      clear g1 g2 g3 g4 d4 d5
      go_wp2_with fail
      go_roundw
      case rel => exact ⟨j + 1, by omega, by go_num, by rw [HTK.out]; exact HS5.out⟩
      case measure => simp [intOf]; omega
    · obtain rfl : j = qs.length := by omega
      have hall : qs.take qs.length = qs := List.take_of_length_le (Nat.le_refl _)
      rw [hall] at HJ
      clear hall
      go_wp2_with fail
      go_ret
      exact SpreadPost.mk' HJ.out.ths HJ.out.marks HJ.out.fr (by
        rcases HJ.out.own with h | h
        · exact .inl h
        · exact .inr fun g hg => Nat.le_trans (Nat.le_of_lt hw3) (h g hg))
end Go.Proofs.Ytheblleadjbndaa
