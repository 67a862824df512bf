/- The search's walks: spread at the end and at states without reading. The search's walks: spread at every state, the functions that accept. The search in memory. -/
import Derived.Test.YthckgmbadmilfaaGreatMAR
namespace Go.Proofs.YthckgmbadmilfaaGreat
open Go.RowKit Rx

set_option maxRecDepth 100000 in
set_option maxHeartbeats 2000000 in
theorem spread_zero (n : Nat) (B : Nat) (Z : Nat → Prop) (W : World) (m b : Nat) (st : Int) (M : List St) (sv : Value) (ts : List Th) (mk : List Nat) (q f k : Nat) (hM : Mach B Z m st M W) (hs : Ths W sv ts) (hm : Marks W b mk) (hz : ¬ Z b) (hlen : mk.length = M.length) (hq : q < M.length) (_hMl : M.length ≤ 9000) (hts : ts.length ≤ 100000)
    (hnq : mk[q]? ≠ some k) (qs : List Nat) (hst : M[q]? = some (.ep qs)) (hq0 : q = 0) :
    Calls Tryz.prog 146 #[ptr m, sv, .slice (some ⟨b, 0, none⟩) mk.length mk.length, .agg #[.int .i64 q, .int .i64 f], .int .i64 k] W (SpreadPost b sv W (spreadF M (n + 1) ts mk q f k)) := by
  have HE : Hid (spreadF M (n + 1) ts mk q f k = (ts ++ [(q, f)], mk.set q k)) := Lib.hid (by simp only [spreadF]; rw [if_neg hnq, hst]; simp only; rw [if_pos hq0])
  rw [HE.out]
  have HQ0 := Lib.hid hq0
  clear hq0
  obtain ⟨i0, hi, hz0, hz1, hz2⟩ := info_parts info_thread
  have HI := Lib.hid hi
  have HZ0 := Lib.hid hz0
  have HZ1 := Lib.hid hz1
  have HZ2 := Lib.hid hz2
  clear hi hz0 hz1 hz2
  obtain ⟨sa, sn, sc, rfl⟩ := owns_slice hs
  have hqm : q < mk.length := by omega
  obtain ⟨x, hx⟩ : ∃ x, mk[q]? = some x := ⟨_, List.getElem?_eq_getElem hqm⟩
  have d1 : ((x : Int) == (k : Int)) = false := by
    rw [beq_eq_false_iff_ne]
    intro e
    exact hnq (by rw [hx]; congr 1; omega)
  have hbl := hm.lt
  have d0 : (W.alloc (.cells #[.int .i64 q, .int .i64 f] 171)).cell? ⟨b, q, none⟩ = some (.int .i64 x) := by rw [World.cell?_alloc_past _ _ _ hbl]; exact hm.cell hx
  have df : (W.alloc (.cells #[.int .i64 q, .int .i64 f] 171)).frozen? ⟨b, q, none⟩ = false := (At.alloc hm _).free q
  have hb2 : FrS b (.slice sa sn sc) W ((W.alloc (.cells #[.int .i64 q, .int .i64 f] 171)).setCell ⟨b, q, none⟩ (.int .i64 k)) := ((Fr.refl W).alloc _).set b q _ (.inl (.inl rfl))
  have hx2 := XS.no hm hs hz
  have hM2 : Mach B Z m st M ((W.alloc (.cells #[.int .i64 q, .int .i64 f] 171)).setCell ⟨b, q, none⟩ (.int .i64 k)) := hM.frS hb2 hx2
  have hmk2 : Marks ((W.alloc (.cells #[.int .i64 q, .int .i64 f] 171)).setCell ⟨b, q, none⟩ (.int .i64 k)) b (mk.set q k) := Marks.set (At.alloc hm _) q k
  have htb2 : At ((W.alloc (.cells #[.int .i64 q, .int .i64 f] 171)).setCell ⟨b, q, none⟩ (.int .i64 k)) W.heap.size #[.int .i64 q, .int .i64 f] 171 := (At.new _ _ _).other _ (by show W.heap.size ≠ b; omega)
  have hs2 : Ths ((W.alloc (.cells #[.int .i64 q, .int .i64 f] 171)).setCell ⟨b, q, none⟩ (.int .i64 k)) (.slice sa sn sc) ts := owns_same (S := fun k => k < W.heap.size ∧ k ≠ b) hs (fun g hg => by
    obtain ⟨C, hC⟩ := owns_type hs hg
    exact ⟨hC.lt, fun e => owns_ne hs hm (by decide) (by rw [hg, e])⟩) (fun j hj => by rw [Below.heap_setCell _ ⟨b, q, none⟩ _ j hj.2, Below.heap_alloc _ _ _ hj.1])
  have HB2 := Lib.hid hb2
  have HX2 := Lib.hid hx2
  clear hb2 hx2 hx hnq HE hM hm hs hz hbl
  unfold ptr
  go_enter Tryz.func146, Tryz.ntmps146
  go_wp2_with fail
  generalize ((W.alloc (.cells #[.int .i64 q, .int .i64 f] 171)).setCell ⟨b, q, none⟩ (.int .i64 k)) = w2 at *
  clear d0 df
  obtain ⟨g0, cap, fv, nv, m0, m1, m2, hsx, hml, hgl, hcap⟩ := hM2.read hst
  have t0 : w2.cell? ⟨W.heap.size, 0, none⟩ = some (.int .i64 q) := htb2.cell 0
  have t1 : w2.cell? ⟨W.heap.size, 1, none⟩ = some (.int .i64 f) := htb2.cell 1
  obtain ⟨na, nn, nc, rfl, hfv⟩ := hsx.shape
  have hfv2 : fv = .nilFunc := hsx.1
  subst hfv2
  have e0 : ((q : Int) == 0) = true := by rw [HQ0.out]; rfl
  have m0a : (w2.alloc (.cells #[.nilFunc, .slice none 0 0] 173)).cell? ⟨m, 0, none⟩ = some (.slice (some ⟨g0, 0, none⟩) M.length cap) := by rw [World.cell?_alloc_past _ _ _ hml]; exact m0
  have m1a : (w2.alloc (.cells #[.nilFunc, .slice none 0 0] 173)).cell? ⟨g0, q * 2, none⟩ = some .nilFunc := by rw [World.cell?_alloc_past _ _ _ hgl]; exact m1
  have m2a : (w2.alloc (.cells #[.nilFunc, .slice none 0 0] 173)).cell? ⟨g0, q * 2 + 1, none⟩ = some (.slice na nn nc) := by rw [World.cell?_alloc_past _ _ _ hgl]; exact m2
  have t0a : (w2.alloc (.cells #[.nilFunc, .slice none 0 0] 173)).cell? ⟨W.heap.size, 0, none⟩ = some (.int .i64 q) := by rw [World.cell?_alloc_past _ _ _ htb2.lt]; exact t0
  have hqi : (q : Int) < (M.length : Int) := by omega
  go_region
  have hfe := fn_eq
  have hb3 : Below w2.heap.size w2 (w2.alloc (.cells #[.nilFunc, .slice na nn nc] 173)) := (Below.refl _ _).alloc (Nat.le_refl _) _
  have hs3 : Ths (w2.alloc (.cells #[.nilFunc, .slice na nn nc] 173)) (.slice sa sn sc) ts := hs2.alloc _
  have hm3 : Marks (w2.alloc (.cells #[.nilFunc, .slice na nn nc] 173)) b (mk.set q k) := At.alloc hmk2 _
  have htb3 : At (w2.alloc (.cells #[.nilFunc, .slice na nn nc] 173)) W.heap.size #[.int .i64 q, .int .i64 f] 171 := htb2.alloc _
  have hsb3 : At (w2.alloc (.cells #[.nilFunc, .slice na nn nc] 173)) w2.heap.size #[.nilFunc, .slice na nn nc] 173 := At.new _ _ _
  have hf3 := HB2.out.alloc (.cells #[.nilFunc, .slice na nn nc] 173)
  have HS2 := Lib.hid hs2
  have HT2 := Lib.hid hts
  clear m0 m1 m2 m0a m1a m2a t0 t1 t0a hs2 hmk2 htb2 hM2 hml hgl hsx hfv hb3 hts
  have HF3 := Lib.hid hf3
  have HS3 := Lib.hid hs3
  have HM3 := Lib.hid hm3
  clear hf3 hs3 hm3
  generalize (w2.alloc (.cells #[.nilFunc, .slice na nn nc] 173)) = w3 at *
  have t0 : w3.cell? ⟨W.heap.size, 0, none⟩ = some (.int .i64 q) := htb3.cell 0
  have t1 : w3.cell? ⟨W.heap.size, 1, none⟩ = some (.int .i64 f) := htb3.cell 1
  have s0 : w3.cell? ⟨w2.heap.size, 0, none⟩ = some .nilFunc := hsb3.cell 0
  clear htb3 hsb3
  go_wp2_with (at_builtin; (refine wpList_append_where _ rfl (.tmp 43) (.tmp 45) 168 rfl 171 i0 _ 2 16 Tryz.underlying168 HI.out HZ0.out HZ1.out HZ2.out rfl (by decide) (.slice sa sn sc) ts.length (thc ts) rfl (HS3.out.alloc _) ⟨w3.heap.size, 0, none⟩ 1 1 [.int .i64 q, .int .i64 f] rfl (by decide) rfl (World.news_of_block (cs := #[.int .i64 q, .int .i64 f]) (t := 171) (fr := (0, 0)) (heap_alloc_new _ _)) (th_one _ _) (len_smallT HT2.out) (len_bytesT HT2.out) ?_))
  intro sv' w4 hown hgrow hwhere
  have HPO := Lib.hid (spread_app HF3.out HS3.out HM3.out hown hgrow (by simpa using hwhere))
  clear hown hgrow hwhere
  go_wp2_with fail
  go_ret
  exact HPO.out

/-- What the loop over the next states has in memory. -/
structure SpIn (B : Nat) (Z : Nat → Prop) (m b : Nat) (st : Int) (M : List St) (sv : Value) (W w3 : World) (tb q f : Nat) (nv : Value) (qs : List Nat) (r : List Th × List Nat) (svj : Value) (wr : World) : Prop where
  ths : Ths wr svj r.1
  marks : Marks wr b r.2
  fr : FrS b sv W wr
  own : svj.ownBlock = sv.ownBlock ∨ ∀ g, svj.ownBlock = some g → w3.heap.size ≤ g
  mach : Mach B Z m st M wr
  box : At wr tb #[.int .i64 q, .int .i64 f] 171
  ints : Ints wr nv qs
  size : w3.heap.size ≤ wr.heap.size
theorem SpIn.step {B : Nat} {Z : Nat → Prop} {m b : Nat} {st : Int} {M : List St} {sv : Value} {W w3 : World} {tb q f : Nat} {nv : Value} {qs : List Nat} {r r' : List Th × List Nat} {svj sv' : Value} {wr w' : World} {ts : List Th} (h : SpIn B Z m b st M sv W w3 tb q f nv qs r svj wr)
    (hz : ¬ Z b) (ho : Own Z nv) (hsv : Ths W sv ts) (htb : tb = W.heap.size) (h3 : W.heap.size < w3.heap.size)
    (h1 : Ths w' sv' r'.1) (h2 : Marks w' b r'.2) (hf : FrS b svj wr w') (hw : sv'.ownBlock = svj.ownBlock ∨ ∀ g, sv'.ownBlock = some g → wr.heap.size ≤ g) : SpIn B Z m b st M sv W w3 tb q f nv qs r' sv' w' := by
  have hsvlt : ∀ g, sv.ownBlock = some g → g < W.heap.size := fun g hg => by
    obtain ⟨C, hC⟩ := owns_type hsv hg
    exact hC.lt
  refine ⟨h1, h2, ⟨hf.os.trans h.fr.os, hf.tape.trans h.fr.tape, hf.output.trans h.fr.output, Nat.le_trans h.fr.size hf.size, fun k hk hx ht => ?_⟩, ?_, h.mach.frS hf (XS.no h.marks h.ths hz), ?_, ?_, Nat.le_trans h.size hf.size⟩
  · have e := h.fr.block k hk hx ht
    rw [hf.block k (Nat.lt_of_lt_of_le hk h.fr.size) ?_ (fun _ _ _ _ _ => rfl)]
    · exact e
    · intro hx2
      rcases hx2 with hx2 | hx2
      · exact hx (.inl hx2)
      · rcases h.own with h4 | h4
        · exact hx (.inr (by rw [← h4]; exact hx2))
        · have := h4 k hx2
          omega
  · rcases hw with h4 | h4
    · rcases h.own with h5 | h5
      · exact .inl (h4.trans h5)
      · exact .inr fun g hg => h5 g (by rw [← h4]; exact hg)
    · exact .inr fun g hg => Nat.le_trans h.size (h4 g hg)
  · refine h.box.fr hf (fun hx => ?_) rfl
    rcases hx with hx | hx
    · have e1 := h.box.out
      rw [hx] at e1
      have e2 := At.out h.marks
      rw [e1] at e2
      injection e2 with e2
      injection e2 with _ e2
      exact absurd e2 (by decide)
    · rcases h.own with h4 | h4
      · have := hsvlt tb (by rw [← h4]; exact hx); omega
      · have := h4 tb hx; omega
  · refine owns_fr h.ints hf (fun g hg hx => ?_) rfl
    rcases hx with hx | hx
    · exact hz (by rw [← hx]; exact ho g hg)
    · obtain ⟨C, hC⟩ := owns_type h.ints hg
      obtain ⟨C2, hC2⟩ := owns_type h.ths hx
      have e1 := hC.out
      rw [hC2.out] at e1
      injection e1 with e1
      injection e1 with _ e1
      exact absurd e1 (by decide)

set_option maxRecDepth 100000 in
set_option maxHeartbeats 2000000 in
theorem spread_ep (n : Nat) (B : Nat) (Z : Nat → Prop) (W : World) (m b : Nat) (st : Int) (M : List St) (sv : Value) (ts : List Th) (mk : List Nat) (q f k : Nat) (hM : Mach B Z m st M W) (hs : Ths W sv ts) (hm : Marks W b mk) (hz : ¬ Z b) (hlen : mk.length = M.length) (hq : q < M.length) (_hMl : M.length ≤ 9000) (hts : ts.length ≤ 100000)
    (hnq : mk[q]? ≠ some k) (qs : List Nat) (hst : M[q]? = some (.ep qs)) (hq0 : ¬ q = 0) (hOk : Ok M) (hfree : free k mk < n + 1) (htf : ts.length + free k mk ≤ 100000) (hfb : f ≤ 100000) (hkb : k ≤ 100000) (IH : SpreadOK n) :
    Calls Tryz.prog 146 #[ptr m, sv, .slice (some ⟨b, 0, none⟩) mk.length mk.length, .agg #[.int .i64 q, .int .i64 f], .int .i64 k] W (SpreadPost b sv W (spreadF M (n + 1) ts mk q f k)) := by
  have HE : Hid (spreadF M (n + 1) ts mk q f k = qs.foldl (fun r p => spreadF M n r.1 r.2 p f k) (ts, mk.set q k)) := Lib.hid (by simp only [spreadF]; rw [if_neg hnq, hst]; simp only; rw [if_neg hq0])
  rw [HE.out]
  obtain ⟨i0, hi, hz0, hz1, hz2⟩ := info_parts info_thread
  have HI := Lib.hid hi
  have HZ0 := Lib.hid hz0
  have HZ1 := Lib.hid hz1
  have HZ2 := Lib.hid hz2
  clear hi hz0 hz1 hz2
  obtain ⟨sa, sn, sc, rfl⟩ := owns_slice hs
  have hqm : q < mk.length := by omega
  have HL0 := Lib.hid hlen
  have HSV := Lib.hid hs
  have HZB := Lib.hid hz
  have hfs := free_set hqm hnq
  have hqs : ∀ p ∈ qs, p < M.length := hOk q _ hst
  have HQS := Lib.hid hqs
  clear hqs
  obtain ⟨x, hx⟩ : ∃ x, mk[q]? = some x := ⟨_, List.getElem?_eq_getElem hqm⟩
  have d1 : ((x : Int) == (k : Int)) = false := by
    rw [beq_eq_false_iff_ne]
    intro e
    exact hnq (by rw [hx]; congr 1; omega)
  have hbl := hm.lt
  have d0 : (W.alloc (.cells #[.int .i64 q, .int .i64 f] 171)).cell? ⟨b, q, none⟩ = some (.int .i64 x) := by rw [World.cell?_alloc_past _ _ _ hbl]; exact hm.cell hx
  have df : (W.alloc (.cells #[.int .i64 q, .int .i64 f] 171)).frozen? ⟨b, q, none⟩ = false := (At.alloc hm _).free q
  have hb2 : FrS b (.slice sa sn sc) W ((W.alloc (.cells #[.int .i64 q, .int .i64 f] 171)).setCell ⟨b, q, none⟩ (.int .i64 k)) := ((Fr.refl W).alloc _).set b q _ (.inl (.inl rfl))
  have hx2 := XS.no hm hs hz
  have hM2 : Mach B Z m st M ((W.alloc (.cells #[.int .i64 q, .int .i64 f] 171)).setCell ⟨b, q, none⟩ (.int .i64 k)) := hM.frS hb2 hx2
  have hmk2 : Marks ((W.alloc (.cells #[.int .i64 q, .int .i64 f] 171)).setCell ⟨b, q, none⟩ (.int .i64 k)) b (mk.set q k) := Marks.set (At.alloc hm _) q k
  have htb2 : At ((W.alloc (.cells #[.int .i64 q, .int .i64 f] 171)).setCell ⟨b, q, none⟩ (.int .i64 k)) W.heap.size #[.int .i64 q, .int .i64 f] 171 := (At.new _ _ _).other _ (by show W.heap.size ≠ b; omega)
  have hs2 : Ths ((W.alloc (.cells #[.int .i64 q, .int .i64 f] 171)).setCell ⟨b, q, none⟩ (.int .i64 k)) (.slice sa sn sc) ts := owns_same (S := fun k => k < W.heap.size ∧ k ≠ b) hs (fun g hg => by
    obtain ⟨C, hC⟩ := owns_type hs hg
    exact ⟨hC.lt, fun e => owns_ne hs hm (by decide) (by rw [hg, e])⟩) (fun j hj => by rw [Below.heap_setCell _ ⟨b, q, none⟩ _ j hj.2, Below.heap_alloc _ _ _ hj.1])
  have HB2 := Lib.hid hb2
  have HX2 := Lib.hid hx2
  clear hlen hb2 hx2 hx hnq HE hM hm hs hz hbl
  unfold ptr
  go_enter Tryz.func146, Tryz.ntmps146
  go_wp2_with fail
  generalize ((W.alloc (.cells #[.int .i64 q, .int .i64 f] 171)).setCell ⟨b, q, none⟩ (.int .i64 k)) = w2 at *
  clear d0 df
  obtain ⟨g0, cap, fv, nv, m0, m1, m2, hsx, hml, hgl, hcap⟩ := hM2.read hst
  have t0 : w2.cell? ⟨W.heap.size, 0, none⟩ = some (.int .i64 q) := htb2.cell 0
  have t1 : w2.cell? ⟨W.heap.size, 1, none⟩ = some (.int .i64 f) := htb2.cell 1
  obtain ⟨na, nn, nc, rfl, hfv⟩ := hsx.shape
  have hfv2 : fv = .nilFunc := hsx.1
  subst hfv2
  have e0 : ((q : Int) == 0) = false := by rw [beq_eq_false_iff_ne]; omega
  have m0a : (w2.alloc (.cells #[.nilFunc, .slice none 0 0] 173)).cell? ⟨m, 0, none⟩ = some (.slice (some ⟨g0, 0, none⟩) M.length cap) := by rw [World.cell?_alloc_past _ _ _ hml]; exact m0
  have m1a : (w2.alloc (.cells #[.nilFunc, .slice none 0 0] 173)).cell? ⟨g0, q * 2, none⟩ = some .nilFunc := by rw [World.cell?_alloc_past _ _ _ hgl]; exact m1
  have m2a : (w2.alloc (.cells #[.nilFunc, .slice none 0 0] 173)).cell? ⟨g0, q * 2 + 1, none⟩ = some (.slice na nn nc) := by rw [World.cell?_alloc_past _ _ _ hgl]; exact m2
  have t0a : (w2.alloc (.cells #[.nilFunc, .slice none 0 0] 173)).cell? ⟨W.heap.size, 0, none⟩ = some (.int .i64 q) := by rw [World.cell?_alloc_past _ _ _ htb2.lt]; exact t0
  have hqi : (q : Int) < (M.length : Int) := by omega
  go_region
  have hfe := fn_eq
  have hb3 : Below w2.heap.size w2 (w2.alloc (.cells #[.nilFunc, .slice na nn nc] 173)) := (Below.refl _ _).alloc (Nat.le_refl _) _
  have hs3 : Ths (w2.alloc (.cells #[.nilFunc, .slice na nn nc] 173)) (.slice sa sn sc) ts := hs2.alloc _
  have hm3 : Marks (w2.alloc (.cells #[.nilFunc, .slice na nn nc] 173)) b (mk.set q k) := At.alloc hmk2 _
  have htb3 : At (w2.alloc (.cells #[.nilFunc, .slice na nn nc] 173)) W.heap.size #[.int .i64 q, .int .i64 f] 171 := htb2.alloc _
  have hsb3 : At (w2.alloc (.cells #[.nilFunc, .slice na nn nc] 173)) w2.heap.size #[.nilFunc, .slice na nn nc] 173 := At.new _ _ _
  have hf3 := HB2.out.alloc (.cells #[.nilFunc, .slice na nn nc] 173)
  have HSX := Lib.hid (hsx.frM (B := 0) (Fr.below hb3))
  have HMA3 := Lib.hid (hM2.frM hb3)
  clear hsx hM2
  have HS2 := Lib.hid hs2
  have HT2 := Lib.hid hts
  clear m0 m1 m2 m0a m1a m2a t0 t1 t0a hs2 hmk2 htb2 hml hgl hfv hb3 hts
  have HF3 := Lib.hid hf3
  have HS3 := Lib.hid hs3
  have HM3 := Lib.hid hm3
  clear hf3 hs3 hm3
  generalize (w2.alloc (.cells #[.nilFunc, .slice na nn nc] 173)) = w3 at *
  have t0 : w3.cell? ⟨W.heap.size, 0, none⟩ = some (.int .i64 q) := htb3.cell 0
  have t1 : w3.cell? ⟨W.heap.size, 1, none⟩ = some (.int .i64 f) := htb3.cell 1
  have s0 : w3.cell? ⟨w2.heap.size, 0, none⟩ = some .nilFunc := hsb3.cell 0
  have s1 : w3.cell? ⟨w2.heap.size, 1, none⟩ = some (.slice na nn nc) := hsb3.cell 1
  have HT3 := Lib.hid htb3
  have hnn : nn = qs.length := by
    rcases HSX.out.2.1.2 with ⟨e, h0⟩ | ⟨g, cap, cur, e, _⟩
    · injection e with _ e _; omega
    · injection e with _ e _
  subst hnn
  have hql : qs.length ≤ 9223372036854775807 := by
    rcases HSX.out.2.1.2 with ⟨_, h0⟩ | ⟨g, cap, cur, _, _, _, h1, h2, _⟩
    · omega
    · unfold maxLen at h2; omega
  clear htb3 hsb3
  have hin : SpIn B Z m b st M (.slice sa sn sc) W w3 W.heap.size q f (.slice na qs.length nc) qs (ts, mk.set q k) (.slice sa sn sc) w3 := ⟨HS3.out, HM3.out, HF3.out, .inl rfl, HMA3.out, HT3.out, HSX.out.2.1, Nat.le_refl _⟩
  have HIN := Lib.hid hin
  have hw3 : W.heap.size < w3.heap.size := HT3.out.lt
  clear hin
  go_wp2_with fail
  go_loopw [1, 50] (fun svj i wr => ∃ j : Nat, j ≤ qs.length ∧ i = .int .i64 j ∧ SpIn B Z m b st M (.slice sa sn sc) W w3 W.heap.size q f (.slice na qs.length nc) qs ((qs.take j).foldl (fun r p => spreadF M n r.1 r.2 p f k) (ts, mk.set q k)) svj wr) (fun _ i _ => qs.length - (intOf i).toNat)
  case atStart => exact ⟨0, Nat.zero_le _, rfl, by have h := HIN.out; exact ⟨h.ths, At.drew h.marks, h.fr.drew, h.own, h.mach.frM (Below.refl _ _).drew, h.box.drew, h.ints, h.size⟩⟩
  case round =>
    obtain ⟨j, hj, rfl, hin⟩ := hrel
    obtain ⟨ja, jn, jc, rfl⟩ := owns_slice hin.ths
    have HJ := Lib.hid hin
    clear hin HIN
    by_cases hlt : j < qs.length
    · have hna : ∃ g, na = some ⟨g, 0, none⟩ := by
        rcases HJ.out.ints.2 with ⟨e, h0⟩ | ⟨g, cap, cur, e, _⟩
        · omega
        · injection e with e _ _; exact ⟨g, e⟩
      obtain ⟨ng, rfl⟩ := hna
      obtain ⟨p, hp⟩ : ∃ p, qs[j]? = some p := ⟨_, List.getElem?_eq_getElem hlt⟩
      have d4 : wr.cell? ⟨ng, j, none⟩ = some (.int .i64 p) := owns_cell HJ.out.ints rfl (by rw [List.getElem?_map, hp]; rfl)
      have d5 : wr.cell? ⟨W.heap.size, 1, none⟩ = some (.int .i64 f) := HJ.out.box.cell 1
      have hfct := fold_facts M hOk k f n (qs.take j) (ts, mk.set q k) (fun x hx => HQS.out x (List.mem_of_mem_take hx)) (by simp [HL0.out])
      have HTK : Hid ((qs.take (j + 1)).foldl (fun r p => spreadF M n r.1 r.2 p f k) (ts, mk.set q k) = spreadF M n ((qs.take j).foldl (fun r p => spreadF M n r.1 r.2 p f k) (ts, mk.set q k)).1 ((qs.take j).foldl (fun r p => spreadF M n r.1 r.2 p f k) (ts, mk.set q k)).2 p f k) := Lib.hid (by
        rw [List.take_succ_eq_append_getElem hlt, List.foldl_append]
        have : qs[j] = p := by rw [List.getElem?_eq_getElem hlt] at hp; exact Option.some.inj hp
        rw [this]; rfl)
      have hpM : p < M.length := HQS.out p (List.mem_of_getElem? hp)
      generalize (qs.take j).foldl (fun r p => spreadF M n r.1 r.2 p f k) (ts, mk.set q k) = r at *
      obtain ⟨f1, f2, f3⟩ := hfct
      simp only [List.length_set] at f1 f2 f3
      have HC := Lib.hid (IH B Z wr m b st M (.slice ja jn jc) r.1 r.2 p f k HJ.out.mach hOk HJ.out.ths HJ.out.marks HZB.out (by rw [f1, HL0.out]) hpM _hMl (by omega) (by omega) hfb hkb)
      have HL1 : Hid (r.2.length = mk.length) := Lib.hid f1
      clear f1 f2 f3 hp
      unfold ptr at *
      go_wp2_with fail
      rw [← HL1.out]
      refine (HC.out).mono ?_
      rw [HL1.out]
      rintro e w5 ⟨sv5, rfl, g1, g2, g3, g4⟩
      have HS5 := Lib.hid (HJ.out.step HZB.out HSX.out.2.2 HSV.out rfl hw3 g1 g2 g3 g4)
      obtain ⟨xa, xn, xc, rfl⟩ := owns_slice g1
      clear g1 g2 g3 g4 d4 d5
      go_wp2_with fail
      go_roundw
      case rel => exact ⟨j + 1, by omega, by go_num, by rw [HTK.out]; exact HS5.out⟩
      case measure => simp [intOf]; omega
    · obtain rfl : j = qs.length := by omega
      have hall : qs.take qs.length = qs := List.take_of_length_le (Nat.le_refl _)
      rw [hall] at HJ
      clear hall
      go_wp2_with fail
      go_ret
      exact SpreadPost.mk' HJ.out.ths HJ.out.marks HJ.out.fr (by
        rcases HJ.out.own with h | h
        · exact .inl h
        · exact .inr fun g hg => Nat.le_trans (Nat.le_of_lt hw3) (h g hg))
end Go.Proofs.YthckgmbadmilfaaGreat

namespace Go.Proofs.YthckgmbadmilfaaGreat
open Go.RowKit Rx

theorem spread_ok (n : Nat) : SpreadOK n := by
  induction n with
  | zero => intro B Z W m b st M sv ts mk q f k hM hOk hs hm hz hlen hq hMl hfree; omega
  | succ n ih =>
    intro B Z W m b st M sv ts mk q f k hM hOk hs hm hz hlen hq hMl hfree htf hf hk
    by_cases h : mk[q]? = some k
    · exact spread_marked n W m b sv ts mk q f k M hs hm h (by omega)
    · obtain ⟨s, hst⟩ : ∃ s, M[q]? = some s := ⟨_, List.getElem?_eq_getElem hq⟩
      rcases s with ⟨g, q'⟩ | qs
      · exact spread_rd n B Z W m b st M sv ts mk q f k hM hs hm hz hlen hq hMl (by omega) h g q' hst
      · by_cases h0 : q = 0
        · exact spread_zero n B Z W m b st M sv ts mk q f k hM hs hm hz hlen hq hMl (by omega) h qs hst h0
        · exact spread_ep n B Z W m b st M sv ts mk q f k hM hs hm hz hlen hq hMl (by omega) h qs hst h0 hOk hfree htf hf hk ih

set_option maxHeartbeats 400000 in
theorem acc_byte (c x : UInt8) (b : Nat) (w : World) (h : At w b #[.int .u8 c.toNat] 5) :
    Calls Tryz.prog 169 #[.int .u8 x.toNat, ptr b] w fun e w' => e = .returned (.bool (x == c)) ∧ w' = w := by
  have c1 : w.cell? ⟨b, 0, none⟩ = some (.int .u8 c.toNat) := h.cell 0
  have HB : Hid ((x == c) = ((x.toNat : Int) == (c.toNat : Int))) := Lib.hid (by
    by_cases e : x = c
    · subst e; simp
    · have : ¬ x.toNat = c.toNat := fun h => e (UInt8.toNat_inj.1 h)
      rw [beq_eq_false_iff_ne.2 e]
      symm
      rw [beq_eq_false_iff_ne]; omega)
  unfold ptr
  go_enter Tryz.func169, Tryz.ntmps169
  go_wp2_with fail
  go_ret
  exact ⟨ret_bool HB.out.symm, rfl⟩
set_option maxHeartbeats 400000 in
theorem acc_cls (x : UInt8) (b k : Nat) (f : UInt8 → Bool) (w : World) (h : At w b #[ptr k] 118) (hk : At w k (btab f 256) 202) :
    Calls Tryz.prog 170 #[.int .u8 x.toNat, ptr b] w fun e w' => e = .returned (.bool (f x)) ∧ w' = w := by
  have c1 : w.cell? ⟨b, 0, none⟩ = some (ptr k) := h.cell 0
  have hx := x.toNat_lt
  have c2 : w.cell? ⟨k, x.toNat, none⟩ = some (.bool (f x)) := by
    rw [hk.cell x.toNat, btab_get f 256 _ hx, if_pos hx]; simp
  unfold ptr at *
  generalize f x = y at *
  go_enter Tryz.func170, Tryz.ntmps170
  go_wp2_with fail
  go_ret
  exact ⟨rfl, rfl⟩
/-- What a function value of a state tells. -/
theorem fn_calls {w : World} {v : Value} {f : UInt8 → Bool} (h : IsFn w v f) (x : UInt8) : ∃ k b, v = .func (.func k) #[] #[ptr b] ∧ (k = 169 ∨ k = 170) ∧ ∀ n, Calls Tryz.prog k #[.int .u8 x.toNat, ptr b] (w.drewN n) fun e w' => e = .returned (.bool (f x)) ∧ w' = w.drewN n := by
  rcases h with ⟨b, c, e, ha, rfl⟩ | ⟨b, k, e, ha, hk⟩
  · exact ⟨_, b, e, .inl rfl, fun n => acc_byte c x b _ (ha.drewN n)⟩
  · exact ⟨_, b, e, .inr rfl, fun n => acc_cls x b k f _ (ha.drewN n) (hk.drewN n)⟩
end Go.Proofs.YthckgmbadmilfaaGreat

namespace Go.Proofs.YthckgmbadmilfaaGreat
open Go.RowKit Rx

/-- A machine is kept where what changes holds cells of other types. -/
theorem Mach.frX {B : Nat} {Z : Nat → Prop} {m : Nat} {st : Int} {M : List St} {W W' : World} (h : Mach B Z m st M W) {X : Nat → Prop} (hf : Fr 0 (fun _ => false) X W W') (hx : ∀ b C t, X b → At W b C t → ¬ (t = 3 ∨ t = 173 ∨ t = 166 ∨ t = 5 ∨ t = 118 ∨ t = 202)) : Mach B Z m st M W' := by
  obtain ⟨sv, xs, h1, h2, h3, h4⟩ := h
  refine ⟨sv, xs, h1.fr hf (fun hX => hx _ _ _ hX h1 (by simp)) rfl, owns_fr h2 hf (fun g hg hX => ?_) rfl, ?_, h4⟩
  · obtain ⟨C, hC⟩ := owns_type h2 hg
    exact hx _ _ _ hX hC (by simp)
  · have hs : ∀ s fv nv, IsSt Z W s fv nv → IsSt Z W' s fv nv := fun s fv nv hh => by
      have hfn : ∀ v f, IsFn W v f → IsFn W' v f := fun v f hv => hv.fr hf rfl rfl rfl (fun b C t ha ht hX => hx _ _ _ hX ha (by rcases ht with e | e | e <;> simp [e]))
      have hin : ∀ v qs, Ints W v qs → Ints W' v qs := fun v qs hv => owns_fr hv hf (fun g hg hX => by
        obtain ⟨C, hC⟩ := owns_type hv hg
        exact hx _ _ _ hX hC (by simp)) rfl
      rcases s with ⟨f, q⟩ | qs
      · exact ⟨hfn _ _ hh.1, hin _ _ hh.2.1, hh.2.2⟩
      · exact ⟨hh.1, hin _ _ hh.2.1, hh.2.2⟩
    have : ∀ (M : List St) (xs : List Value), IsM Z W M xs → IsM Z W' M xs := by
      intro M
      induction M with
      | nil => exact fun _ h => h
      | cons s M ih => exact fun _ ⟨fv, nv, ys, e, h1, h2⟩ => ⟨fv, nv, ys, e, hs _ _ _ h1, ih _ h2⟩
    exact this M xs h3
/-- A part of a string as the program holds it. -/
def bestV : Option (Nat × Nat) → Array Value
  | none => #[.int .i64 0, .int .i64 0]
  | some x => #[.int .i64 (x.1 : Nat), .int .i64 (x.2 : Nat)]
/-- What find has in memory: the machine, the marks in block b, the threads nv here and xv there, the best part in block bb. -/
structure FIn (B : Nat) (Z : Nat → Prop) (m : Nat) (st : Int) (M : List St) (W : World) (b bb rb : Nat) (nv xv : Value) (now nxt : List Th) (mk : List Nat) (best : Option (Nat × Nat)) (wr : World) : Prop where
  mach : Mach B Z m st M wr
  marks : Marks wr b mk
  now : Ths wr nv now
  nxt : Ths wr xv nxt
  best : At wr bb (bestV best) 137
  res : At wr rb #[.int .i64 0, .int .i64 0] 137
  sep : ∀ g, nv.ownBlock = some g → xv.ownBlock ≠ some g
  below : Below W.heap.size W wr
  nb : W.heap.size ≤ b
  nbb : W.heap.size ≤ bb
  nrb : W.heap.size ≤ rb
  bbrb : bb ≠ rb
  nnv : ∀ g, nv.ownBlock = some g → W.heap.size ≤ g
  nxv : ∀ g, xv.ownBlock = some g → W.heap.size ≤ g
  zb : ¬ Z b
section
variable {B : Nat} {Z : Nat → Prop} {m : Nat} {st : Int} {M : List St} {W : World} {b bb rb : Nat} {nv xv : Value} {now nxt : List Th} {mk : List Nat} {best : Option (Nat × Nat)} {wr : World}
/-- The two sets change places. -/
theorem FIn.swap (h : FIn B Z m st M W b bb rb nv xv now nxt mk best wr) : FIn B Z m st M W b bb rb xv nv nxt now mk best wr :=
  ⟨h.mach, h.marks, h.nxt, h.now, h.best, h.res, fun g hg e => h.sep g e hg, h.below, h.nb, h.nbb, h.nrb, h.bbrb, h.nxv, h.nnv, h.zb⟩
theorem Ths.below {w w' : World} {v : Value} {ts : List Th} (h : Ths w v ts) (hb : Below w.heap.size w w') : Ths w' v ts := owns_fr (B := 0) (T := fun _ => false) (X := fun _ => False) h (Fr.below hb) (fun _ _ h => h) rfl
/-- New blocks alone. -/
theorem FIn.more (h : FIn B Z m st M W b bb rb nv xv now nxt mk best wr) {w' : World} (hb : Below wr.heap.size wr w') : FIn B Z m st M W b bb rb nv xv now nxt mk best w' :=
  ⟨h.mach.frM hb, At.below h.marks hb, h.now.below hb, h.nxt.below hb, h.best.below hb, h.res.below hb, h.sep, h.below.trans (hb.mono h.below.size), h.nb, h.nbb, h.nrb, h.bbrb, h.nnv, h.nxv, h.zb⟩
theorem At.ne {w : World} {x y : Nat} {C D : Array Value} {t u : TypeId} (h : At w x C t) (h2 : At w y D u) (hne : t ≠ u) : x ≠ y := fun e => by
  subst e
  have e1 := h.out
  rw [h2.out] at e1
  injection e1 with e1
  injection e1 with _ e1
  exact hne e1.symm
/-- A spreading of the threads here. -/
theorem FIn.spread (h : FIn B Z m st M W b bb rb nv xv now nxt mk best wr) {w' : World} {nv' : Value} {now' : List Th} {mk' : List Nat} (h1 : Ths w' nv' now') (h2 : Marks w' b mk') (hf : FrS b nv wr w') (hw : nv'.ownBlock = nv.ownBlock ∨ ∀ g, nv'.ownBlock = some g → wr.heap.size ≤ g) : FIn B Z m st M W b bb rb nv' xv now' nxt mk' best w' := by
  have hx : ∀ k C t, At wr k C t → t ≠ 3 → t ≠ 171 → ¬ XS b nv k := fun k C t ha h3 h4 hX => by
    rcases XS.no h.marks h.now h.zb k C t hX ha with h5 | h5
    · exact h3 h5.1
    · exact h4 h5
  have hnew : ∀ g, nv'.ownBlock = some g → W.heap.size ≤ g ∧ (nv.ownBlock = some g ∨ wr.heap.size ≤ g) := fun g hg => by
    rcases hw with e | e
    · rw [e] at hg; exact ⟨h.nnv g hg, .inl hg⟩
    · have := e g hg
      have := h.below.size
      exact ⟨by omega, .inr (by omega)⟩
  refine ⟨h.mach.frS hf (XS.no h.marks h.now h.zb), h2, h1, ?_, h.best.fr hf (hx _ _ _ h.best (by decide) (by decide)) rfl, h.res.fr hf (hx _ _ _ h.res (by decide) (by decide)) rfl, ?_, ?_, h.nb, h.nbb, h.nrb, h.bbrb, fun g hg => (hnew g hg).1, h.nxv, h.zb⟩
  · refine owns_fr h.nxt hf (fun g hg hX => ?_) rfl
    rcases hX with e | e
    · exact owns_ne h.nxt h.marks (by decide) (by rw [hg, e])
    · exact h.sep g e hg
  · intro g hg e
    rcases (hnew g hg).2 with h3 | h3
    · exact h.sep g h3 e
    · obtain ⟨C, hC⟩ := owns_type h.nxt e
      have := hC.lt
      omega
  · refine ⟨hf.os.trans h.below.os, hf.tape.trans h.below.tape, hf.output.trans h.below.output, Nat.le_trans h.below.size hf.size, fun k hk => ?_⟩
    rw [hf.block k (Nat.lt_of_lt_of_le hk h.below.size) (fun hX => ?_) (fun _ _ _ _ _ => rfl), h.below.block k hk]
    rcases hX with e | e
    · have := h.nb; omega
    · have := h.nnv k e; omega
/-- The best part is written anew. -/
theorem FIn.found (h : FIn B Z m st M W b bb rb nv xv now nxt mk best wr) (x : Nat × Nat) {w' : World} (hw : w' = (wr.setCell ⟨bb, 0, none⟩ (.int .i64 x.1)).setCell ⟨bb, 1, none⟩ (.int .i64 x.2)) : FIn B Z m st M W b bb rb nv xv now nxt mk (some x) w' := by
  subst hw
  have hf : Fr 0 (fun _ => false) (fun k => k = bb) wr ((wr.setCell ⟨bb, 0, none⟩ (.int .i64 x.1)).setCell ⟨bb, 1, none⟩ (.int .i64 x.2)) := Fr.set (X := fun k => k = bb) (Fr.set (X := fun k => k = bb) (Fr.refl _) bb 0 _ (.inl rfl)) bb 1 _ (.inl rfl)
  have hno : ∀ k C t, At wr k C t → t ≠ 137 → ¬ k = bb := fun k C t ha ht => At.ne ha h.best ht
  have hrow : ∀ v ts, Ths wr v ts → ∀ g, v.ownBlock = some g → ¬ g = bb := fun v ts hv g hg => by
    obtain ⟨C, hC⟩ := owns_type hv hg
    exact hno _ _ _ hC (by decide)
  refine ⟨?_, h.marks.fr hf (hno _ _ _ h.marks (by decide)) rfl, owns_fr h.now hf (hrow _ _ h.now) rfl, owns_fr h.nxt hf (hrow _ _ h.nxt) rfl, ?_, h.res.fr hf (fun e => h.bbrb e.symm) rfl, h.sep, ?_, h.nb, h.nbb, h.nrb, h.bbrb, h.nnv, h.nxv, h.zb⟩
  · exact h.mach.frX hf (fun k C t hX ha => by subst hX; rintro (rfl | rfl | rfl | rfl | rfl | rfl) <;> exact absurd rfl (At.ne ha h.best (by decide)))
  · have := (h.best.set 0 (.int .i64 x.1)).set 1 (.int .i64 x.2)
    rcases best with _ | y <;> exact this
  · refine ⟨hf.os.trans h.below.os, hf.tape.trans h.below.tape, hf.output.trans h.below.output, Nat.le_trans h.below.size hf.size, fun k hk => ?_⟩
    rw [hf.block k (Nat.lt_of_lt_of_le hk h.below.size) (by have := h.nbb; omega) (fun _ _ _ _ _ => rfl), h.below.block k hk]
end
end Go.Proofs.YthckgmbadmilfaaGreat
