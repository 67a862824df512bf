/- Walks: the parser of matchers (the program's): value. Walks: the parser of matchers (the program's): one matcher. Walks: the parser of matchers (the program's): the list, Parse. -/
import Derived.Test.YthckgmbadmilfaaGreatMBT
namespace Go.Proofs.YthckgmbadmilfaaGreat
open Go.RowKit

/-- The world without its memory: what a row of our own is measured by. -/
def bare7 (w : World) : World := { w with heap := #[] }
theorem below_bare7 {p : Nat} {w w' : World} (h : Keep p w w') : Below (bare7 w).heap.size (bare7 w) w' := ⟨h.os, h.tape, h.output, Nat.zero_le _, fun k hk => absurd hk (Nat.not_lt_zero k)⟩
/-- A row of bytes that is not the parser's, made behind w. -/
structure BP (w : World) (p : Nat) (A : Option Addr) (n c : Nat) (l : List UInt8) (wr : World) : Prop where
  row : BR (bare7 w) A n c l wr
  new : ∀ b, A.map (·.block) = some b → w.heap.size ≤ b
  keep : Keep p w wr
theorem BP.nil {w wr : World} {p : Nat} (h : Keep p w wr) : BP w p none 0 0 [] wr := ⟨BR.nil (below_bare7 h), fun b hb => by (cases hb), h⟩
theorem BP.ne {w wr : World} {p n c : Nat} {A : Option Addr} {l : List UInt8} (h : BP w p A n c l wr) (hp : p < w.heap.size) : A.map (·.block) ≠ some p := fun e => by have := h.new p e; omega
theorem keep_grown {p : Nat} {w w' : World} (h : Keep p w w') : w.grownBy w' (some p) := ⟨h.os, h.tape, h.output, h.size, fun k hk hne => h.block k hk (fun e => hne (by rw [e]))⟩
/-- The parser's own block has turned. -/
theorem BP.turn {w wr w' : World} {p n c : Nat} {A : Option Addr} {l : List UInt8} (h : BP w p A n c l wr) (hp : p < w.heap.size) (hk : Keep p wr w') : BP w p A n c l w' := by
  have hne := h.ne hp
  refine ⟨⟨h.row.len, ?_, below_bare7 (h.keep.trans hk)⟩, h.new, h.keep.trans hk⟩
  rcases h.row.row with hr | hr
  · exact .inl (hr.kept (keep_grown hk) (.inr (by rw [own_slice]; exact hne)))
  · obtain ⟨g, cur, fz, h1, h2, h3, h4, h5⟩ := hr.out
    refine .inr ⟨g, cur, fz, h1, h2, ?_, h4, h5⟩
    rw [hk.block g (Array.getElem?_eq_some_iff.1 h3).1 (fun e => hne (by rw [h1, ← e]; rfl))]
    exact h3
/-- The row has grown. -/
theorem BP.grown {w wr w' : World} {p n c n' c' : Nat} {A A' : Option Addr} {l l' : List UInt8} (h : BP w p A n c l wr) (hr : BR (bare7 w) A' n' c' l' w') (hg : Gro wr w' A A') : BP w p A' n' c' l' w' := by
  refine ⟨hr, fun b hb => ?_, ⟨hg.grow.os.trans h.keep.os, hg.grow.tape.trans h.keep.tape, hg.grow.output.trans h.keep.output, Nat.le_trans h.keep.size hg.grow.size, fun k hk hne => ?_⟩⟩
  · rcases hg.own with e | ⟨g, e, hge⟩
    · exact h.new b (by rw [← e]; exact hb)
    · rw [e] at hb
      injection hb with hb
      have := h.keep.size
      omega
  · refine (hg.grow.block k (Nat.lt_of_lt_of_le hk h.keep.size) (fun e => ?_)).trans (h.keep.block k hk hne)
    have := h.new k e.symm
    omega
/-- Where the reader of a value stands. -/
def UZ (s : ByteArray) (i : Nat) (acc : List UInt8) (k : Nat) : Prop := unqL ((bs s).drop i) = (unqL ((bs s).drop k)).map fun p => (acc ++ p.1, (k - i) + p.2)
/-- What 'value' tells. -/
def ValP (s : ByteArray) (i : Nat) (v : ByteArray) (b : Bool) (j : Nat) : Prop := (b = false ∧ unqL ((bs s).drop i) = none) ∨ (b = true ∧ ∃ m, unqL ((bs s).drop i) = some (bs v, m) ∧ j = i + m)
section
variable {s : ByteArray} {i k : Nat} {acc : List UInt8}
theorem UZ.start (s : ByteArray) (i : Nat) : UZ s i [] i := by
  unfold UZ
  rw [Nat.sub_self]
  cases unqL ((bs s).drop i) <;> simp
theorem UZ.none_ (h : UZ s i acc k) (h2 : unqL ((bs s).drop k) = none) (v : ByteArray) (j : Nat) : ValP s i v false j := by
  refine .inl ⟨rfl, ?_⟩
  unfold UZ at h
  rw [h, h2]
  rfl
theorem UZ.end_ (h : UZ s i acc k) (hk : s.size ≤ k) (v : ByteArray) (j : Nat) : ValP s i v false j := h.none_ (by rw [drop_end hk]; rfl) v j
theorem UZ.line (h : UZ s i acc k) (hk : k < s.size) (hb : s[k] = 10) (v : ByteArray) (j : Nat) : ValP s i v false j := h.none_ (by rw [drop_byte hk, hb, unqL_line]) v j
theorem UZ.quote (h : UZ s i acc k) (hk : k < s.size) (hb : s[k] = 34) (hi : i ≤ k) : ValP s i (str acc) true (k + 1) := by
  refine .inr ⟨rfl, k - i + 1, ?_, by omega⟩
  unfold UZ at h
  rw [h, drop_byte hk, hb, unqL_quote, bs_str]
  simp
theorem beg1 (s : ByteArray) (x : UInt8) (k : Nat) : begB s ⟨#[x]⟩ k = true ↔ ∃ h : k < s.size, s[k] = x := by
  unfold begB
  by_cases h : k < s.size
  · rw [drop_byte h]
    show (x == s[k] && true) = true ↔ _
    rw [Bool.and_true, beq_iff_eq]
    exact ⟨fun e => ⟨h, e.symm⟩, fun ⟨_, e⟩ => e.symm⟩
  · rw [drop_end (by omega)]
    constructor
    · intro h2; cases h2
    · rintro ⟨h2, _⟩; exact absurd h2 h
theorem UZ.back (h : UZ s i acc k) (hi : i ≤ k) (hk : k < s.size) (hb : s[k] = 92) {x e : UInt8} (hx : begB s ⟨#[x]⟩ (k + 1) = true) (hu : unescB x = some e) : UZ s i (acc ++ [e]) (k + 1 + 1) ∧ k + 1 + 1 ≤ s.size := by
  obtain ⟨h1, h2⟩ := (beg1 s x (k + 1)).1 hx
  refine ⟨?_, h1⟩
  unfold UZ at h ⊢
  rw [h, drop_byte hk, hb, drop_byte h1, h2, unqL_back, hu]
  cases unqL ((bs s).drop (k + 1 + 1)) <;> simp
  omega
theorem UZ.back_no (h : UZ s i acc k) (hk : k < s.size) (hb : s[k] = 92) (h1 : begB s ⟨#[110]⟩ (k + 1) = false) (h2 : begB s ⟨#[34]⟩ (k + 1) = false) (h3 : begB s ⟨#[92]⟩ (k + 1) = false) (v : ByteArray) (j : Nat) : ValP s i v false j := by
  refine h.none_ ?_ v j
  rw [drop_byte hk, hb]
  by_cases hl : k + 1 < s.size
  · rw [drop_byte hl, unqL_back]
    have n1 : s[k + 1] ≠ 110 := fun e => by rw [(beg1 s 110 (k + 1)).2 ⟨hl, e⟩] at h1; cases h1
    have n2 : s[k + 1] ≠ 34 := fun e => by rw [(beg1 s 34 (k + 1)).2 ⟨hl, e⟩] at h2; cases h2
    have n3 : s[k + 1] ≠ 92 := fun e => by rw [(beg1 s 92 (k + 1)).2 ⟨hl, e⟩] at h3; cases h3
    have : unescB s[k + 1] = none := by
      unfold unescB
      rw [if_neg (by rintro (h | h); exact n3 h; exact n2 h), if_neg n1]
    rw [this]
    rfl
  · rw [drop_end (by omega), unqL_back_end]
theorem UZ.other (h : UZ s i acc k) (hi : i ≤ k) (hk : k < s.size) {c : UInt8} (hc : s[k] = c) (h1 : c ≠ 34) (h2 : c ≠ 10) (h3 : c ≠ 92) : UZ s i (acc ++ [c]) (k + 1) := by
  unfold UZ at h ⊢
  rw [h, drop_byte hk, hc, unqL_other _ _ h1 h2 h3]
  cases unqL ((bs s).drop (k + 1)) <;> simp
  omega
end
theorem unesc_n : unescB 110 = some 10 := by decide
theorem unesc_q : unescB 34 = some 34 := by decide
theorem unesc_b : unescB 92 = some 92 := by decide
set_option maxRecDepth 100000 in
set_option maxHeartbeats 8000000 in
theorem mvalue_any (p : Nat) (s : ByteArray) (i : Nat) (w : World) (h : QS w p s i) (hs : s.size ≤ 1000000) :
    Calls Tryz.prog 102 #[.pointer (some ⟨p, 0, none⟩)] w fun e w' => ∃ (v : ByteArray) (b : Bool) (j : Nat), e = .returned (.tuple #[.string v, .bool b]) ∧ i ≤ j ∧ QS w' p s j ∧ Keep p w w' ∧ ValP s i v b j := by
  have HH := Lib.hid h
  have HPL := Lib.hid h.lt
  have HSZ := Lib.hid hs
  clear h
  go_enter Tryz.func102, Tryz.ntmps102
  go_wp2_with fail
  go_loopw [4] (fun v wr => ∃ (k : Nat) (A : Option Addr) (n c : Nat) (acc : List UInt8), i ≤ k ∧ v = .slice A n c ∧ Hid (BP w p A n c acc wr) ∧ Hid (QS wr p s k) ∧ Hid (UZ s i acc k) ∧ Hid (acc.length ≤ k)) (fun _ wr => s.size - (intOf ((wr.cell? ⟨p, 1, none⟩).getD undef)).toNat)
  case atStart => exact ⟨i, none, 0, 0, [], Nat.le_refl _, rfl, Lib.hid (BP.nil (Keep.refl _ _)), HH, Lib.hid (UZ.start s i), Lib.hid (Nat.zero_le _)⟩
  case round =>
    obtain ⟨k, A, n, c, acc, hik, rfl, HBP, HQ, HU, HL⟩ := hrel
    have hks := HQ.out.le
    have c0 : wr.cell? ⟨p, 0, none⟩ = some (.string s) := HQ.out.at_.cell 0
    have c1 : wr.cell? ⟨p, 1, none⟩ = some (.int .i64 (k : Int)) := HQ.out.at_.cell 1
    have f1 : wr.frozen? ⟨p, 1, none⟩ = false := HQ.out.at_.free 1
    have hkm : (k : Int) ≤ 1000000 := by have := HSZ.out; omega
    have HC1 := Lib.hid c1
    by_cases hlt : k < s.size
    · have hj2 : (k : Int) < (s.size : Int) := by omega
      obtain ⟨b, hbx⟩ : ∃ b, s[k] = b := ⟨_, rfl⟩
      have HBX := Lib.hid hbx
      have HBP1 : ∀ nq : Nat, Hid (BP w p A n c acc ((wr.drewN nq).setCell ⟨p, 1, none⟩ (.int .i64 ((k : Int) + 1)))) := fun nq => Lib.hid (HBP.out.turn HPL.out (((Keep.refl p wr).drewN nq).set 1 _))
      have HQ1 : ∀ nq : Nat, Hid (QS ((wr.drewN nq).setCell ⟨p, 1, none⟩ (.int .i64 ((k : Int) + 1))) p s (k + 1)) := fun nq => Lib.hid ⟨hlt, (HQ.out.drewN nq).at_.set 1 _⟩
      have HLN : Hid (n + 1 ≤ 1000000000000) := Lib.hid (by have := HBP.out.row.len; have := HL.out; omega)
      by_cases h34 : b = 34
      · subst h34
        have HR := Lib.hid (HU.out.quote hlt HBX.out hik)
        go_wp2_with fail
        go_quiet (fail)
        generalize nq = m1 at *
        go_wp2_with fail
        go_quiet (fail)
        go_upto_region 5 with fail
        have HB1 := HBP1 (m1 + nq)
        have HQ2 := HQ1 (m1 + nq)
        generalize (wr.drewN (m1 + nq)).setCell ⟨p, 1, none⟩ (.int .i64 ((k : Int) + 1)) = w1 at *
        clear HBP1 HQ1 c0 c1 f1
        have kc := HB1.out.row.str
        go_wp2_with fail
        go_ret2
        exact ⟨str acc, true, k + 1, rfl, by omega, HQ2.out, HB1.out.keep, HR.out⟩
      by_cases h10 : b = 10
      · subst h10
        have HR := Lib.hid (fun v j => HU.out.line hlt HBX.out v j)
        clear h34
        go_wp2_with fail
        go_quiet (fail)
        generalize nq = m1 at *
        go_wp2_with fail
        go_quiet (fail)
        go_upto_region 5 with fail
        have HB1 := HBP1 (m1 + nq)
        have HQ2 := HQ1 (m1 + nq)
        generalize (wr.drewN (m1 + nq)).setCell ⟨p, 1, none⟩ (.int .i64 ((k : Int) + 1)) = w1 at *
        clear HBP1 HQ1 c0 c1 f1
        go_wp2_with fail
        go_ret2
        exact ⟨⟨#[]⟩, false, k + 1, rfl, by omega, HQ2.out, HB1.out.keep, HR.out _ _⟩
      by_cases h92 : b = 92
      · subst h92
        clear h34 h10
        go_wp2_with fail
        go_quiet (fail)
        generalize nq = m1 at *
        go_wp2_with fail
        go_quiet (fail)
        go_upto_region 5 with fail
        have HB1 := HBP1 (m1 + nq)
        have HQ2 := HQ1 (m1 + nq)
        generalize (wr.drewN (m1 + nq)).setCell ⟨p, 1, none⟩ (.int .i64 ((k : Int) + 1)) = w1 at *
        clear HBP1 HQ1 c0 c1 f1
        have HS1 := Lib.hid (mskip_any p s ⟨#[110]⟩ (k + 1) w1 HQ2.out hs (by decide))
        rcases hr1 : begB s ⟨#[110]⟩ (k + 1) with _ | _
        · rw [hr1] at HS1
          have HR1 := Lib.hid hr1
          clear hr1
          go_wp2_with fail
          refine HS1.out.mono ?_
          rintro e w2 ⟨rfl, hk2, hq2⟩
          have HQ3 : Hid (QS w2 p s (k + 1)) := Lib.hid hq2
          have HB2 := Lib.hid (HB1.out.turn HPL.out hk2)
          clear hk2 hq2 HS1 HB1 HQ2
          have HS2 := Lib.hid (mskip_any p s ⟨#[34]⟩ (k + 1) w2 HQ3.out hs (by decide))
          rcases hr2 : begB s ⟨#[34]⟩ (k + 1) with _ | _
          · rw [hr2] at HS2
            have HR2 := Lib.hid hr2
            clear hr2
            go_wp2_with fail
            refine HS2.out.mono ?_
            rintro e w3 ⟨rfl, hk2, hq2⟩
            have HQ4 : Hid (QS w3 p s (k + 1)) := Lib.hid hq2
            have HB3 := Lib.hid (HB2.out.turn HPL.out hk2)
            clear hk2 hq2 HS2 HB2 HQ3
            have HS3 := Lib.hid (mskip_any p s ⟨#[92]⟩ (k + 1) w3 HQ4.out hs (by decide))
            rcases hr3 : begB s ⟨#[92]⟩ (k + 1) with _ | _
            · rw [hr3] at HS3
              have HR := Lib.hid (fun v j => HU.out.back_no hlt HBX.out HR1.out HR2.out hr3 v j)
              clear hr3
              go_wp2_with fail
              refine HS3.out.mono ?_
              rintro e w4 ⟨rfl, hk2, hq2⟩
              have HQ5 : Hid (QS w4 p s (k + 1)) := Lib.hid hq2
              have HB4 := Lib.hid (HB3.out.turn HPL.out hk2)
              clear hk2 hq2 HS3 HB3 HQ4
              go_wp2_with fail
              go_ret2
              exact ⟨⟨#[]⟩, false, k + 1, rfl, by omega, HQ5.out, HB4.out.keep, HR.out _ _⟩
            · have HR := Lib.hid (HU.out.back hik hlt HBX.out hr3 unesc_b)
              rw [hr3] at HS3
              clear hr3
              go_wp2_with fail
              refine HS3.out.mono ?_
              rintro e w4 ⟨rfl, hk2, hq2⟩
              have HQ8 : Hid (QS w4 p s (k + 1 + 1)) := Lib.hid hq2
              have HB8 := Lib.hid (HB3.out.turn HPL.out hk2)
              clear hk2 hq2 HS3 HB3 HQ4
              go_wp2_with (at_builtin; (refine wpList_bytes rfl (.tmp 51) (.tmp 53) rfl HB8.out.row [92] (by simp) rfl rfl HLN.out ?_))
              intro A' n' c' l' w' HE hq hg2
              have HB9 : Hid (BP w p A' n' c' (acc ++ [92]) w') := Lib.hid (by have h9 := HB8.out.grown hq hg2; rwa [HE.out] at h9)
              have HQ9 : Hid (QS w' p s (k + 1 + 1)) := Lib.hid ⟨HQ8.out.le, hg2.at_ HQ8.out.at_ (HB8.out.ne HPL.out)⟩
              clear hq hg2
              go_wp2_with fail
              have hcell : w'.cell? ⟨p, 1, none⟩ = some (.int .i64 ((k + 1 + 1 : Nat) : Int)) := HQ9.out.at_.cell 1
              refine ⟨⟨k + 1 + 1, A', n', c', acc ++ [92], by omega, rfl, HB9, HQ9, Lib.hid (HR.out.1), Lib.hid (by have := HL.out; simp; omega)⟩, ?_⟩
              rw [hcell, HC1.out]
              have hq9 := HQ9.out.le
              simp [intOf]
              omega
          · have HR := Lib.hid (HU.out.back hik hlt HBX.out hr2 unesc_q)
            rw [hr2] at HS2
            clear hr2
            go_wp2_with fail
            refine HS2.out.mono ?_
            rintro e w3 ⟨rfl, hk2, hq2⟩
            have HQ8 : Hid (QS w3 p s (k + 1 + 1)) := Lib.hid hq2
            have HB8 := Lib.hid (HB2.out.turn HPL.out hk2)
            clear hk2 hq2 HS2 HB2 HQ3
            go_wp2_with (at_builtin; (refine wpList_bytes rfl (.tmp 51) (.tmp 53) rfl HB8.out.row [34] (by simp) rfl rfl HLN.out ?_))
            intro A' n' c' l' w' HE hq hg2
            have HB9 : Hid (BP w p A' n' c' (acc ++ [34]) w') := Lib.hid (by have h9 := HB8.out.grown hq hg2; rwa [HE.out] at h9)
            have HQ9 : Hid (QS w' p s (k + 1 + 1)) := Lib.hid ⟨HQ8.out.le, hg2.at_ HQ8.out.at_ (HB8.out.ne HPL.out)⟩
            clear hq hg2
            go_wp2_with fail
            have hcell : w'.cell? ⟨p, 1, none⟩ = some (.int .i64 ((k + 1 + 1 : Nat) : Int)) := HQ9.out.at_.cell 1
            refine ⟨⟨k + 1 + 1, A', n', c', acc ++ [34], by omega, rfl, HB9, HQ9, Lib.hid (HR.out.1), Lib.hid (by have := HL.out; simp; omega)⟩, ?_⟩
            rw [hcell, HC1.out]
            have hq9 := HQ9.out.le
            simp [intOf]
            omega
        · have HR := Lib.hid (HU.out.back hik hlt HBX.out hr1 unesc_n)
          rw [hr1] at HS1
          clear hr1
          go_wp2_with fail
          refine HS1.out.mono ?_
          rintro e w2 ⟨rfl, hk2, hq2⟩
          have HQ8 : Hid (QS w2 p s (k + 1 + 1)) := Lib.hid hq2
          have HB8 := Lib.hid (HB1.out.turn HPL.out hk2)
          clear hk2 hq2 HS1 HB1 HQ2
          go_wp2_with (at_builtin; (refine wpList_bytes rfl (.tmp 51) (.tmp 53) rfl HB8.out.row [10] (by simp) rfl rfl HLN.out ?_))
          intro A' n' c' l' w' HE hq hg2
          have HB9 : Hid (BP w p A' n' c' (acc ++ [10]) w') := Lib.hid (by have h9 := HB8.out.grown hq hg2; rwa [HE.out] at h9)
          have HQ9 : Hid (QS w' p s (k + 1 + 1)) := Lib.hid ⟨HQ8.out.le, hg2.at_ HQ8.out.at_ (HB8.out.ne HPL.out)⟩
          clear hq hg2
          go_wp2_with fail
          have hcell : w'.cell? ⟨p, 1, none⟩ = some (.int .i64 ((k + 1 + 1 : Nat) : Int)) := HQ9.out.at_.cell 1
          refine ⟨⟨k + 1 + 1, A', n', c', acc ++ [10], by omega, rfl, HB9, HQ9, Lib.hid (HR.out.1), Lib.hid (by have := HL.out; simp; omega)⟩, ?_⟩
          rw [hcell, HC1.out]
          have hq9 := HQ9.out.le
          simp [intOf]
          omega
      · have d1 : ((b.toNat : Int) == 92) = false := byte_ne h92
        have d2 : ((b.toNat : Int) == 34) = false := byte_ne h34
        have d3 : ((b.toNat : Int) == 10) = false := byte_ne h10
        have HR := Lib.hid (HU.out.other hik hlt HBX.out h34 h10 h92)
        clear h34 h10 h92
        go_wp2_with fail
        go_quiet (fail)
        generalize nq = m1 at *
        go_wp2_with fail
        go_quiet (fail)
        go_upto_region 5 with fail
        have HB1 := HBP1 (m1 + nq)
        have HQ2 := HQ1 (m1 + nq)
        generalize (wr.drewN (m1 + nq)).setCell ⟨p, 1, none⟩ (.int .i64 ((k : Int) + 1)) = w1 at *
        clear HBP1 HQ1 c0 c1 f1
        go_wp2_with (at_builtin; (refine wpList_bytes rfl (.tmp 51) (.tmp 53) rfl HB1.out.row [b] (by simp) rfl rfl HLN.out ?_))
        intro A' n' c' l' w' HE hq hg2
        have HB9 : Hid (BP w p A' n' c' (acc ++ [b]) w') := Lib.hid (by have h9 := HB1.out.grown hq hg2; rwa [HE.out] at h9)
        have HQ9 : Hid (QS w' p s (k + 1)) := Lib.hid ⟨HQ2.out.le, hg2.at_ HQ2.out.at_ (HB1.out.ne HPL.out)⟩
        clear hq hg2
        go_wp2_with fail
        have hcell : w'.cell? ⟨p, 1, none⟩ = some (.int .i64 ((k + 1 : Nat) : Int)) := HQ9.out.at_.cell 1
        refine ⟨⟨k + 1, A', n', c', acc ++ [b], by omega, rfl, HB9, HQ9, Lib.hid (HR.out), Lib.hid (by have := HL.out; simp; omega)⟩, ?_⟩
        rw [hcell, HC1.out]
        have hq9 := HQ9.out.le
        simp [intOf]
        omega
    · have hj2 : ¬ (k : Int) < (s.size : Int) := by omega
      have HR := Lib.hid (fun v j => HU.out.end_ (Nat.le_of_not_lt hlt) v j)
      go_wp2_with fail
      go_quiet (fail)
      go_wp2_with fail
      go_ret2
      exact ⟨⟨#[]⟩, false, k, rfl, hik, HQ.out.drewN _, (HBP.out.keep).drewN _, HR.out _ _⟩
end Go.Proofs.YthckgmbadmilfaaGreat

namespace Go.Proofs.YthckgmbadmilfaaGreat
open Go.RowKit

/-- What 'matcher' tells. -/
def OneP (s : ByteArray) (i : Nat) (x : Mt) (b : Bool) (j : Nat) : Prop := (b = false ∧ mt1 ((bs s).drop i) = none) ∨ (b = true ∧ mt1 ((bs s).drop i) = some (x, (bs s).drop j))
theorem QS.set3 {w : World} {p : Nat} {s : ByteArray} {i X : Nat} (h : QS w p s i) (hne : p ≠ X) (x y z : Value) : QS (((w.setCell ⟨X, 0, none⟩ x).setCell ⟨X, 1, none⟩ y).setCell ⟨X, 2, none⟩ z) p s i := ⟨h.le, h.at_.other3 hne⟩
theorem Keep.set3 {p X : Nat} {a w : World} (h : Keep p a w) (hb : a.heap.size ≤ X) (x y z : Value) : Keep p a (((w.setCell ⟨X, 0, none⟩ x).setCell ⟨X, 1, none⟩ y).setCell ⟨X, 2, none⟩ z) := ((h.setNew X 0 hb x).setNew X 1 hb y).setNew X 2 hb z
theorem oneP_empty {s : ByteArray} {i : Nat} (h : ((bs s).drop i).takeWhile letB5 = []) (x : Mt) (j : Nat) : OneP s i x false j := .inl ⟨rfl, by unfold mt1; rw [if_pos h]⟩
theorem oneP_kind {s : ByteArray} {i j1 : Nat} (h : ((bs s).drop i).dropWhile letB5 = (bs s).drop j1) (h2 : opM ((bs s).drop j1) = none) (x : Mt) (j : Nat) : OneP s i x false j := by
  refine .inl ⟨rfl, ?_⟩
  unfold mt1
  split
  · rfl
  · rw [h, h2]
theorem oneP_value {s N v : ByteArray} {i j1 j2 j3 : Nat} {k : Int} {b : Bool} (hn : ((bs s).drop i).takeWhile letB5 = bs N) (hne : bs N ≠ []) (h : ((bs s).drop i).dropWhile letB5 = (bs s).drop j1) (h2 : opM ((bs s).drop j1) = some (k, (bs s).drop j2)) (h3 : ValP s j2 v b j3) : OneP s i ⟨k, N, v⟩ b j3 := by
  have e : mt1 ((bs s).drop i) = (unqL ((bs s).drop j2)).map fun p => (⟨k, N, str p.1⟩, ((bs s).drop j2).drop p.2) := by
    unfold mt1
    rw [hn, if_neg hne, h, h2, str_bs]
  rcases h3 with ⟨rfl, h3⟩ | ⟨rfl, m, h3, rfl⟩
  · exact .inl ⟨rfl, by rw [e, h3]; rfl⟩
  · refine .inr ⟨rfl, ?_⟩
    rw [e, h3]
    simp [List.drop_drop, str_bs]
set_option maxRecDepth 100000 in
set_option maxHeartbeats 8000000 in
theorem mone_any (p : Nat) (s : ByteArray) (i : Nat) (w : World) (h : QS w p s i) (hs : s.size ≤ 100000) :
    Calls Tryz.prog 68 #[.pointer (some ⟨p, 0, none⟩)] w fun e w' => ∃ (x : Mt) (b : Bool) (j : Nat), e = .returned (.tuple #[.agg #[.int .i64 x.kind, .string x.name, .string x.value], .bool b]) ∧ i ≤ j ∧ QS w' p s j ∧ Keep p w w' ∧ OneP s i x b j := by
  have hlt := h.lt
  have HNE : Hid (p ≠ w.heap.size) := Lib.hid (by omega)
  have HZ0 := Lib.hid (At.new w #[.int .i64 0, .string ⟨#[]⟩, .string ⟨#[]⟩] 39)
  have HK0 : Hid (Keep p w (w.alloc (.cells #[.int .i64 0, .string ⟨#[]⟩, .string ⟨#[]⟩] 39))) := Lib.hid ((Keep.refl _ _).alloc _)
  have HQ0 : Hid (QS (w.alloc (.cells #[.int .i64 0, .string ⟨#[]⟩, .string ⟨#[]⟩] 39)) p s i) := Lib.hid ⟨h.le, h.at_.alloc _⟩
  have HSZ := Lib.hid hs
  clear h hlt
  go_enter Tryz.func68, Tryz.ntmps68
  go_upto_region 1 with fail
  generalize w.alloc (.cells #[.int .i64 0, .string ⟨#[]⟩, .string ⟨#[]⟩] 39) = w0 at *
  obtain ⟨X, hX⟩ : ∃ X, w.heap.size = X := ⟨_, rfl⟩
  rw [hX] at HNE HZ0
  have HXB : Hid (w.heap.size ≤ X) := Lib.hid (Nat.le_of_eq hX)
  rw [hX]
  clear hX
  have HNA := Lib.hid (mname_any p s i w0 HQ0.out (by have := HSZ.out; omega))
  go_wp2_with fail
  refine HNA.out.mono ?_
  rintro e w1 ⟨j1, rfl, hij1, hq1, hk1, ht1, hd1⟩
  have HQ1 := Lib.hid hq1
  have HK1 := Lib.hid (HK0.out.trans hk1)
  have HZ1 := Lib.hid (HZ0.out.keep hk1 HNE.out.symm)
  have HT1 := Lib.hid ht1
  have HD1 := Lib.hid hd1
  clear hq1 hk1 ht1 hd1 HNA HQ0 HK0 HZ0
  generalize s.extract i j1 = N at *
  by_cases hz : N.size = 0
  · have e1 := str_eq hz
    have HR := Lib.hid (fun x j => oneP_empty (x := x) (j := j) (by rw [HT1.out]; exact List.eq_nil_of_length_eq_zero (by rw [bs_length]; exact hz)))
    clear hz
    have d0 := HZ1.out.cell 0
    have d1 := HZ1.out.cell 1
    have d2 := HZ1.out.cell 2
    have g0 := HZ1.out.free 0
    have g1 := HZ1.out.free 1
    have g2 := HZ1.out.free 2
    go_wp2_with fail
    refine bodyPost_ret (results_row_tmpM rfl _ _ X 39 _ _ rfl HZ1.out.set3 Tryz.underlying39 rfl size_mt) rfl ⟨⟨0, ⟨#[]⟩, ⟨#[]⟩⟩, false, j1, rfl, hij1, HQ1.out.set3 HNE.out _ _ _, HK1.out.set3 HXB.out _ _ _, HR.out _ _⟩
  · have e1 := str_ne hz
    have HNZ : Hid (bs N ≠ []) := Lib.hid (fun h => hz (by rw [← bs_length, h]; rfl))
    clear hz
    have HKA := Lib.hid (mkind_any p s j1 w1 HQ1.out (by have := HSZ.out; omega))
    go_wp2_with fail
    refine HKA.out.mono ?_
    rintro e w2 ⟨k, j2, rfl, hj2, hq2, hk2, hkp⟩
    have HQ2 := Lib.hid hq2
    have HK2 := Lib.hid (HK1.out.trans hk2)
    have HZ2 := Lib.hid (HZ1.out.keep hk2 HNE.out.symm)
    clear hq2 hk2 HKA HQ1 HK1 HZ1
    rcases hkp with ⟨rfl, hkp⟩ | ⟨hk1, hk4, hkp⟩
    · have HR := Lib.hid (fun x j => oneP_kind HD1.out hkp x j)
      clear hkp
      have d0 := HZ2.out.cell 0
      have d1 := HZ2.out.cell 1
      have d2 := HZ2.out.cell 2
      have g0 := HZ2.out.free 0
      have g1 := HZ2.out.free 1
      have g2 := HZ2.out.free 2
      go_wp2_with fail
      refine bodyPost_ret (results_row_tmpM rfl _ _ X 39 _ _ rfl HZ2.out.set3 Tryz.underlying39 rfl size_mt) rfl ⟨⟨0, ⟨#[]⟩, ⟨#[]⟩⟩, false, j2, rfl, by omega, HQ2.out.set3 HNE.out _ _ _, HK2.out.set3 HXB.out _ _ _, HR.out _ _⟩
    · have HKP := Lib.hid hkp
      have hk0 : (k == 0) = false := by rw [beq_eq_false_iff_ne]; omega
      clear hkp
      have HVA := Lib.hid (mvalue_any p s j2 w2 HQ2.out (by have := HSZ.out; omega))
      go_wp2_with fail
      refine HVA.out.mono ?_
      rintro e w3 ⟨v, b, j3, rfl, hj3, hq3, hk3, hvp⟩
      have HQ3 := Lib.hid hq3
      have HK3 := Lib.hid (HK2.out.trans hk3)
      have HZ3 := Lib.hid (HZ2.out.keep hk3 HNE.out.symm)
      have HR := Lib.hid (oneP_value HT1.out HNZ.out HD1.out HKP.out hvp)
      clear hq3 hk3 hvp HVA HQ2 HK2 HZ2
      have d0 := HZ3.out.cell 0
      have d1 := HZ3.out.cell 1
      have d2 := HZ3.out.cell 2
      have g0 := HZ3.out.free 0
      have g1 := HZ3.out.free 1
      have g2 := HZ3.out.free 2
      go_wp2_with fail
      refine bodyPost_ret (results_row_tmpM rfl _ _ X 39 _ _ rfl HZ3.out.set3 Tryz.underlying39 rfl size_mt) rfl ⟨⟨k, N, v⟩, b, j3, rfl, by omega, HQ3.out.set3 HNE.out _ _ _, HK3.out.set3 HXB.out _ _ _, HR.out⟩
end Go.Proofs.YthckgmbadmilfaaGreat

namespace Go.Proofs.YthckgmbadmilfaaGreat
open Go.RowKit

/-- A row of matchers that is not the parser's, made behind w. -/
structure SP (w : World) (p : Nat) (A : Option Addr) (n c : Nat) (ms : List Mt) (wr : World) : Prop where
  row : SR (bare7 w) 39 3 A n c (ms.map Mt.cells) wr
  new : ∀ b, A.map (·.block) = some b → w.heap.size ≤ b
  keep : Keep p w wr
theorem SP.nil {w wr : World} {p : Nat} (h : Keep p w wr) : SP w p none 0 0 [] wr := ⟨SR.nil _ _ (below_bare7 h), fun b hb => by (cases hb), h⟩
theorem SP.ne {w wr : World} {p n c : Nat} {A : Option Addr} {l : List Mt} (h : SP w p A n c l wr) (hp : p < w.heap.size) : A.map (·.block) ≠ some p := fun e => by have := h.new p e; omega
theorem SP.turn {w wr w' : World} {p n c : Nat} {A : Option Addr} {l : List Mt} (h : SP w p A n c l wr) (hp : p < w.heap.size) (hk : Keep p wr w') : SP w p A n c l w' :=
  ⟨⟨h.row.len, h.row.size, h.row.row.kept (keep_grown hk) (.inr (by rw [own_slice]; exact h.ne hp)), below_bare7 (h.keep.trans hk)⟩, h.new, h.keep.trans hk⟩
theorem SP.grown {w wr w' : World} {p n c n' c' : Nat} {A A' : Option Addr} {l l' : List Mt} (h : SP w p A n c l wr) (hr : SR (bare7 w) 39 3 A' n' c' (l'.map Mt.cells) w') (hg : Gro wr w' A A') : SP w p A' n' c' l' w' := by
  refine ⟨hr, fun b hb => ?_, ⟨hg.grow.os.trans h.keep.os, hg.grow.tape.trans h.keep.tape, hg.grow.output.trans h.keep.output, Nat.le_trans h.keep.size hg.grow.size, fun k hk hne => ?_⟩⟩
  · rcases hg.own with e | ⟨g, e, hge⟩
    · exact h.new b (by rw [← e]; exact hb)
    · rw [e] at hb
      injection hb with hb
      have := h.keep.size
      omega
  · refine (hg.grow.block k (Nat.lt_of_lt_of_le hk h.keep.size) (fun e => ?_)).trans (h.keep.block k hk hne)
    have := h.new k e.symm
    omega
/-- Where the reader of a list stands. -/
def LZ (s : ByteArray) (acc : List Mt) (k : Nat) : Prop := ∃ f, ((bs s).drop k).length < f ∧ parM (bs s) = (mtsF f ((bs s).drop k)).map (acc ++ ·)
section
variable {s : ByteArray} {i j k : Nat} {acc : List Mt} {x : Mt}
theorem LZ.start (h : begB s ⟨#[123]⟩ 0 = true) (h2 : bs s ≠ [123, 125]) : LZ s [] 1 := by
  obtain ⟨h3, h4⟩ := (beg1 s 123 0).1 h
  refine ⟨((bs s).drop 1).length + 1, by omega, ?_⟩
  have e : bs s = 123 :: (bs s).drop 1 := by have := drop_byte h3; rw [h4, List.drop_zero] at this; exact this
  generalize (bs s).drop 1 = r at *
  rw [e] at h2 ⊢
  unfold parM
  rw [if_neg h2]
  simp only [if_pos]
  cases mtsF (r.length + 1) r <;> simp
theorem par_none (h : begB s ⟨#[123]⟩ 0 = false) : parM (bs s) = none := by
  have hn : ∀ h3 : 0 < s.size, s[0] ≠ 123 := fun h3 e => by rw [(beg1 s 123 0).2 ⟨h3, e⟩] at h; cases h
  unfold parM
  by_cases h3 : 0 < s.size
  · have e : bs s = s[0] :: (bs s).drop 1 := by have := drop_byte h3; rw [List.drop_zero] at this; exact this
    have h4 := hn h3
    generalize (bs s).drop 1 = r at *
    generalize s[0] = c at *
    rw [e, if_neg (by intro h5; injection h5 with h5; exact h4 h5)]
    simp [h4]
  · have e : bs s = [] := by have := drop_end (s := s) (k := 0) (by omega); rwa [List.drop_zero] at this
    rw [e]
    rfl
theorem LZ.bad (h : LZ s acc k) (h1 : mt1 ((bs s).drop k) = none) : parM (bs s) = none := by
  obtain ⟨f, hf, h2⟩ := h
  rw [h2]
  cases f with
  | zero => omega
  | succ f => simp [mtsF, h1]
theorem LZ.next (h : LZ s acc k) (hkj : k ≤ j) (h1 : mt1 ((bs s).drop k) = some (x, (bs s).drop j)) (hc : begB s ⟨#[44]⟩ j = true) : LZ s (acc ++ [x]) (j + 1) ∧ j + 1 ≤ s.size := by
  obtain ⟨h3, h4⟩ := (beg1 s 44 j).1 hc
  obtain ⟨f, hf, h2⟩ := h
  refine ⟨?_, h3⟩
  cases f with
  | zero => omega
  | succ f =>
    refine ⟨f, ?_, ?_⟩
    · rw [List.length_drop, bs_length] at hf ⊢; omega
    · rw [h2]
      simp only [mtsF, h1, Option.bind_some, drop_byte h3, h4, if_pos]
      cases mtsF f ((bs s).drop (j + 1)) <;> simp
theorem LZ.last (h : LZ s acc k) (h1 : mt1 ((bs s).drop k) = some (x, (bs s).drop j)) (hc : begB s ⟨#[44]⟩ j = false) : parM (bs s) = if begB s ⟨#[125]⟩ j = true ∧ j + 1 = s.size then some (acc ++ [x]) else none := by
  obtain ⟨f, hf, h2⟩ := h
  rw [h2]
  cases f with
  | zero => omega
  | succ f =>
    simp only [mtsF, h1, Option.bind_some]
    by_cases h3 : j < s.size
    · have hn : s[j] ≠ 44 := fun e => by rw [(beg1 s 44 j).2 ⟨h3, e⟩] at hc; cases hc
      rw [drop_byte h3]
      simp only [if_neg hn]
      by_cases h4 : begB s ⟨#[125]⟩ j = true ∧ j + 1 = s.size
      · obtain ⟨_, h5⟩ := (beg1 s 125 j).1 h4.1
        rw [if_pos h4, if_pos ⟨h5, drop_end (by omega)⟩]
        rfl
      · rw [if_neg h4, if_neg]
        · rfl
        · rintro ⟨h5, h6⟩
          refine h4 ⟨(beg1 s 125 j).2 ⟨h3, h5⟩, ?_⟩
          have := congrArg List.length h6
          rw [List.length_drop, bs_length] at this
          simp at this
          omega
    · rw [drop_end (by omega), if_neg]
      · rfl
      · rintro ⟨h5, _⟩
        obtain ⟨h6, _⟩ := (beg1 s 125 j).1 h5
        exact h3 h6
end
end Go.Proofs.YthckgmbadmilfaaGreat
