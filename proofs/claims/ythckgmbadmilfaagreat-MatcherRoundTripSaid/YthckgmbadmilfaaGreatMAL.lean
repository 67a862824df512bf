/- The parser's walks: bracket. DERIVED: THE SHELF's CONTRACTS AT THIS DUMP, IN PLAIN WORDS (tools/lay-plain.mjs out of 'TryzShelf.lean', which tools/lay-shelf.mjs wrote): THE SAME DECLARATIONS UNDER THE SAME NAMES: 'import', 'namespace', 'open', 'def', 'theorem' AND NOTHING ELSE: no command of the shelf's: FOR A HAND-IN. Each laying: the table of numbers ('.._ren') and one theorem, a field a fact of the dump's own or the kernel's comparison; each contract: ONE APPLICATION. -/
import Derived.Test.YthckgmbadmilfaaGreatMAK
import Derived.Shelf.Small.Bits
import Derived.Shelf.Small.Strs
import Derived.Shelf.Small.Wraps
import Derived.Shelf.Strconv.Itoa0
import Derived.Shelf.Strings.Search1
import Derived.Shelf.Strings.Prefix
import Derived.Shelf.Slices.Turned
import Derived.Ground.Names2Prog
import Derived.Shelf.Slices.SearchI
import Derived.Test.YthckgmbadmilfaaGreatProg
namespace Go.Proofs.YthckgmbadmilfaaGreat
open Go.RowKit Rx

/-- Whether a byte is skipped, and what follows. -/
def skipped (k : UInt8) (l : List UInt8) : Bool × List UInt8 := match l with | c :: r => if c = k then (true, r) else (false, c :: r) | [] => (false, [])
theorem PS.drewN' {W : World} {p : Nat} {s : ByteArray} {l : List UInt8} (h : PS W p s l) (n : Nat) : Keep p W (W.drewN n) ∧ PS (W.drewN n) p s l := ⟨(Keep.refl p W).drewN n, h.drewN n⟩
theorem skip_any (W : World) (p : Nat) (s : ByteArray) (kb : UInt8) (k : Int) (l : List UInt8) (hk : k = kb.toNat) (hs : s.size ≤ 1000) (h : PS W p s l) :
    Calls Tryz.prog 156 #[ptr p, .int .u8 k] W fun e w' => e = .returned (.bool (skipped kb l).1) ∧ Keep p W w' ∧ PS w' p s (skipped kb l).2 := by
  rcases l with _ | ⟨c, r⟩
  · refine (skip_end W p s k h).mono ?_
    rintro e w' ⟨rfl, n, rfl⟩
    exact ⟨rfl, h.drewN' n⟩
  · by_cases hc : c = kb
    · have e1 : skipped kb (c :: r) = (true, r) := by simp [skipped, hc]
      rw [e1]
      exact skip_yes6 W p s k c r hs h (by rw [hk, hc])
    · have e1 : skipped kb (c :: r) = (false, c :: r) := by simp [skipped, hc]
      rw [e1]
      refine (skip_no6 W p s k c r h (fun e => hc (UInt8.toNat_inj.1 (by omega)))).mono ?_
      rintro e w' ⟨rfl, n, rfl⟩
      exact ⟨rfl, h.drewN' n⟩

theorem item_short {l r : List UInt8} {a : UInt8} (h : item l = some (a, r)) : r.length < l.length := by
  rcases l with _ | ⟨c, l⟩
  · cases h
  · simp only [item] at h
    split at h
    · cases h
    · split at h
      · rcases l with _ | ⟨d, l⟩
        · cases h
        · simp only [Option.map_eq_some_iff, Prod.mk.injEq] at h
          obtain ⟨b, _, _, rfl⟩ := h
          simp; omega
      · simp only [Option.some.injEq, Prod.mk.injEq] at h
        obtain ⟨_, rfl⟩ := h
        simp
theorem isRange_some {r : List UInt8} (h : isRange r = true) : ∃ t, r = 45 :: t := by
  rcases r with _ | ⟨a, _ | ⟨b, t⟩⟩
  · cases h
  · cases h
  · simp [isRange] at h
    exact ⟨b :: t, by rw [h.1]⟩
/-- What a round of the class reads. -/
theorem items_succ (n : Nat) (g : UInt8 → Bool) (l : List UInt8) : items (n + 1) g l = (item l).bind fun (a, r) => (last a r).bind fun (b, r') => if (skipped 93 r').1 then some (add g a b, (skipped 93 r').2) else items n (add g a b) (skipped 93 r').2 := by
  rw [items]
  rcases item l with _ | ⟨a, r⟩
  · rfl
  simp only [Option.bind_some]
  rcases last a r with _ | ⟨b, r'⟩
  · rfl
  simp only [Option.bind_some]
  rcases r' with _ | ⟨c, t⟩
  · rfl
  · by_cases hc : c = 93
    · subst hc; rfl
    · simp only [skipped, if_neg hc]
      split
      · rename_i h
        exact absurd (List.cons.inj h).1 hc
      · rfl
theorem skipped_le (k : UInt8) (l : List UInt8) : (skipped k l).2.length ≤ l.length := by
  unfold skipped
  rcases l with _ | ⟨c, t⟩
  · exact Nat.le_refl _
  · simp only; split <;> simp
theorem bracket_eq (l : List UInt8) : bracket l = (items ((skipped 94 l).2.length + 1) (fun _ => false) (skipped 94 l).2).map fun (g, r') => (.cls (fun c => g c != (skipped 94 l).1), r') := by
  rcases l with _ | ⟨c, t⟩
  · rfl
  · by_cases hc : c = 94
    · subst hc; rfl
    · simp only [skipped, if_neg hc]
      unfold bracket
      split
      · rename_i h
        exact absurd (List.cons.inj h).1 hc
      · rfl
theorem btab_upd (f g : UInt8 → Bool) (k : Nat) (hk : k < 256) (h : ∀ i, i < 256 → g (UInt8.ofNat i) = if i = k then true else f (UInt8.ofNat i)) : (btab f 256).setIfInBounds k (.bool true) = btab g 256 := by
  apply Array.ext_getElem?
  intro i
  rw [Array.getElem?_setIfInBounds]
  by_cases e : k = i
  · subst e
    rw [if_pos rfl, if_pos (by rw [btab_size]; exact hk), btab_get g _ k hk, if_pos hk, h k hk, if_pos rfl]
  · rw [if_neg e]
    by_cases hi : i < 256
    · rw [btab_get f _ i hi, btab_get g _ i hi, if_pos hi, if_pos hi, h i hi, if_neg (fun x => e x.symm)]
    · rw [Array.getElem?_eq_none (by rw [btab_size]; omega), Array.getElem?_eq_none (by rw [btab_size]; omega)]
/-- The bytes from a on and below j added. -/
def addTo (g : UInt8 → Bool) (a j : Nat) : UInt8 → Bool := fun c => g c || (decide (a ≤ c.toNat) && decide (c.toNat < j))
theorem addTo_start (g : UInt8 → Bool) (a : Nat) : addTo g a a = g := by
  funext c
  unfold addTo
  have : (decide (a ≤ c.toNat) && decide (c.toNat < a)) = false := by
    rw [Bool.and_eq_false_iff]; simp; omega
  rw [this]; simp
theorem addTo_end (g : UInt8 → Bool) (a b : UInt8) : addTo g a.toNat (b.toNat + 1) = add g a b := by
  funext c
  unfold addTo add
  congr 2
  exact decide_eq_decide.2 (by omega)
theorem addTo_step (g : UInt8 → Bool) (a j : Nat) (ha : a ≤ j) (hj : j < 256) : (btab (addTo g a j) 256).setIfInBounds j (.bool true) = btab (addTo g a (j + 1)) 256 := by
  apply btab_upd _ _ j hj
  intro i hi
  have e : (UInt8.ofNat i).toNat = i := by rw [UInt8.toNat_ofNat']; omega
  unfold addTo
  rw [e]
  by_cases h : i = j
  · subst h; rw [if_pos rfl]; simp [ha]
  · rw [if_neg h]
    congr 2
    exact decide_eq_decide.2 (by omega)
/-- How much lies ahead, by the parser's own cell. -/
def ahead (s : ByteArray) (p : Nat) (W : World) : Nat := s.size - (intOf ((W.cell? ⟨p, 1, none⟩).getD undef)).toNat
theorem PS.ahead {W : World} {p : Nat} {s : ByteArray} {l : List UInt8} (h : PS W p s l) : Go.Proofs.YthckgmbadmilfaaGreat.ahead s p W = l.length := by
  have c1 : W.cell? ⟨p, 1, none⟩ = some (.int .i64 ((s.size - l.length : Nat) : Int)) := h.at_.cell 1
  have := h.le
  unfold Go.Proofs.YthckgmbadmilfaaGreat.ahead
  rw [c1]
  simp [intOf]
  omega
theorem PS.other {W : World} {p : Nat} {s : ByteArray} {l : List UInt8} (h : PS W p s l) (b i : Nat) (v : Value) (hne : p ≠ b) : PS (W.setCell ⟨b, i, none⟩ v) p s l := h.keep (h.at_.other v hne)
theorem PS.ofKeep {W W1 : World} {p q : Nat} {s : ByteArray} {l : List UInt8} (h : PS W p s l) (hk : Keep q W W1) (hne : p ≠ q) : PS W1 p s l := h.keep (h.at_.keep hk hne)

/-- What bracket has in memory: the set in block S, whether it is inverted in block I. -/
structure Br (W : World) (p : Nat) (s : ByteArray) (S I : Nat) (inv : Bool) (B : Nat) (g : UInt8 → Bool) (l : List UInt8) (wr : World) : Prop where
  ps : PS wr p s l
  set : At wr S (btab g 256) 202
  inv : At wr I #[.bool inv] 4
  keep : Keep p W wr
  size : B ≤ wr.heap.size
theorem Br.step {W : World} {p : Nat} {s : ByteArray} {S I : Nat} {inv : Bool} {B : Nat} {g : UInt8 → Bool} {l l' : List UInt8} {wr w2 : World} (h : Br W p s S I inv B g l wr) (hk : Keep p wr w2) (hp : PS w2 p s l') (hS : S ≠ p) (hI : I ≠ p) : Br W p s S I inv B g l' w2 :=
  ⟨hp, h.set.keep hk hS, h.inv.keep hk hI, h.keep.trans hk, Nat.le_trans h.size hk.size⟩
theorem Br.drewN {W : World} {p : Nat} {s : ByteArray} {S I : Nat} {inv : Bool} {B : Nat} {g : UInt8 → Bool} {l : List UInt8} {wr : World} (h : Br W p s S I inv B g l wr) (n : Nat) : Br W p s S I inv B g l (wr.drewN n) :=
  ⟨h.ps.drewN n, h.set.drewN n, h.inv.drewN n, h.keep.drewN n, h.size⟩

/-- Where the class's result stands. -/
def BrR (R : Option ((UInt8 → Bool) × List UInt8)) (en : Bool) (g : UInt8 → Bool) (l : List UInt8) : Prop := (en = true ∧ R = some (g, l)) ∨ (en = false ∧ ∃ m, l.length < m ∧ R = items m g l)
theorem BrR.none {R : Option ((UInt8 → Bool) × List UInt8)} {g : UInt8 → Bool} {l : List UInt8} (h : BrR R false g l) (hi : item l = .none) : R = .none := by
  rcases h with ⟨h, _⟩ | ⟨_, m, hm, rfl⟩
  · cases h
  · rcases m with _ | m
    · rfl
    · rw [items_succ, hi]; rfl
theorem BrR.lastNone {R : Option ((UInt8 → Bool) × List UInt8)} {g : UInt8 → Bool} {l r : List UInt8} {a : UInt8} (h : BrR R false g l) (hi : item l = some (a, r)) (hl : last a r = .none) : R = .none := by
  rcases h with ⟨h, _⟩ | ⟨_, m, hm, rfl⟩
  · cases h
  · rcases m with _ | m
    · rfl
    · rw [items_succ, hi]; simp only [Option.bind_some]; rw [hl]; rfl
theorem BrR.next {R : Option ((UInt8 → Bool) × List UInt8)} {g : UInt8 → Bool} {l r r' : List UInt8} {a b : UInt8} (h : BrR R false g l) (hi : item l = some (a, r)) (hl : last a r = some (b, r')) (hlen : r'.length < l.length) : BrR R (skipped 93 r').1 (add g a b) (skipped 93 r').2 := by
  rcases h with ⟨h, _⟩ | ⟨_, m, hm, rfl⟩
  · cases h
  · rcases m with _ | m
    · omega
    · have hs : (skipped 93 r').2.length ≤ r'.length := by
        unfold skipped
        rcases r' with _ | ⟨c, t⟩
        · exact Nat.le_refl _
        · simp only; split <;> simp
      rw [items_succ, hi]
      simp only [Option.bind_some]
      rw [hl]
      simp only [Option.bind_some]
      cases e : (skipped 93 r').1
      · exact .inr ⟨rfl, m, by omega, by simp⟩
      · exact .inl ⟨rfl, by simp⟩

set_option maxRecDepth 100000 in
set_option maxHeartbeats 2000000 in
theorem bracket_any (W : World) (p : Nat) (s : ByteArray) (l : List UInt8) (hs : s.size ≤ 1000) (h : PS W p s l) :
    Calls Tryz.prog 175 #[ptr p] W (UPost p s W (bracket l)) := by
  have HE := Lib.hid (bracket_eq l)
  have HS1 := Lib.hid (skip_any W p s 94 94 l rfl hs h)
  generalize hsk : skipped 94 l = sk at *
  obtain ⟨inv, l1⟩ := sk
  have hlt := h.lt
  clear hsk h
  have HR : ∃ R, R = items (l1.length + 1) (fun _ => false) l1 := ⟨_, rfl⟩
  obtain ⟨R, hR⟩ := HR
  have HRE := Lib.hid hR
  have HE2 : Hid (bracket l = R.map fun (g, r') => (.cls (fun c => g c != inv), r')) := Lib.hid (by rw [hR]; exact HE.out)
  clear hR HE
  unfold ptr
  go_enter Tryz.func175, Tryz.ntmps175
  go_wp2_with fail
  refine (HS1.out).mono ?_
  rintro e w1 ⟨rfl, hk1, hp1⟩
  have HK1 := Lib.hid hk1
  have HP1 := Lib.hid hp1
  have hlt1 : p < w1.heap.size := hp1.lt
  clear hk1 hp1
  go_wp2_with fail
  obtain ⟨I, hI⟩ : ∃ I, I = w1.heap.size := ⟨_, rfl⟩
  have hS : w1.heap.size + 1 = I + 1 := by rw [hI]
  have hbr : Br W p s (I + 1) I inv (I + 2) (fun _ => false) l1 ((w1.alloc (.cells #[.bool inv] 4)).alloc (.cells Tryz.zeroCells202 202)) := by
    subst hI
    refine ⟨(HP1.out.alloc _).alloc _, ?_, (At.new _ _ _).alloc _, (HK1.out.alloc _).alloc _, by simp⟩
    have e := At.new (w1.alloc (.cells #[.bool inv] 4)) Tryz.zeroCells202 202
    have e2 : btab (fun _ => false) 256 = Tryz.zeroCells202 := by
      rw [zero_class, ← btab_zero (fun _ => false)]
      apply Array.ext_getElem?
      intro i
      by_cases hi : i < 256
      · rw [btab_get _ _ i hi, btab_get _ _ i hi]; simp
      · rw [Array.getElem?_eq_none (by rw [btab_size]; omega), Array.getElem?_eq_none (by rw [btab_size]; omega)]
    rw [e2]
    simpa using e
  have hIp : p < I := by omega
  generalize ((w1.alloc (.cells #[.bool inv] 4)).alloc (.cells Tryz.zeroCells202 202)) = w2 at *
  rw [hS, ← hI]
  have hw0 : W.heap.size ≤ I := by rw [hI]; exact HK1.out.size
  clear hS hI hlt1 HS1 HK1 HP1
  go_loopw [6] (fun e6 wr => ∃ (en : Bool) (g : UInt8 → Bool) (lc : List UInt8), e6 = .bool en ∧ Br W p s (I + 1) I inv (I + 2) g lc wr ∧ BrR R en g lc) (fun _ wr => ahead s p wr)
  case atStart => exact ⟨false, _, _, rfl, hbr, .inr ⟨rfl, _, Nat.lt_succ_self _, HRE.out⟩⟩
  case round =>
    clear hbr
    obtain ⟨en, g, lc, rfl, hb, hrr⟩ := hrel
    cases en
    · have HB := Lib.hid hb
      have HRR := Lib.hid hrr
      have HI := Lib.hid (item_any wr p s lc hs hb.ps)
      clear hb hrr
      go_wp2_with fail
      refine (HI.out).mono ?_
      rintro e w3 ⟨hk3, h3⟩
      rcases hit : item lc with _ | ⟨a, r⟩
      · rw [hit] at h3
        simp only at h3
        subst h3
        have HIT := Lib.hid hit
        have HK3 := Lib.hid hk3
        clear hit hk3
        go_wp2_with fail
        go_ret2
        exact UPost.no (by rw [HE2.out, HRR.out.none HIT.out]; rfl) (HB.out.keep.trans HK3.out)
      · rw [hit] at h3
        simp only at h3
        obtain ⟨rfl, hp3⟩ := h3
        have HIT := Lib.hid hit
        have HB3 := Lib.hid (HB.out.step hk3 hp3 (by omega) (by omega))
        have HRG := Lib.hid (isRange_any w3 p s r hs hp3)
        clear hit hk3 hp3
        go_wp2_with fail
        refine (HRG.out).mono ?_
        rintro e w4 ⟨rfl, n4, rfl⟩
        have HLEN := Lib.hid (item_short HIT.out)
        have ha256 := a.toNat_lt
        cases hrg : isRange r
        · have HL : Hid (last a r = some (a, r)) := Lib.hid (by unfold last; rw [hrg]; rfl)
          have HB5 := Lib.hid (HB3.out.drewN n4)
          clear hrg
          generalize w3.drewN n4 = w5 at *
          go_wp2_with fail
          have HL5 := HL
          have HB6 := HB5
          have HN5 := HLEN
          go_loopw [10] (fun c wr => ∃ j : Nat, a.toNat ≤ j ∧ j ≤ a.toNat + 1 ∧ c = .int .i64 j ∧ Br W p s (I + 1) I inv (I + 2) (addTo g a.toNat j) r wr) (fun c _ => a.toNat + 1 - (intOf c).toNat)
          case atStart => exact ⟨a.toNat, Nat.le_refl _, by omega, rfl, by rw [addTo_start]; exact HB6.out⟩
          case round =>
            obtain ⟨j, hj1, hj2, rfl, hbj⟩ := hrel
            by_cases hlt : j ≤ a.toNat
            · have hj256 : j < 256 := by omega
              have g1 := hbj.set.free j
              have g0 : wr.cell? ⟨I + 1, j, none⟩ = some (.bool ((addTo g a.toNat j) (UInt8.ofNat j))) := by rw [hbj.set.cell j, btab_get _ 256 j hj256, if_pos hj256]
              have HJ := Lib.hid hbj
              have HST := Lib.hid (addTo_step g a.toNat j hj1 hj256)
              clear hbj
              go_wp2_with fail
              go_roundw
              case rel => exact ⟨j + 1, by omega, by omega, by go_num, ⟨HJ.out.ps.other _ _ _ (by omega), by rw [← HST.out]; exact HJ.out.set.set j _, HJ.out.inv.other _ (by show I ≠ I + 1; omega), HJ.out.keep.setNew _ _ (by omega) _, by simpa using HJ.out.size⟩⟩
              case measure => simp [intOf]; omega
            · obtain rfl : j = a.toNat + 1 := by omega
              have HJ := Lib.hid hbj
              have HSK := Lib.hid (skip_any wr p s 93 93 r rfl hs hbj.ps)
              have HNX := Lib.hid (HRR.out.next HIT.out HL5.out HN5.out)
              have HSL : Hid ((skipped 93 r).2.length ≤ (r).length) := Lib.hid (skipped_le 93 _)
              rw [addTo_end] at hbj
              have HJ2 := Lib.hid hbj
              clear hbj
              generalize skipped 93 r = sk at *
              obtain ⟨en', l'⟩ := sk
              go_wp2_with fail
              refine (HSK.out).mono ?_
              rintro e w8 ⟨rfl, hk8, hp8⟩
              have HB8 := Lib.hid (HJ2.out.step hk8 hp8 (by omega) (by omega))
              clear hk8 hp8
              go_wp2_with fail
              go_roundw
              case rel => exact ⟨en', _, l', rfl, HB8.out, HNX.out⟩
              case measure =>
                rw [HB8.out.ps.ahead, HB.out.ps.ahead]
                have h1 := HN5.out
                have h2 : l'.length ≤ _ := HSL.out
                omega
        · obtain ⟨t, rfl⟩ := isRange_some hrg
          have HRT := Lib.hid hrg
          have hp4 := HB3.out.ps
          have c1 : w3.cell? ⟨p, 1, none⟩ = some (.int .i64 ((s.size - (45 :: t).length : Nat) : Int)) := hp4.at_.cell 1
          have c2 := hp4.at_.free 1
          have hle : s.size - (45 :: t).length ≤ 1000 := by omega
          have HBM : Hid (((s.size - (45 :: t).length : Nat) : Int) + 1 = ((s.size - t.length : Nat) : Int)) := Lib.hid (by rw [hp4.next.2.2]; omega)
          have HP := Lib.hid hp4
          clear hrg hp4
          generalize s.size - (45 :: t).length = k at *
          have HP5 := Lib.hid (HP.out.bump n4 _ HBM.out)
          have HK5 : Hid (Keep p w3 ((w3.drewN n4).setCell ⟨p, 1, none⟩ (.int .i64 ((k : Int) + 1)))) := Lib.hid (((Keep.refl p w3).drewN n4).set _ _)
          go_wp2_with fail
          generalize ((w3.drewN n4).setCell ⟨p, 1, none⟩ (.int .i64 ((k : Int) + 1))) = w5 at *
          refine (item_any w5 p s t hs HP5.out).mono ?_
          rintro e w6 ⟨hk6, h6⟩
          rcases hit2 : item t with _ | ⟨b, r'⟩
          · rw [hit2] at h6
            simp only at h6
            subst h6
            have HIT2 := Lib.hid hit2
            have HK6 := Lib.hid hk6
            clear hit2 hk6
            go_wp2_with fail
            go_ret2
            exact UPost.no (by rw [HE2.out, HRR.out.lastNone HIT.out (by unfold last; rw [HRT.out]; simp [HIT2.out])]; rfl) ((HB3.out.keep.trans HK5.out).trans HK6.out)
          · rw [hit2] at h6
            simp only at h6
            obtain ⟨rfl, hp6⟩ := h6
            have HIT2 := Lib.hid hit2
            have HLEN2 := Lib.hid (item_short hit2)
            have HB6 := Lib.hid (HB3.out.step (HK5.out.trans hk6) hp6 (by omega) (by omega))
            clear hit2 hk6 hp6
            by_cases hba : b.toNat < a.toNat
            · have HL : Hid (last a (45 :: t) = none) := Lib.hid (by unfold last; rw [HRT.out]; simp [HIT2.out, hba])
              go_wp2_with fail
              go_ret2
              exact UPost.no (by rw [HE2.out, HRR.out.lastNone HIT.out HL.out]; rfl) HB6.out.keep
            · have HL5 : Hid (last a (45 :: t) = some (b, r')) := Lib.hid (by unfold last; rw [HRT.out]; simp [HIT2.out, hba])
              have hab : a.toNat ≤ b.toNat := by omega
              have hb256 := b.toNat_lt
              have HN5 : Hid (r'.length < lc.length) := Lib.hid (by have h1 := HLEN.out; have h2 := HLEN2.out; simp only [List.length_cons] at h1; omega)
              clear hba
              go_wp2_with fail
              go_loopw [10] (fun c wr => ∃ j : Nat, a.toNat ≤ j ∧ j ≤ b.toNat + 1 ∧ c = .int .i64 j ∧ Br W p s (I + 1) I inv (I + 2) (addTo g a.toNat j) r' wr) (fun c _ => b.toNat + 1 - (intOf c).toNat)
              case atStart => exact ⟨a.toNat, Nat.le_refl _, by omega, rfl, by rw [addTo_start]; exact HB6.out⟩
              case round =>
                obtain ⟨j, hj1, hj2, rfl, hbj⟩ := hrel
                by_cases hlt : j ≤ b.toNat
                · have hj256 : j < 256 := by omega
                  have g1 := hbj.set.free j
                  have g0 : wr.cell? ⟨I + 1, j, none⟩ = some (.bool ((addTo g a.toNat j) (UInt8.ofNat j))) := by rw [hbj.set.cell j, btab_get _ 256 j hj256, if_pos hj256]
                  have HJ := Lib.hid hbj
                  have HST := Lib.hid (addTo_step g a.toNat j hj1 hj256)
                  clear hbj
                  go_wp2_with fail
                  go_roundw
                  case rel => exact ⟨j + 1, by omega, by omega, by go_num, ⟨HJ.out.ps.other _ _ _ (by omega), by rw [← HST.out]; exact HJ.out.set.set j _, HJ.out.inv.other _ (by show I ≠ I + 1; omega), HJ.out.keep.setNew _ _ (by omega) _, by simpa using HJ.out.size⟩⟩
                  case measure => simp [intOf]; omega
                · obtain rfl : j = b.toNat + 1 := by omega
                  have HJ := Lib.hid hbj
                  have HSK := Lib.hid (skip_any wr p s 93 93 r' rfl hs hbj.ps)
                  have HNX := Lib.hid (HRR.out.next HIT.out HL5.out HN5.out)
                  have HSL : Hid ((skipped 93 r').2.length ≤ (r').length) := Lib.hid (skipped_le 93 _)
                  rw [addTo_end] at hbj
                  have HJ2 := Lib.hid hbj
                  clear hbj
                  generalize skipped 93 r' = sk at *
                  obtain ⟨en', l'⟩ := sk
                  go_wp2_with fail
                  refine (HSK.out).mono ?_
                  rintro e w8 ⟨rfl, hk8, hp8⟩
                  have HB8 := Lib.hid (HJ2.out.step hk8 hp8 (by omega) (by omega))
                  clear hk8 hp8
                  go_wp2_with fail
                  go_roundw
                  case rel => exact ⟨en', _, l', rfl, HB8.out, HNX.out⟩
                  case measure =>
                    rw [HB8.out.ps.ahead, HB.out.ps.ahead]
                    have h1 := HN5.out
                    have h2 : l'.length ≤ _ := HSL.out
                    omega
    · have HB := Lib.hid hb
      have hR : R = some (g, lc) := by
        rcases hrr with ⟨_, h⟩ | ⟨h, _⟩
        · exact h
        · cases h
      have HRS := Lib.hid hR
      have HW := Lib.hid (where_class (I + 1) I g inv wr hb.set hb.inv)
      clear hb hrr hR
      go_wp2_with fail
      refine (HW.out).mono ?_
      rintro e w5 ⟨rfl, hb5, hat5⟩
      have HB5 := Lib.hid hb5
      have HA5 := Lib.hid hat5
      clear hb5 hat5
      go_wp2_with fail
      go_ret2
      refine UPost.yes _ (by rw [HE2.out, HRS.out]; rfl) ((HB.out.keep.trans (Keep.below HB5.out)).alloc _) (isU_cls ?_ _ HB5.out HA5.out rfl rfl) ((HB.out.ps.below HB5.out).alloc _)
      exact HB.out.keep.size
end Go.Proofs.YthckgmbadmilfaaGreat

namespace Go.Proofs
open Go.Shelf
def Tryz.lays137_ren : Go.Shelf.Ren := ⟨fun | 137 => 179 | 217 => 187 | 266 => 188 | n => n, fun | 9 => 9 | 5 => 5 | 3 => 3 | n => n, fun | n => n⟩
theorem Tryz.lays137 : Go.Proofs.Lays.n137 Tryz.prog Tryz.lays137_ren := {
  mixed := by kernel_rfl
  f137 := Tryz.func179.trans (congrArg some (by kernel_rfl))
  f217 := Tryz.func187.trans (congrArg some (by kernel_rfl))
  f266 := Tryz.func188.trans (congrArg some (by kernel_rfl))
  t3 := Tryz.underlying3
  a3 := Tryz.isAgg3
  z3 := Tryz.sizeOf3
  v3 := Tryz.zeroValue3
  t5 := Tryz.underlying5
  a5 := Tryz.isAgg5
  z5 := Tryz.sizeOf5
  v5 := Tryz.zeroValue5
  t9 := Tryz.underlying9
  a9 := Tryz.isAgg9
  z9 := Tryz.sizeOf9
  v9 := Tryz.zeroValue9 }
open Go.RowKit in
/-- strings.IndexByte: "IndexByte returns the index of the first instance of c in s, or -1 if c is not present in s.": IT RETURNS 'Lib.indexByte s c'; the world is as it was. (LAID: no walk: one application.) -/
theorem Tryz.strings_IndexByte (s : ByteArray) (c : Int) (w : World) :
    Calls Tryz.prog 179 #[.string s, .int .u8 c] w fun e w' => e = .returned (.int .i64 (Lib.indexByte s.data.toList c.toNat.toUInt8)) ∧ w' = w := Any.strings_IndexByte Tryz.lays137 s c w
def Tryz.lays217_ren : Go.Shelf.Ren := ⟨fun | 217 => 187 | 266 => 188 | n => n, fun | 9 => 9 | 5 => 5 | 3 => 3 | n => n, fun | n => n⟩
theorem Tryz.lays217 : Go.Proofs.Lays.n217 Tryz.prog Tryz.lays217_ren := {
  mixed := by kernel_rfl
  f217 := Tryz.func187.trans (congrArg some (by kernel_rfl))
  f266 := Tryz.func188.trans (congrArg some (by kernel_rfl))
  t3 := Tryz.underlying3
  a3 := Tryz.isAgg3
  z3 := Tryz.sizeOf3
  v3 := Tryz.zeroValue3
  t5 := Tryz.underlying5
  a5 := Tryz.isAgg5
  z5 := Tryz.sizeOf5
  v5 := Tryz.zeroValue5
  t9 := Tryz.underlying9
  a9 := Tryz.isAgg9
  z9 := Tryz.sizeOf9
  v9 := Tryz.zeroValue9 }
open Go.RowKit Go.Lib in
/-- internal/stringslite.IndexByte (what strings.IndexByte calls): IT RETURNS 'Lib.indexByte s c'; the world is as it was. (LAID: no walk: one application.) -/
theorem Tryz.stringslite_IndexByte (s : ByteArray) (c : Int) (w : World) :
    Calls Tryz.prog 187 #[.string s, .int .u8 c] w fun e w' => e = .returned (.int .i64 (Lib.indexByte s.data.toList c.toNat.toUInt8)) ∧ w' = w := Any.stringslite_IndexByte Tryz.lays217 s c w
def Tryz.lays206_ren : Go.Shelf.Ren := ⟨fun | 206 => 133 | n => n, fun | 9 => 9 | 4 => 4 | 3 => 3 | n => n, fun | n => n⟩
theorem Tryz.lays206 : Go.Proofs.Lays.n206 Tryz.prog Tryz.lays206_ren := {
  mixed := by kernel_rfl
  f206 := Tryz.func133.trans (congrArg some (by kernel_rfl))
  t3 := Tryz.underlying3
  a3 := Tryz.isAgg3
  z3 := Tryz.sizeOf3
  v3 := Tryz.zeroValue3
  t4 := Tryz.underlying4
  a4 := Tryz.isAgg4
  z4 := Tryz.sizeOf4
  v4 := Tryz.zeroValue4
  t9 := Tryz.underlying9
  a9 := Tryz.isAgg9
  z9 := Tryz.sizeOf9
  v9 := Tryz.zeroValue9 }
open Go.RowKit Go.Lib in
/-- internal/stringslite.HasPrefix (what strings.HasPrefix calls). (LAID: no walk: one application.) -/
theorem Tryz.stringslite_HasPrefix (s p : ByteArray) (w : World) :
    Calls Tryz.prog 133 #[.string s, .string p] w fun e w' => e = .returned (.bool (Lib.hasPrefix s.data.toList p.data.toList)) ∧ w' = w := Any.stringslite_HasPrefix Tryz.lays206 s p w
def Tryz.lays99_ren : Go.Shelf.Ren := ⟨fun | 99 => 99 | 206 => 133 | n => n, fun | 9 => 9 | 4 => 4 | 3 => 3 | n => n, fun | n => n⟩
theorem Tryz.lays99 : Go.Proofs.Lays.n99 Tryz.prog Tryz.lays99_ren := {
  mixed := by kernel_rfl
  f99 := Tryz.func99.trans (congrArg some (by kernel_rfl))
  f206 := Tryz.func133.trans (congrArg some (by kernel_rfl))
  t3 := Tryz.underlying3
  a3 := Tryz.isAgg3
  z3 := Tryz.sizeOf3
  v3 := Tryz.zeroValue3
  t4 := Tryz.underlying4
  a4 := Tryz.isAgg4
  z4 := Tryz.sizeOf4
  v4 := Tryz.zeroValue4
  t9 := Tryz.underlying9
  a9 := Tryz.isAgg9
  z9 := Tryz.sizeOf9
  v9 := Tryz.zeroValue9 }
open Go.RowKit Go.Lib in
/-- strings.HasPrefix: "HasPrefix reports whether the string s begins with prefix.": IT RETURNS 'Lib.hasPrefix s prefix'; the world is as it was. (LAID: no walk: one application.) -/
theorem Tryz.strings_HasPrefix (s p : ByteArray) (w : World) :
    Calls Tryz.prog 99 #[.string s, .string p] w fun e w' => e = .returned (.bool (Lib.hasPrefix s.data.toList p.data.toList)) ∧ w' = w := Any.strings_HasPrefix Tryz.lays99 s p w
end Go.Proofs
