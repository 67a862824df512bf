/- The parser's walks: atom, factor. The parser's walks: factor. -/
import Derived.Test.YthckgmbadmilfaaGreatMAL
import Derived.Test.YthckgmbadmilfaaGreatMAG
namespace Go.Proofs.YthckgmbadmilfaaGreat
open Go.RowKit Rx

/-- What choice hands back. -/
def APost (p : Nat) (s : ByteArray) (W : World) (res : Option (As × List UInt8)) (e : Ending) (w' : World) : Prop :=
  Keep p W w' ∧ match res with
  | none => e = .returned (.tuple #[.pointer none, .bool false])
  | some (a, l') => ∃ v, e = .returned (.tuple #[v, .bool true]) ∧ IsA (Fresh W w') w' a v ∧ PS w' p s l'
/-- What sequence hands back. -/
def SPost (p : Nat) (s : ByteArray) (W : World) (res : Option (Ss × List UInt8)) (e : Ending) (w' : World) : Prop :=
  Keep p W w' ∧ match res with
  | none => e = .returned (.tuple #[.pointer none, .bool false])
  | some (x, l') => ∃ v, e = .returned (.tuple #[v, .bool true]) ∧ Node (Fresh W w') w' 1 v (fun xs => IsSl (Fresh W w') w' x xs) ∧ PS w' p s l'
theorem Fresh.mono {W W1 w' : World} (h : W.heap.size ≤ W1.heap.size) {k : Nat} (hk : Fresh W1 w' k) : Fresh W w' k := ⟨Nat.le_trans h hk.1, hk.2⟩
theorem UPost.ofKeep {p : Nat} {s : ByteArray} {W W1 w' : World} {res : Option (U × List UInt8)} {e : Ending} (h : UPost p s W1 res e w') (hk : Keep p W W1) : UPost p s W res e w' := by
  obtain ⟨h1, h2⟩ := h
  refine ⟨hk.trans h1, ?_⟩
  rcases res with _ | ⟨u, l'⟩
  · exact h2
  · obtain ⟨v, h3, h4, h5⟩ := h2
    exact ⟨v, h3, IsU.same (Same.refl _ _) (fun k => Fresh.mono hk.size) u v h4, h5⟩

theorem special_no {c : UInt8} (h : special c = false) : Lib.indexByte [46, 91, 93, 40, 41, 124, 42, 43, 63, 92] c = -1 := by
  have h2 : c ∉ [46, 91, 93, 40, 41, 124, 42, 43, 63, 92] := fun hm => by
    unfold special at h
    rw [List.contains_iff_mem.2 hm] at h; cases h
  have g : ∀ (l : List UInt8), c ∉ l → Lib.indexByte l c = -1 := by
    intro l
    induction l with
    | nil => intro _; rfl
    | cons b l ih =>
      intro hm
      rw [List.mem_cons, not_or] at hm
      unfold Lib.indexByte
      rw [if_neg (by rw [beq_iff_eq]; exact fun e => hm.1 e.symm), ih hm.2]; rfl
  exact g _ h2
theorem special_yes {c : UInt8} (h : special c = true) : 0 ≤ Lib.indexByte [46, 91, 93, 40, 41, 124, 42, 43, 63, 92] c := by
  have h2 : c ∈ [46, 91, 93, 40, 41, 124, 42, 43, 63, 92] := by
    unfold special at h
    exact List.contains_iff_mem.1 h
  have g : ∀ (l : List UInt8), c ∈ l → 0 ≤ Lib.indexByte l c := by
    intro l
    induction l with
    | nil => intro hm; cases hm
    | cons b l ih =>
      intro hm
      unfold Lib.indexByte
      split
      · exact Int.le_refl _
      · rename_i hb
        have hcl : c ∈ l := by
          rcases List.mem_cons.1 hm with e | e
          · exact absurd (by rw [beq_iff_eq]; exact e.symm) hb
          · exact e
        have := ih hcl
        rw [if_neg (by rw [beq_iff_eq]; omega)]
        omega
  exact g _ h2
theorem byte_back (c : UInt8) : (c.toNat : Int).toNat.toUInt8 = c := by simp
theorem index_no (c : UInt8) (w : World) (h : special c = false) :
    Calls Tryz.prog 179 #[.string ⟨#[46, 91, 93, 40, 41, 124, 42, 43, 63, 92]⟩, .int .u8 c.toNat] w fun e w' => e = .returned (.int .i64 (-1)) ∧ w' = w := by
  refine (Tryz.strings_IndexByte _ _ w).mono ?_
  rintro e w' ⟨rfl, rfl⟩
  rw [byte_back]
  exact ⟨ret_int (special_no h), rfl⟩
theorem index_yes (c : UInt8) (w : World) (h : special c = true) :
    Calls Tryz.prog 179 #[.string ⟨#[46, 91, 93, 40, 41, 124, 42, 43, 63, 92]⟩, .int .u8 c.toNat] w fun e w' => (∃ n : Nat, e = .returned (.int .i64 n)) ∧ w' = w := by
  refine (Tryz.strings_IndexByte _ _ w).mono ?_
  rintro e w' ⟨rfl, rfl⟩
  rw [byte_back]
  have := special_yes h
  exact ⟨⟨(Lib.indexByte [46, 91, 93, 40, 41, 124, 42, 43, 63, 92] c).toNat, ret_int (by show Lib.indexByte [46, 91, 93, 40, 41, 124, 42, 43, 63, 92] c = _; omega)⟩, rfl⟩

/-- choice does what is told, with so many steps. -/
def AltOK (n : Nat) : Prop := ∀ (W : World) (p : Nat) (s : ByteArray) (l : List UInt8), s.size ≤ 1000 → PS W p s l → 4 * l.length + 3 ≤ n → Calls Tryz.prog 136 #[ptr p] W (APost p s W (alts n l))
def SeqOK (n : Nat) : Prop := ∀ (W : World) (p : Nat) (s : ByteArray) (l : List UInt8), s.size ≤ 1000 → PS W p s l → 4 * l.length + 2 ≤ n → Calls Tryz.prog 155 #[ptr p] W (SPost p s W (seqs n l))
def AtomOK (n : Nat) : Prop := ∀ (W : World) (p : Nat) (s : ByteArray) (l : List UInt8), s.size ≤ 1000 → PS W p s l → 4 * l.length + 1 ≤ n → Calls Tryz.prog 174 #[ptr p] W (UPost p s W (atom n l))
theorem AtomOK.mono {n : Nat} : AtomOK n → AtomOK n := id

theorem atom_grp (n : Nat) (r : List UInt8) : atom (n + 1) (40 :: r) = (alts n r).bind fun (a, r') => if (skipped 41 r').1 then some (.grp a, (skipped 41 r').2) else none := by
  simp only [atom]
  rw [if_pos trivial]
  rcases alts n r with _ | ⟨a, r'⟩
  · rfl
  simp only [Option.bind_some]
  rcases r' with _ | ⟨c, t⟩
  · rfl
  · by_cases hc : c = 41
    · subst hc; rfl
    · simp only [skipped, if_neg hc]
      split
      · rename_i h
        exact absurd (List.cons.inj h).1 hc
      · rfl

set_option maxHeartbeats 1000000 in
theorem atom_ok (n : Nat) (hA : AltOK n) : AtomOK (n + 1) := by
  intro W p s l hs h hn
  rcases l with _ | ⟨c, r⟩
  · unfold ptr
    go_enter Tryz.func174, Tryz.ntmps174
    go_wp2_with fail
    refine (peek_end W p s h).mono ?_
    rintro e w' ⟨rfl, n, rfl⟩
    go_wp2_with fail
    go_ret2
    exact UPost.no rfl ((Keep.refl _ _).drewN _)
  have c1 : W.cell? ⟨p, 1, none⟩ = some (.int .i64 ((s.size - (c :: r).length : Nat) : Int)) := h.at_.cell 1
  have c2 := h.at_.free 1
  have hle : s.size - (c :: r).length ≤ 1000 := by omega
  have HB : Hid (((s.size - (c :: r).length : Nat) : Int) + 1 = ((s.size - r.length : Nat) : Int)) := Lib.hid (by rw [h.next.2.2]; omega)
  have HP := Lib.hid h
  have HN : Hid (4 * r.length + 3 ≤ n) := Lib.hid (by simp only [List.length_cons] at hn; omega)
  have HA := Lib.hid hA
  clear h hn hA
  generalize s.size - (c :: r).length = k at *
  by_cases h1 : c.toNat = 40
  · have d1 : ((c.toNat : Int) == 40) = true := by rw [h1]; rfl
    have HE : Hid (atom (n + 1) (c :: r) = (alts n r).bind fun (a, r') => if (skipped 41 r').1 then some (.grp a, (skipped 41 r').2) else none) := Lib.hid (by rw [show c = 40 from u8_eq (by decide) h1]; exact atom_grp n r)
    clear h1
    unfold ptr
    go_enter Tryz.func174, Tryz.ntmps174
    go_wp2_with fail
    refine (peek_in W p s c r HP.out).mono ?_
    rintro e w' ⟨rfl, m, rfl⟩
    go_wp2_with fail
    have HP1 := Lib.hid (HP.out.bump m _ HB.out)
    have HK1 : Hid (Keep p W ((W.drewN m).setCell ⟨p, 1, none⟩ (.int .i64 ((k : Int) + 1)))) := Lib.hid (((Keep.refl p W).drewN m).set _ _)
    generalize ((W.drewN m).setCell ⟨p, 1, none⟩ (.int .i64 ((k : Int) + 1))) = W1 at *
    refine (HA.out W1 p s r hs HP1.out HN.out).mono ?_
    rintro e w2 ⟨hk2, h2⟩
    have HK2 := Lib.hid hk2
    clear hk2
    rcases hal : alts n r with _ | ⟨a, r'⟩
    · rw [hal] at h2
      simp only at h2
      subst h2
      have HAL := Lib.hid hal
      clear hal
      go_wp2_with fail
      go_ret2
      exact UPost.no (by rw [HE.out, HAL.out]; rfl) (HK1.out.trans HK2.out)
    · rw [hal] at h2
      simp only at h2
      obtain ⟨v, rfl, hia, hp2⟩ := h2
      have HAL := Lib.hid hal
      have HIA := Lib.hid hia
      have HSK := Lib.hid (skip_any w2 p s 41 41 r' rfl hs hp2)
      clear hal hia hp2
      generalize hsk : skipped 41 r' = sk at *
      obtain ⟨b, l'⟩ := sk
      have HSE := Lib.hid hsk
      clear hsk
      go_wp2_with fail
      refine (HSK.out).mono ?_
      rintro e w3 ⟨rfl, hk3, hp3⟩
      have HK3 := Lib.hid hk3
      have HP3 := Lib.hid hp3
      clear hk3 hp3
      cases b
      · go_wp2_with fail
        go_ret2
        exact UPost.no (by rw [HE.out, HAL.out]; simp [HSE.out]) ((HK1.out.trans HK2.out).trans HK3.out)
      · go_wp2_with fail
        go_ret2
        refine UPost.yes v (by rw [HE.out, HAL.out]; simp only [Option.bind_some]; rw [HSE.out]; rfl) ((HK1.out.trans HK2.out).trans HK3.out) ?_ HP3.out
        unfold IsU
        have hf := Fresh.keep (W := W1) HK3.out HP1.out.lt
        exact IsA.same hf.1 (fun k hk => Fresh.mono HK1.out.size (hf.2 k hk)) a v HIA.out
  have e1 : ((c.toNat : Int) == 40) = false := by rw [beq_eq_false_iff_ne]; omega
  have g1 : ¬ c = 40 := fun h => h1 (by rw [h]; rfl)
  clear h1 HA
  by_cases h2 : c.toNat = 91
  · have d1 : ((c.toNat : Int) == 91) = true := by rw [h2]; rfl
    have HE : Hid (atom (n + 1) (c :: r) = bracket r) := Lib.hid (by simp only [atom]; rw [if_neg g1, show c = 91 from u8_eq (by decide) h2]; rfl)
    clear h2 g1
    unfold ptr
    go_enter Tryz.func174, Tryz.ntmps174
    go_wp2_with fail
    refine (peek_in W p s c r HP.out).mono ?_
    rintro e w' ⟨rfl, m, rfl⟩
    go_wp2_with fail
    have HP1 := Lib.hid (HP.out.bump m _ HB.out)
    have HK1 : Hid (Keep p W ((W.drewN m).setCell ⟨p, 1, none⟩ (.int .i64 ((k : Int) + 1)))) := Lib.hid (((Keep.refl p W).drewN m).set _ _)
    generalize ((W.drewN m).setCell ⟨p, 1, none⟩ (.int .i64 ((k : Int) + 1))) = W1 at *
    refine (bracket_any W1 p s r hs HP1.out).mono ?_
    intro e w2 h2
    have H2 := Lib.hid (h2.ofKeep HK1.out)
    rcases hbr : bracket r with _ | ⟨u, l'⟩
    · rw [hbr] at h2
      obtain ⟨_, h2⟩ := h2
      simp only at h2
      subst h2
      clear hbr
      go_wp2_with fail
      go_ret2
      rw [HE.out]
      exact H2.out
    · rw [hbr] at h2
      obtain ⟨_, v, rfl, _, _⟩ := h2
      clear hbr
      go_wp2_with fail
      go_ret2
      rw [HE.out]
      exact H2.out
  have e2 : ((c.toNat : Int) == 91) = false := by rw [beq_eq_false_iff_ne]; omega
  have g2 : ¬ c = 91 := fun h => h2 (by rw [h]; rfl)
  clear h2
  by_cases h3 : c.toNat = 46
  · have d1 : ((c.toNat : Int) == 46) = true := by rw [h3]; rfl
    have HE : Hid (atom (n + 1) (c :: r) = some (.cls fun _ => true, r)) := Lib.hid (by simp only [atom]; rw [if_neg g1, if_neg g2, show c = 46 from u8_eq (by decide) h3]; rfl)
    clear h3 g1 g2
    unfold ptr
    go_enter Tryz.func174, Tryz.ntmps174
    go_wp2_with fail
    refine (peek_in W p s c r HP.out).mono ?_
    rintro e w' ⟨rfl, m, rfl⟩
    go_wp2_with fail
    refine (where_any 177 (fun _ => true) _ (fun c w => enter_f _ c w (.inr (.inr rfl))) all_any).mono ?_
    rintro e w' ⟨rfl, hb, hat⟩
    go_wp2_with fail
    go_ret2
    exact post_cls HP.out HB.out HE.out hb hat rfl (by simp [ptr])
  have e3 : ((c.toNat : Int) == 46) = false := by rw [beq_eq_false_iff_ne]; omega
  have g3 : ¬ c = 46 := fun h => h3 (by rw [h]; rfl)
  clear h3
  by_cases h4 : c.toNat = 92
  · have d1 : ((c.toNat : Int) == 92) = true := by rw [h4]; rfl
    rcases r with _ | ⟨d, r'⟩
    · have HE : Hid (atom (n + 1) [c] = none) := Lib.hid (by simp only [atom]; rw [if_neg g1, if_neg g2, if_neg g3, show c = 92 from u8_eq (by decide) h4]; rfl)
      clear h4 g1 g2 g3
      unfold ptr
      go_enter Tryz.func174, Tryz.ntmps174
      go_wp2_with fail
      refine (peek_in W p s c _ HP.out).mono ?_
      rintro e w' ⟨rfl, m, rfl⟩
      go_wp2_with fail
      have HP1 := Lib.hid (HP.out.bump m _ HB.out)
      have HK1 : Hid (Keep p W ((W.drewN m).setCell ⟨p, 1, none⟩ (.int .i64 ((k : Int) + 1)))) := Lib.hid (((Keep.refl p W).drewN m).set _ _)
      generalize ((W.drewN m).setCell ⟨p, 1, none⟩ (.int .i64 ((k : Int) + 1))) = W1 at *
      refine (escape_end W1 p s HP1.out).mono ?_
      rintro e w2 ⟨hk2, h2⟩
      simp only at h2
      subst h2
      have HK2 := Lib.hid hk2
      clear hk2
      go_wp2_with fail
      go_ret2
      exact UPost.no HE.out (HK1.out.trans HK2.out)
    · have HE : Hid (atom (n + 1) (c :: d :: r') = (escU d).map fun u => (u, r')) := Lib.hid (by simp only [atom]; rw [if_neg g1, if_neg g2, if_neg g3, show c = 92 from u8_eq (by decide) h4]; rfl)
      clear h4 g1 g2 g3
      unfold ptr
      go_enter Tryz.func174, Tryz.ntmps174
      go_wp2_with fail
      refine (peek_in W p s c _ HP.out).mono ?_
      rintro e w' ⟨rfl, m, rfl⟩
      go_wp2_with fail
      have HP1 := Lib.hid (HP.out.bump m _ HB.out)
      have HK1 : Hid (Keep p W ((W.drewN m).setCell ⟨p, 1, none⟩ (.int .i64 ((k : Int) + 1)))) := Lib.hid (((Keep.refl p W).drewN m).set _ _)
      generalize ((W.drewN m).setCell ⟨p, 1, none⟩ (.int .i64 ((k : Int) + 1))) = W1 at *
      refine (escape_in W1 p s d r' hs HP1.out).mono ?_
      intro e w2 h2
      have H2 := Lib.hid (h2.ofKeep HK1.out)
      rcases hbr : (escU d).map fun u => (u, r') with _ | ⟨u, l'⟩
      · rw [hbr] at h2
        obtain ⟨_, h2⟩ := h2
        simp only at h2
        subst h2
        clear hbr
        go_wp2_with fail
        go_ret2
        rw [HE.out]
        exact H2.out
      · rw [hbr] at h2
        obtain ⟨_, v, rfl, _, _⟩ := h2
        clear hbr
        go_wp2_with fail
        go_ret2
        rw [HE.out]
        exact H2.out
  have e4 : ((c.toNat : Int) == 92) = false := by rw [beq_eq_false_iff_ne]; omega
  have g4 : ¬ c = 92 := fun h => h4 (by rw [h]; rfl)
  clear h4
  have HE0 : Hid (atom (n + 1) (c :: r) = if special c then none else some (.byte c, r)) := Lib.hid (by simp only [atom]; rw [if_neg g1, if_neg g2, if_neg g3, if_neg g4])
  clear g1 g2 g3 g4
  cases hsp : special c
  · have HE : Hid (atom (n + 1) (c :: r) = some (.byte c, r)) := Lib.hid (by rw [HE0.out, hsp]; rfl)
    have HI := Lib.hid (fun w => index_no c w hsp)
    clear hsp HE0
    unfold ptr
    go_enter Tryz.func174, Tryz.ntmps174
    go_wp2_with fail
    refine (peek_in W p s c _ HP.out).mono ?_
    rintro e w' ⟨rfl, m, rfl⟩
    go_wp2_with fail
    refine (HI.out _).mono ?_
    rintro e w' ⟨rfl, rfl⟩
    go_wp2_with fail
    refine (plainByte_any _ _).mono ?_
    rintro e w' ⟨rfl, rfl⟩
    go_wp2_with fail
    go_ret2
    exact post_byte HP.out HB.out HE.out rfl rfl
  · have HE : Hid (atom (n + 1) (c :: r) = none) := Lib.hid (by rw [HE0.out, hsp]; rfl)
    have HI := Lib.hid (fun w => index_yes c w hsp)
    clear hsp HE0
    unfold ptr
    go_enter Tryz.func174, Tryz.ntmps174
    go_wp2_with fail
    refine (peek_in W p s c _ HP.out).mono ?_
    rintro e w' ⟨rfl, m, rfl⟩
    go_wp2_with fail
    refine (HI.out _).mono ?_
    rintro e w' ⟨⟨j, rfl⟩, rfl⟩
    go_wp2_with fail
    go_ret2
    exact UPost.no HE.out (((Keep.refl p W).drewN m).set _ _)
end Go.Proofs.YthckgmbadmilfaaGreat

namespace Go.Proofs.YthckgmbadmilfaaGreat
open Go.RowKit Rx

theorem skipped_no {k : UInt8} {l : List UInt8} (h : (skipped k l).1 = false) : (skipped k l).2 = l := by
  unfold skipped at h ⊢
  rcases l with _ | ⟨c, t⟩
  · rfl
  · simp only at h ⊢
    split
    · rename_i hc; rw [if_pos hc] at h; cases h
    · rfl
theorem quant_eq (u : U) (l : List UInt8) : quant u l = if (skipped 42 l).1 then (.star u, (skipped 42 l).2) else if (skipped 43 l).1 then (.plus u, (skipped 43 l).2) else if (skipped 63 l).1 then (.opt u, (skipped 63 l).2) else (u, l) := by
  rcases l with _ | ⟨c, t⟩
  · rfl
  · by_cases h1 : c = 42
    · subst h1; rfl
    · by_cases h2 : c = 43
      · subst h2; rfl
      · by_cases h3 : c = 63
        · subst h3; rfl
        · simp only [skipped, if_neg h1, if_neg h2, if_neg h3]
          unfold quant
          split
          · rename_i h; exact absurd (List.cons.inj h).1 h1
          · rename_i h; exact absurd (List.cons.inj h).1 h2
          · rename_i h; exact absurd (List.cons.inj h).1 h3
          · rfl
/-- A slice made with one element. -/
theorem owns_one (w : World) (x : Value) : (w.alloc (.cells #[x] 115)).ownsRow 0 115 1 (.slice (some ⟨w.heap.size, 0, none⟩) 1 1) 1 [x] :=
  ⟨rfl, .inr ⟨w.heap.size, 1, #[x], rfl, Nat.zero_le _, heap_alloc_new _ _, Nat.le_refl _, by decide, rfl, rfl⟩⟩
theorem node_one {W w3 : World} {u : U} {x v sv : Value} {kind : Int} (hW : W.heap.size ≤ w3.heap.size) (hu : IsU (Fresh W w3) w3 u x) (hsv : sv = .slice (some ⟨w3.heap.size, 0, none⟩) 1 1) (hv : v = ptr (w3.heap.size + 1)) :
    Node (Fresh W ((w3.alloc (.cells #[x] 115)).alloc (.cells (nd kind false 0 (.pointer none) sv) 121))) ((w3.alloc (.cells #[x] 115)).alloc (.cells (nd kind false 0 (.pointer none) sv) 121)) kind v fun xs => ∃ y, xs = [y] ∧ IsU (Fresh W ((w3.alloc (.cells #[x] 115)).alloc (.cells (nd kind false 0 (.pointer none) sv) 121))) ((w3.alloc (.cells #[x] 115)).alloc (.cells (nd kind false 0 (.pointer none) sv) 121)) u y := by
  subst hsv hv
  have hb : Below w3.heap.size w3 ((w3.alloc (.cells #[x] 115)).alloc (.cells (nd kind false 0 (.pointer none) (.slice (some ⟨w3.heap.size, 0, none⟩) 1 1)) 121)) := ((Below.refl _ _).alloc (Nat.le_refl _) _).alloc (by rw [alloc_size]; omega) _
  have hat := At.new (w3.alloc (.cells #[x] 115)) (nd kind false 0 (.pointer none) (.slice (some ⟨w3.heap.size, 0, none⟩) 1 1)) 121
  rw [alloc_size] at hat
  refine ⟨w3.heap.size + 1, .slice (some ⟨w3.heap.size, 0, none⟩) 1 1, [x], ⟨by omega, by rw [alloc_size, alloc_size]; omega⟩, rfl, hat, ⟨(owns_one w3 x).alloc _, ?_⟩, x, rfl, ?_⟩
  · intro g hg
    injection hg with hg
    subst hg
    exact ⟨hW, by rw [alloc_size, alloc_size]; show w3.heap.size < _; omega⟩
  · have hf : Same (Fresh W w3) w3 _ := Same.below hb fun k hk => hk.2
    exact IsU.same hf (fun k hk => ⟨hk.1, Nat.lt_of_lt_of_le hk.2 hb.size⟩) u x hu

theorem IsA.ptr {S : Nat → Prop} {W : World} (a : As) (v : Value) (h : IsA S W a v) : ∃ b, v = Go.Proofs.YthckgmbadmilfaaGreat.ptr b := by
  rcases a with s | ⟨s, a⟩
  all_goals
    unfold IsA at h
    obtain ⟨b, _, _, _, rfl, _⟩ := h
    exact ⟨b, rfl⟩
theorem IsU.ptr {S : Nat → Prop} {W : World} (u : U) (v : Value) (h : IsU S W u v) : ∃ b, v = Go.Proofs.YthckgmbadmilfaaGreat.ptr b := by
  rcases u with c | f | a | u | u | u
  · unfold IsU at h
    obtain ⟨b, _, rfl, _⟩ := h
    exact ⟨b, rfl⟩
  · unfold IsU at h
    obtain ⟨b, _, _, _, rfl, _⟩ := h
    exact ⟨b, rfl⟩
  · unfold IsU at h
    exact IsA.ptr a v h
  all_goals
    unfold IsU at h
    obtain ⟨b, _, _, _, rfl, _⟩ := h
    exact ⟨b, rfl⟩

set_option maxHeartbeats 1000000 in
theorem factor_ok (n : Nat) (hA : AtomOK n) (W : World) (p : Nat) (s : ByteArray) (l : List UInt8) (hs : s.size ≤ 1000) (h : PS W p s l) (hn : 4 * l.length + 1 ≤ n) :
    Calls Tryz.prog 168 #[ptr p] W (UPost p s W ((atom n l).map fun x => quant x.1 x.2)) := by
  have HA := Lib.hid (hA W p s l hs h hn)
  have hpl := h.lt
  clear h hn hA
  unfold ptr
  go_enter Tryz.func168, Tryz.ntmps168
  go_wp2_with fail
  refine (HA.out).mono ?_
  rintro e w1 ⟨hk1, h1⟩
  have HK1 := Lib.hid hk1
  clear hk1
  rcases hat : atom n l with _ | ⟨u, r⟩
  · rw [hat] at h1
    simp only at h1
    subst h1
    have HAT := Lib.hid hat
    clear hat
    go_wp2_with fail
    go_ret2
    exact UPost.no (by rw [HAT.out]; rfl) HK1.out
  · rw [hat] at h1
    simp only at h1
    obtain ⟨v, rfl, hu, hp1⟩ := h1
    obtain ⟨vb, rfl⟩ := IsU.ptr u v hu
    have HU := Lib.hid hu
    unfold ptr
    have HS1 := Lib.hid (skip_any w1 p s 42 42 r rfl hs hp1)
    have HQ : Hid ((atom n l).map (fun x => quant x.1 x.2) = some _) := Lib.hid (by rw [hat]; show some (quant u r) = _; rw [quant_eq])
    clear hat hu hp1 HA
    go_wp2_with fail
    refine (HS1.out).mono ?_
    rintro e w2 ⟨rfl, hk2, hp2⟩
    have hf2 := Fresh.keep (W := W) hk2 hpl
    have HU2 := Lib.hid (IsU.same hf2.1 hf2.2 u _ HU.out)
    have HK2 := Lib.hid (HK1.out.trans hk2)
    have HP2 := Lib.hid hp2
    clear hk2 hp2 hf2
    cases hb1 : (skipped 42 r).1
    · have hn1 := skipped_no hb1
      rw [hn1] at HP2
      have HB1 := Lib.hid hb1
      have HS2 := Lib.hid (skip_any w2 p s 43 43 r rfl hs HP2.out)
      clear hn1 hb1
      go_wp2_with fail
      refine (HS2.out).mono ?_
      rintro e w3 ⟨rfl, hk3, hp3⟩
      have hf3 := Fresh.keep (W := W) hk3 hpl
      have HU3 := Lib.hid (IsU.same hf3.1 hf3.2 u _ HU2.out)
      have HK3 := Lib.hid (HK2.out.trans hk3)
      have HP3 := Lib.hid hp3
      clear hk3 hp3 hf3
      cases hb2 : (skipped 43 r).1
      · have hn2 := skipped_no hb2
        rw [hn2] at HP3
        have HB2 := Lib.hid hb2
        have HS3 := Lib.hid (skip_any w3 p s 63 63 r rfl hs HP3.out)
        clear hn2 hb2
        go_wp2_with fail
        refine (HS3.out).mono ?_
        rintro e w4 ⟨rfl, hk4, hp4⟩
        have hf4 := Fresh.keep (W := W) hk4 hpl
        have HU4 := Lib.hid (IsU.same hf4.1 hf4.2 u _ HU3.out)
        have HK4 := Lib.hid (HK3.out.trans hk4)
        have HP4 := Lib.hid hp4
        clear hk4 hp4 hf4
        cases hb3 : (skipped 63 r).1
        · have hn3 := skipped_no hb3
          rw [hn3] at HP4
          have HB3 := Lib.hid hb3
          clear hn3 hb3
          go_wp2_with fail
          go_ret2
          exact UPost.yes _ (by rw [HQ.out, HB1.out, HB2.out, HB3.out]; rfl) HK4.out HU4.out HP4.out
        · have HB3 := Lib.hid hb3
          clear hb3
          go_wp2_with fail
          go_ret2
          refine UPost.yes _ (by rw [HQ.out, HB1.out, HB2.out, HB3.out]; rfl) ((HK4.out.alloc _).alloc _) ?_ ((HP4.out.alloc _).alloc _)
          unfold IsU
          exact node_one HK4.out.size HU4.out rfl rfl
      · have HB2 := Lib.hid hb2
        clear hb2
        go_wp2_with fail
        go_ret2
        refine UPost.yes _ (by rw [HQ.out, HB1.out, HB2.out]; rfl) ((HK3.out.alloc _).alloc _) ?_ ((HP3.out.alloc _).alloc _)
        unfold IsU
        exact node_one HK3.out.size HU3.out rfl rfl
    · have HB1 := Lib.hid hb1
      clear hb1
      go_wp2_with fail
      go_ret2
      refine UPost.yes _ (by rw [HQ.out, HB1.out]; rfl) ((HK2.out.alloc _).alloc _) ?_ ((HP2.out.alloc _).alloc _)
      unfold IsU
      exact node_one HK2.out.size HU2.out rfl rfl
end Go.Proofs.YthckgmbadmilfaaGreat
