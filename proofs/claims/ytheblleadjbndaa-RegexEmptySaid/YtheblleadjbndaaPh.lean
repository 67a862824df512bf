/- The parser's walks: atom, factor. -/
import Derived.Test.YtheblleadjbndaaPg
import Derived.Test.YtheblleadjbndaaApp
import Derived.Test.YtheblleadjbndaaShelf
namespace Go.Proofs.Ytheblleadjbndaa
open Go.RowKit Rx

/-- What choice hands back. -/
def APost (p : Nat) (s : ByteArray) (W : World) (res : Option (As × List UInt8)) (e : Ending) (w' : World) : Prop :=
  Keep p W w' ∧ match res with
  | none => e = .returned (.tuple #[.pointer none, .bool false])
  | some (a, l') => ∃ v, e = .returned (.tuple #[v, .bool true]) ∧ IsA (Fresh W w') w' a v ∧ PS w' p s l'
/-- What sequence hands back. -/
def SPost (p : Nat) (s : ByteArray) (W : World) (res : Option (Ss × List UInt8)) (e : Ending) (w' : World) : Prop :=
  Keep p W w' ∧ match res with
  | none => e = .returned (.tuple #[.pointer none, .bool false])
  | some (x, l') => ∃ v, e = .returned (.tuple #[v, .bool true]) ∧ Node (Fresh W w') w' 1 v (fun xs => IsSl (Fresh W w') w' x xs) ∧ PS w' p s l'
theorem Fresh.mono {W W1 w' : World} (h : W.heap.size ≤ W1.heap.size) {k : Nat} (hk : Fresh W1 w' k) : Fresh W w' k := ⟨Nat.le_trans h hk.1, hk.2⟩
theorem UPost.ofKeep {p : Nat} {s : ByteArray} {W W1 w' : World} {res : Option (U × List UInt8)} {e : Ending} (h : UPost p s W1 res e w') (hk : Keep p W W1) : UPost p s W res e w' := by
  obtain ⟨h1, h2⟩ := h
  refine ⟨hk.trans h1, ?_⟩
  rcases res with _ | ⟨u, l'⟩
  · exact h2
  · obtain ⟨v, h3, h4, h5⟩ := h2
    exact ⟨v, h3, IsU.same (Same.refl _ _) (fun k => Fresh.mono hk.size) u v h4, h5⟩

theorem special_no {c : UInt8} (h : special c = false) : Lib.indexByte [46, 91, 93, 40, 41, 124, 42, 43, 63, 92] c = -1 := by
  have h2 : c ∉ [46, 91, 93, 40, 41, 124, 42, 43, 63, 92] := fun hm => by
    unfold special at h
    rw [List.contains_iff_mem.2 hm] at h; cases h
  have g : ∀ (l : List UInt8), c ∉ l → Lib.indexByte l c = -1 := by
    intro l
    induction l with
    | nil => intro _; rfl
    | cons b l ih =>
      intro hm
      rw [List.mem_cons, not_or] at hm
      unfold Lib.indexByte
      rw [if_neg (by rw [beq_iff_eq]; exact fun e => hm.1 e.symm), ih hm.2]; rfl
  exact g _ h2
theorem special_yes {c : UInt8} (h : special c = true) : 0 ≤ Lib.indexByte [46, 91, 93, 40, 41, 124, 42, 43, 63, 92] c := by
  have h2 : c ∈ [46, 91, 93, 40, 41, 124, 42, 43, 63, 92] := by
    unfold special at h
    exact List.contains_iff_mem.1 h
  have g : ∀ (l : List UInt8), c ∈ l → 0 ≤ Lib.indexByte l c := by
    intro l
    induction l with
    | nil => intro hm; cases hm
    | cons b l ih =>
      intro hm
      unfold Lib.indexByte
      split
      · exact Int.le_refl _
      · rename_i hb
        have hcl : c ∈ l := by
          rcases List.mem_cons.1 hm with e | e
          · exact absurd (by rw [beq_iff_eq]; exact e.symm) hb
          · exact e
        have := ih hcl
        rw [if_neg (by rw [beq_iff_eq]; omega)]
        omega
  exact g _ h2
theorem byte_back (c : UInt8) : (c.toNat : Int).toNat.toUInt8 = c := by simp
theorem index_no (c : UInt8) (w : World) (h : special c = false) :
    Calls Try.prog 34 #[.string ⟨#[46, 91, 93, 40, 41, 124, 42, 43, 63, 92]⟩, .int .u8 c.toNat] w fun e w' => e = .returned (.int .i64 (-1)) ∧ w' = w := by
  refine (Try.strings_IndexByte _ _ w).mono ?_
  rintro e w' ⟨rfl, rfl⟩
  rw [byte_back]
  exact ⟨ret_int (special_no h), rfl⟩
theorem index_yes (c : UInt8) (w : World) (h : special c = true) :
    Calls Try.prog 34 #[.string ⟨#[46, 91, 93, 40, 41, 124, 42, 43, 63, 92]⟩, .int .u8 c.toNat] w fun e w' => (∃ n : Nat, e = .returned (.int .i64 n)) ∧ w' = w := by
  refine (Try.strings_IndexByte _ _ w).mono ?_
  rintro e w' ⟨rfl, rfl⟩
  rw [byte_back]
  have := special_yes h
  exact ⟨⟨(Lib.indexByte [46, 91, 93, 40, 41, 124, 42, 43, 63, 92] c).toNat, ret_int (by show Lib.indexByte [46, 91, 93, 40, 41, 124, 42, 43, 63, 92] c = _; omega)⟩, rfl⟩

/-- choice does what is told, with so many steps. -/
def AltOK (n : Nat) : Prop := ∀ (W : World) (p : Nat) (s : ByteArray) (l : List UInt8), s.size ≤ 1000 → PS W p s l → 4 * l.length + 3 ≤ n → Calls Try.prog 38 #[ptr p] W (APost p s W (alts n l))
def SeqOK (n : Nat) : Prop := ∀ (W : World) (p : Nat) (s : ByteArray) (l : List UInt8), s.size ≤ 1000 → PS W p s l → 4 * l.length + 2 ≤ n → Calls Try.prog 49 #[ptr p] W (SPost p s W (seqs n l))
def AtomOK (n : Nat) : Prop := ∀ (W : World) (p : Nat) (s : ByteArray) (l : List UInt8), s.size ≤ 1000 → PS W p s l → 4 * l.length + 1 ≤ n → Calls Try.prog 65 #[ptr p] W (UPost p s W (atom n l))
theorem AtomOK.mono {n : Nat} : AtomOK n → AtomOK n := id

theorem atom_grp (n : Nat) (r : List UInt8) : atom (n + 1) (40 :: r) = (alts n r).bind fun (a, r') => if (skipped 41 r').1 then some (.grp a, (skipped 41 r').2) else none := by
  simp only [atom]
  rw [if_pos trivial]
  rcases alts n r with _ | ⟨a, r'⟩
  · rfl
  simp only [Option.bind_some]
  rcases r' with _ | ⟨c, t⟩
  · rfl
  · by_cases hc : c = 41
    · subst hc; rfl
    · simp only [skipped, if_neg hc]
      split
      · rename_i h
        exact absurd (List.cons.inj h).1 hc
      · rfl

set_option maxHeartbeats 1000000 in
theorem atom_ok (n : Nat) (hA : AltOK n) : AtomOK (n + 1) := by
  intro W p s l hs h hn
  rcases l with _ | ⟨c, r⟩
  · unfold ptr
    go_enter Try.func65, Try.ntmps65
    go_wp2_with fail
    refine (peek_end W p s h).mono ?_
    rintro e w' ⟨rfl, n, rfl⟩
    go_wp2_with fail
    go_ret2
    exact UPost.no rfl ((Keep.refl _ _).drewN _)
  have c1 : W.cell? ⟨p, 1, none⟩ = some (.int .i64 ((s.size - (c :: r).length : Nat) : Int)) := h.at_.cell 1
  have c2 := h.at_.free 1
  have hle : s.size - (c :: r).length ≤ 1000 := by omega
  have HB : Hid (((s.size - (c :: r).length : Nat) : Int) + 1 = ((s.size - r.length : Nat) : Int)) := Lib.hid (by rw [h.next.2.2]; omega)
  have HP := Lib.hid h
  have HN : Hid (4 * r.length + 3 ≤ n) := Lib.hid (by simp only [List.length_cons] at hn; omega)
  have HA := Lib.hid hA
  clear h hn hA
  generalize s.size - (c :: r).length = k at *
  by_cases h1 : c.toNat = 40
  · have d1 : ((c.toNat : Int) == 40) = true := by rw [h1]; rfl
    have HE : Hid (atom (n + 1) (c :: r) = (alts n r).bind fun (a, r') => if (skipped 41 r').1 then some (.grp a, (skipped 41 r').2) else none) := Lib.hid (by rw [show c = 40 from u8_eq (by decide) h1]; exact atom_grp n r)
    clear h1
    unfold ptr
    go_enter Try.func65, Try.ntmps65
    go_wp2_with fail
    refine (peek_in W p s c r HP.out).mono ?_
    rintro e w' ⟨rfl, m, rfl⟩
    go_wp2_with fail
    have HP1 := Lib.hid (HP.out.bump m _ HB.out)
    have HK1 : Hid (Keep p W ((W.drewN m).setCell ⟨p, 1, none⟩ (.int .i64 ((k : Int) + 1)))) := Lib.hid (((Keep.refl p W).drewN m).set _ _)
    generalize ((W.drewN m).setCell ⟨p, 1, none⟩ (.int .i64 ((k : Int) + 1))) = W1 at *
    refine (HA.out W1 p s r hs HP1.out HN.out).mono ?_
    rintro e w2 ⟨hk2, h2⟩
    have HK2 := Lib.hid hk2
    clear hk2
    rcases hal : alts n r with _ | ⟨a, r'⟩
    · rw [hal] at h2
      simp only at h2
      subst h2
      have HAL := Lib.hid hal
      clear hal
      go_wp2_with fail
      go_ret2
      exact UPost.no (by rw [HE.out, HAL.out]; rfl) (HK1.out.trans HK2.out)
    · rw [hal] at h2
      simp only at h2
      obtain ⟨v, rfl, hia, hp2⟩ := h2
      have HAL := Lib.hid hal
      have HIA := Lib.hid hia
      have HSK := Lib.hid (skip_any w2 p s 41 41 r' rfl hs hp2)
      clear hal hia hp2
      generalize hsk : skipped 41 r' = sk at *
      obtain ⟨b, l'⟩ := sk
      have HSE := Lib.hid hsk
      clear hsk
      go_wp2_with fail
      refine (HSK.out).mono ?_
      rintro e w3 ⟨rfl, hk3, hp3⟩
      have HK3 := Lib.hid hk3
      have HP3 := Lib.hid hp3
      clear hk3 hp3
      cases b
      · go_wp2_with fail
        go_ret2
        exact UPost.no (by rw [HE.out, HAL.out]; simp [HSE.out]) ((HK1.out.trans HK2.out).trans HK3.out)
      · go_wp2_with fail
        go_ret2
        refine UPost.yes v (by rw [HE.out, HAL.out]; simp only [Option.bind_some]; rw [HSE.out]; rfl) ((HK1.out.trans HK2.out).trans HK3.out) ?_ HP3.out
        unfold IsU
        have hf := Fresh.keep (W := W1) HK3.out HP1.out.lt
        exact IsA.same hf.1 (fun k hk => Fresh.mono HK1.out.size (hf.2 k hk)) a v HIA.out
  have e1 : ((c.toNat : Int) == 40) = false := by rw [beq_eq_false_iff_ne]; omega
  have g1 : ¬ c = 40 := fun h => h1 (by rw [h]; rfl)
  clear h1 HA
  by_cases h2 : c.toNat = 91
  · have d1 : ((c.toNat : Int) == 91) = true := by rw [h2]; rfl
    have HE : Hid (atom (n + 1) (c :: r) = bracket r) := Lib.hid (by simp only [atom]; rw [if_neg g1, show c = 91 from u8_eq (by decide) h2]; rfl)
    clear h2 g1
    unfold ptr
    go_enter Try.func65, Try.ntmps65
    go_wp2_with fail
    refine (peek_in W p s c r HP.out).mono ?_
    rintro e w' ⟨rfl, m, rfl⟩
    go_wp2_with fail
    have HP1 := Lib.hid (HP.out.bump m _ HB.out)
    have HK1 : Hid (Keep p W ((W.drewN m).setCell ⟨p, 1, none⟩ (.int .i64 ((k : Int) + 1)))) := Lib.hid (((Keep.refl p W).drewN m).set _ _)
    generalize ((W.drewN m).setCell ⟨p, 1, none⟩ (.int .i64 ((k : Int) + 1))) = W1 at *
    refine (bracket_any W1 p s r hs HP1.out).mono ?_
    intro e w2 h2
    have H2 := Lib.hid (h2.ofKeep HK1.out)
    rcases hbr : bracket r with _ | ⟨u, l'⟩
    · rw [hbr] at h2
      obtain ⟨_, h2⟩ := h2
      simp only at h2
      subst h2
      clear hbr
      go_wp2_with fail
      go_ret2
      rw [HE.out]
      exact H2.out
    · rw [hbr] at h2
      obtain ⟨_, v, rfl, _, _⟩ := h2
      clear hbr
      go_wp2_with fail
      go_ret2
      rw [HE.out]
      exact H2.out
  have e2 : ((c.toNat : Int) == 91) = false := by rw [beq_eq_false_iff_ne]; omega
  have g2 : ¬ c = 91 := fun h => h2 (by rw [h]; rfl)
  clear h2
  by_cases h3 : c.toNat = 46
  · have d1 : ((c.toNat : Int) == 46) = true := by rw [h3]; rfl
    have HE : Hid (atom (n + 1) (c :: r) = some (.cls fun _ => true, r)) := Lib.hid (by simp only [atom]; rw [if_neg g1, if_neg g2, show c = 46 from u8_eq (by decide) h3]; rfl)
    clear h3 g1 g2
    unfold ptr
    go_enter Try.func65, Try.ntmps65
    go_wp2_with fail
    refine (peek_in W p s c r HP.out).mono ?_
    rintro e w' ⟨rfl, m, rfl⟩
    go_wp2_with fail
    refine (where_any 71 (fun _ => true) _ (fun c w => enter_f _ c w (.inr (.inr rfl))) all_any).mono ?_
    rintro e w' ⟨rfl, hb, hat⟩
    go_wp2_with fail
    go_ret2
    exact post_cls HP.out HB.out HE.out hb hat rfl (by simp [ptr])
  have e3 : ((c.toNat : Int) == 46) = false := by rw [beq_eq_false_iff_ne]; omega
  have g3 : ¬ c = 46 := fun h => h3 (by rw [h]; rfl)
  clear h3
  by_cases h4 : c.toNat = 92
  · have d1 : ((c.toNat : Int) == 92) = true := by rw [h4]; rfl
    rcases r with _ | ⟨d, r'⟩
    · have HE : Hid (atom (n + 1) [c] = none) := Lib.hid (by simp only [atom]; rw [if_neg g1, if_neg g2, if_neg g3, show c = 92 from u8_eq (by decide) h4]; rfl)
      clear h4 g1 g2 g3
      unfold ptr
      go_enter Try.func65, Try.ntmps65
      go_wp2_with fail
      refine (peek_in W p s c _ HP.out).mono ?_
      rintro e w' ⟨rfl, m, rfl⟩
      go_wp2_with fail
      have HP1 := Lib.hid (HP.out.bump m _ HB.out)
      have HK1 : Hid (Keep p W ((W.drewN m).setCell ⟨p, 1, none⟩ (.int .i64 ((k : Int) + 1)))) := Lib.hid (((Keep.refl p W).drewN m).set _ _)
      generalize ((W.drewN m).setCell ⟨p, 1, none⟩ (.int .i64 ((k : Int) + 1))) = W1 at *
      refine (escape_end W1 p s HP1.out).mono ?_
      rintro e w2 ⟨hk2, h2⟩
      simp only at h2
      subst h2
      have HK2 := Lib.hid hk2
      clear hk2
      go_wp2_with fail
      go_ret2
      exact UPost.no HE.out (HK1.out.trans HK2.out)
    · have HE : Hid (atom (n + 1) (c :: d :: r') = (escU d).map fun u => (u, r')) := Lib.hid (by simp only [atom]; rw [if_neg g1, if_neg g2, if_neg g3, show c = 92 from u8_eq (by decide) h4]; rfl)
      clear h4 g1 g2 g3
      unfold ptr
      go_enter Try.func65, Try.ntmps65
      go_wp2_with fail
      refine (peek_in W p s c _ HP.out).mono ?_
      rintro e w' ⟨rfl, m, rfl⟩
      go_wp2_with fail
      have HP1 := Lib.hid (HP.out.bump m _ HB.out)
      have HK1 : Hid (Keep p W ((W.drewN m).setCell ⟨p, 1, none⟩ (.int .i64 ((k : Int) + 1)))) := Lib.hid (((Keep.refl p W).drewN m).set _ _)
      generalize ((W.drewN m).setCell ⟨p, 1, none⟩ (.int .i64 ((k : Int) + 1))) = W1 at *
      refine (escape_in W1 p s d r' hs HP1.out).mono ?_
      intro e w2 h2
      have H2 := Lib.hid (h2.ofKeep HK1.out)
      rcases hbr : (escU d).map fun u => (u, r') with _ | ⟨u, l'⟩
      · rw [hbr] at h2
        obtain ⟨_, h2⟩ := h2
        simp only at h2
        subst h2
        clear hbr
        go_wp2_with fail
        go_ret2
        rw [HE.out]
        exact H2.out
      · rw [hbr] at h2
        obtain ⟨_, v, rfl, _, _⟩ := h2
        clear hbr
        go_wp2_with fail
        go_ret2
        rw [HE.out]
        exact H2.out
  have e4 : ((c.toNat : Int) == 92) = false := by rw [beq_eq_false_iff_ne]; omega
  have g4 : ¬ c = 92 := fun h => h4 (by rw [h]; rfl)
  clear h4
  have HE0 : Hid (atom (n + 1) (c :: r) = if special c then none else some (.byte c, r)) := Lib.hid (by simp only [atom]; rw [if_neg g1, if_neg g2, if_neg g3, if_neg g4])
  clear g1 g2 g3 g4
  cases hsp : special c
  · have HE : Hid (atom (n + 1) (c :: r) = some (.byte c, r)) := Lib.hid (by rw [HE0.out, hsp]; rfl)
    have HI := Lib.hid (fun w => index_no c w hsp)
    clear hsp HE0
    unfold ptr
    go_enter Try.func65, Try.ntmps65
    go_wp2_with fail
    refine (peek_in W p s c _ HP.out).mono ?_
    rintro e w' ⟨rfl, m, rfl⟩
    go_wp2_with fail
    refine (HI.out _).mono ?_
    rintro e w' ⟨rfl, rfl⟩
    go_wp2_with fail
    refine (plainByte_any _ _).mono ?_
    rintro e w' ⟨rfl, rfl⟩
    go_wp2_with fail
    go_ret2
    exact post_byte HP.out HB.out HE.out rfl rfl
  · have HE : Hid (atom (n + 1) (c :: r) = none) := Lib.hid (by rw [HE0.out, hsp]; rfl)
    have HI := Lib.hid (fun w => index_yes c w hsp)
    clear hsp HE0
    unfold ptr
    go_enter Try.func65, Try.ntmps65
    go_wp2_with fail
    refine (peek_in W p s c _ HP.out).mono ?_
    rintro e w' ⟨rfl, m, rfl⟩
    go_wp2_with fail
    refine (HI.out _).mono ?_
    rintro e w' ⟨⟨j, rfl⟩, rfl⟩
    go_wp2_with fail
    go_ret2
    exact UPost.no HE.out (((Keep.refl p W).drewN m).set _ _)
end Go.Proofs.Ytheblleadjbndaa
