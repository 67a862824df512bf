/- The parser's walks: item, isRange. -/
import Derived.Test.YtheblleadjbndaaPe
import Derived.IntWalk
namespace Go.Proofs.Ytheblleadjbndaa
open Go.RowKit Rx

/-- What item hands back. -/
def BPost (p : Nat) (s : ByteArray) (W : World) (res : Option (UInt8 × List UInt8)) (e : Ending) (w' : World) : Prop :=
  Keep p W w' ∧ match res with
  | none => e = .returned (.tuple #[.int .u8 0, .bool false])
  | some (b, l') => e = .returned (.tuple #[.int .u8 b.toNat, .bool true]) ∧ PS w' p s l'
theorem BPost.no {p : Nat} {s : ByteArray} {W w' : World} {res : Option (UInt8 × List UInt8)} (hr : res = none) (hk : Keep p W w') : BPost p s W res (.returned (.tuple #[.int .u8 0, .bool false])) w' := by
  subst hr; exact ⟨hk, rfl⟩
theorem BPost.yes {p : Nat} {s : ByteArray} {W w' : World} {res : Option (UInt8 × List UInt8)} {b : UInt8} {l' : List UInt8} (hr : res = some (b, l')) (hk : Keep p W w') (hp : PS w' p s l') : BPost p s W res (.returned (.tuple #[.int .u8 b.toNat, .bool true])) w' := by
  subst hr; exact ⟨hk, rfl, hp⟩
/-- What an escape can be. -/
theorem escU_some (d : UInt8) : (escU d = none ∧ escB d = none) ∨ (∃ b, escU d = some (.byte b) ∧ escB d = some b) ∨ (∃ f, escU d = some (.cls f) ∧ escB d = none) := by
  unfold escU escB
  by_cases h1 : d = 110
  · subst h1; exact .inr (.inl ⟨10, rfl, rfl⟩)
  · by_cases h2 : d = 116
    · subst h2; exact .inr (.inl ⟨9, rfl, rfl⟩)
    · rw [if_neg h1, if_neg h2, if_neg h1, if_neg h2]
      by_cases h3 : d = 100
      · subst h3; exact .inr (.inr ⟨_, rfl, by decide⟩)
      · by_cases h4 : d = 119
        · subst h4; exact .inr (.inr ⟨_, rfl, by decide⟩)
        · rw [if_neg h3, if_neg h4]
          rcases letB d || digB d
          · exact .inr (.inl ⟨d, rfl, rfl⟩)
          · exact .inl ⟨rfl, rfl⟩

set_option maxHeartbeats 400000 in
theorem item_end (W : World) (p : Nat) (s : ByteArray) (h : PS W p s []) :
    Calls Try.prog 74 #[ptr p] W (BPost p s W (item [])) := by
  unfold ptr
  go_enter Try.func74, Try.ntmps74
  go_wp2_with fail
  refine (peek_end W p s h).mono ?_
  rintro e w' ⟨rfl, n, rfl⟩
  go_wp2_with fail
  go_ret2
  exact BPost.no rfl ((Keep.refl _ _).drewN _)

set_option maxHeartbeats 1000000 in
theorem item_in (W : World) (p : Nat) (s : ByteArray) (c : UInt8) (r : List UInt8) (hs : s.size ≤ 1000) (h : PS W p s (c :: r)) :
    Calls Try.prog 74 #[ptr p] W (BPost p s W (item (c :: r))) := by
  have c1 : W.cell? ⟨p, 1, none⟩ = some (.int .i64 ((s.size - (c :: r).length : Nat) : Int)) := h.at_.cell 1
  have c2 := h.at_.free 1
  have hle : s.size - (c :: r).length ≤ 1000 := by omega
  have HB : Hid (((s.size - (c :: r).length : Nat) : Int) + 1 = ((s.size - r.length : Nat) : Int)) := Lib.hid (by rw [h.next.2.2]; omega)
  have HP := Lib.hid h
  clear h
  generalize s.size - (c :: r).length = k at *
  by_cases h1 : c.toNat = 93
  · have d1 := eq_yes h1
    have HC := Lib.hid (u8_eq (by decide) h1)
    clear h1
    unfold ptr
    go_enter Try.func74, Try.ntmps74
    go_wp2_with fail
    refine (peek_in W p s c r HP.out).mono ?_
    rintro e w' ⟨rfl, n, rfl⟩
    go_wp2_with fail
    go_ret2
    exact BPost.no (by rw [HC.out]; rfl) ((Keep.refl _ _).drewN _)
  · have e1 := eq_no h1
    have g1 : ¬ c = 93 := fun h => h1 (by rw [h]; rfl)
    clear h1
    by_cases h2 : c.toNat = 92
    · have d1 : ((c.toNat : Int) != 92) = false := by rw [h2]; rfl
      have HC := Lib.hid (u8_eq (by decide) h2)
      clear h2 g1
      rcases r with _ | ⟨d, r'⟩
      · unfold ptr
        go_enter Try.func74, Try.ntmps74
        go_wp2_with fail
        refine (peek_in W p s c _ HP.out).mono ?_
        rintro e w' ⟨rfl, n, rfl⟩
        go_wp2_with fail
        refine (escape_end _ p s (HP.out.bump n _ HB.out)).mono ?_
        rintro e w' ⟨hk, rfl⟩
        go_wp2_with fail
        go_ret2
        exact BPost.no (by rw [HC.out]; rfl) ((((Keep.refl p W).drewN _).set _ _).trans hk)
      · have HD := Lib.hid (escU_some d)
        unfold ptr
        go_enter Try.func74, Try.ntmps74
        go_wp2_with fail
        refine (peek_in W p s c _ HP.out).mono ?_
        rintro e w' ⟨rfl, n, rfl⟩
        go_wp2_with fail
        refine (escape_in _ p s d r' hs (HP.out.bump n _ HB.out)).mono ?_
        rcases HD.out with ⟨h3, h4⟩ | ⟨b, h3, h4⟩ | ⟨f, h3, h4⟩
        · rw [h3]
          have H4 := Lib.hid h4
          clear h3 h4
          rintro e w' ⟨hk, rfl⟩
          go_wp2_with fail
          go_ret2
          exact BPost.no (by rw [HC.out]; show (escB d).map _ = none; rw [H4.out]; rfl) ((((Keep.refl p W).drewN _).set _ _).trans hk)
        · rw [h3]
          have H4 := Lib.hid h4
          clear h3 h4
          rintro e w' ⟨hk, v, rfl, hu, hp⟩
          unfold IsU at hu
          obtain ⟨q, _, rfl, hq⟩ := hu
          have q1 : w'.cell? ⟨q, 1, none⟩ = some (.bool true) := hq.cell 1
          have q2 : w'.cell? ⟨q, 2, none⟩ = some (.int .u8 b.toNat) := hq.cell 2
          unfold ptr
          go_wp2_with fail
          go_ret2
          exact BPost.yes (by rw [HC.out]; show (escB d).map _ = _; rw [H4.out]; rfl) ((((Keep.refl p W).drewN _).set _ _).trans hk) hp
        · rw [h3]
          have H4 := Lib.hid h4
          clear h3 h4
          rintro e w' ⟨hk, v, rfl, hu, hp⟩
          unfold IsU at hu
          obtain ⟨q, _, _, _, rfl, hq, _⟩ := hu
          have q1 : w'.cell? ⟨q, 1, none⟩ = some (.bool false) := hq.cell 1
          unfold ptr
          go_wp2_with fail
          go_ret2
          exact BPost.no (by rw [HC.out]; show (escB d).map _ = _; rw [H4.out]; rfl) ((((Keep.refl p W).drewN _).set _ _).trans hk)
    · have d1 : ((c.toNat : Int) != 92) = true := by rw [bne_iff_ne]; omega
      have g2 : ¬ c = 92 := fun h => h2 (by rw [h]; rfl)
      have HC : Hid (item (c :: r) = some (c, r)) := Lib.hid (by simp only [item]; rw [if_neg g1, if_neg g2])
      clear h2 g1 g2
      unfold ptr
      go_enter Try.func74, Try.ntmps74
      go_wp2_with fail
      refine (peek_in W p s c r HP.out).mono ?_
      rintro e w' ⟨rfl, n, rfl⟩
      go_wp2_with fail
      go_ret2
      exact BPost.yes HC.out (((Keep.refl p W).drewN _).set _ _) (HP.out.bump n _ HB.out)

set_option maxHeartbeats 400000 in
theorem isRange_end (W : World) (p : Nat) (s : ByteArray) (hs : s.size ≤ 1000) (h : PS W p s []) :
    Calls Try.prog 75 #[ptr p] W fun e w' => e = .returned (.bool false) ∧ ∃ n, w' = W.drewN n := by
  have c0 : W.cell? ⟨p, 0, none⟩ = some (.string s) := h.at_.cell 0
  have c1 := h.end_
  have d1 : decide ((s.size : Int) + 1 < (s.size : Int)) = false := by rw [decide_eq_false_iff_not]; omega
  have v1 : IntKind.i64.wrap ((s.size : Int) + 1) = (s.size : Int) + 1 := IntWalk.i64_in _ (by omega)
  unfold ptr
  go_enter Try.func75, Try.ntmps75
  go_wp2_with fail
  go_quiet (fail)
  go_wp2_with fail
  go_ret
  exact ⟨rfl, _, rfl⟩

set_option maxHeartbeats 400000 in
theorem isRange_one (W : World) (p : Nat) (s : ByteArray) (c : UInt8) (hs : s.size ≤ 1000) (h : PS W p s [c]) :
    Calls Try.prog 75 #[ptr p] W fun e w' => e = .returned (.bool false) ∧ ∃ n, w' = W.drewN n := by
  have c0 : W.cell? ⟨p, 0, none⟩ = some (.string s) := h.at_.cell 0
  have c1 : W.cell? ⟨p, 1, none⟩ = some (.int .i64 ((s.size - 1 : Nat) : Int)) := h.at_.cell 1
  have hle : 1 ≤ s.size := h.le
  obtain ⟨k, hk⟩ : ∃ k, k = s.size - 1 := ⟨_, rfl⟩
  rw [← hk] at c1
  have hk1 : k ≤ 1000 := by omega
  have d1 : decide ((k : Int) + 1 < (s.size : Int)) = false := by rw [decide_eq_false_iff_not]; omega
  have v1 : IntKind.i64.wrap ((k : Int) + 1) = (k : Int) + 1 := IntWalk.i64_in _ (by omega)
  clear hk h
  unfold ptr
  go_enter Try.func75, Try.ntmps75
  go_wp2_with fail
  go_quiet (fail)
  go_wp2_with fail
  go_ret
  exact ⟨rfl, _, rfl⟩

set_option maxHeartbeats 400000 in
theorem isRange_two (W : World) (p : Nat) (s : ByteArray) (a b : UInt8) (r : List UInt8) (hs : s.size ≤ 1000) (h : PS W p s (a :: b :: r)) :
    Calls Try.prog 75 #[ptr p] W fun e w' => e = .returned (.bool (isRange (a :: b :: r))) ∧ ∃ n, w' = W.drewN n := by
  have c0 : W.cell? ⟨p, 0, none⟩ = some (.string s) := h.at_.cell 0
  have c1 : W.cell? ⟨p, 1, none⟩ = some (.int .i64 ((s.size - (a :: b :: r).length : Nat) : Int)) := h.at_.cell 1
  have hle := h.le
  have hlt : s.size - (a :: b :: r).length < s.size := by simp only [List.length_cons] at hle ⊢; omega
  have hg := h.get hlt
  have hlt2 : s.size - (a :: b :: r).length + 1 < s.size := by simp only [List.length_cons] at hle ⊢; omega
  have hg2 : s[s.size - (a :: b :: r).length + 1] = b := by
    have h1 := h.rest
    have := congrArg (fun l => l[1]?) h1
    simp only [List.getElem?_drop, List.getElem?_cons_succ, List.getElem?_cons_zero] at this
    exact Option.some.inj ((List.getElem?_eq_getElem (l := bs s) hlt2).symm.trans this)
  have HR : Hid (isRange (a :: b :: r) = (a == 45 && b != 93)) := Lib.hid rfl
  clear h hle
  generalize s.size - (a :: b :: r).length = k at *
  have hk1 : k ≤ 1000 := by omega
  have d1 : decide ((k : Int) + 1 < (s.size : Int)) = true := by rw [decide_eq_true_iff]; omega
  have t1 : ((k : Int) + 1).toNat = k + 1 := by omega
  have t2 : 0 ≤ (k : Int) + 1 := by omega
  have t3 : (k : Int) + 1 < (s.size : Int) := by omega
  have v1 : IntKind.i64.wrap ((k : Int) + 1) = (k : Int) + 1 := IntWalk.i64_in _ (by omega)
  by_cases ha : a.toNat = 45
  · have e1 : ((a.toNat : Int) == 45) = true := by rw [ha]; rfl
    have HA := Lib.hid (u8_eq (by decide) ha)
    clear ha
    by_cases hb : b.toNat = 93
    · have e2 : ((b.toNat : Int) != 93) = false := by rw [hb]; rfl
      have HB := Lib.hid (u8_eq (by decide) hb)
      clear hb
      unfold ptr
      go_enter Try.func75, Try.ntmps75
      go_wp2_with fail
      go_quiet (fail)
      go_wp2_with fail
      go_ret
      exact ⟨ret_bool (by rw [HR.out, HA.out, HB.out]; rfl), _, rfl⟩
    · have e2 : ((b.toNat : Int) != 93) = true := by rw [bne_iff_ne]; omega
      have HB : Hid ((b != 93) = true) := Lib.hid (by rw [bne_iff_ne]; intro h; exact hb (by rw [h]; rfl))
      clear hb
      unfold ptr
      go_enter Try.func75, Try.ntmps75
      go_wp2_with fail
      go_quiet (fail)
      go_wp2_with fail
      go_ret
      exact ⟨ret_bool (by rw [HR.out, HA.out, HB.out]; rfl), _, rfl⟩
  · have e1 : ((a.toNat : Int) == 45) = false := by rw [beq_eq_false_iff_ne]; omega
    have HA : Hid ((a == 45) = false) := Lib.hid (by rw [beq_eq_false_iff_ne]; intro h; exact ha (by rw [h]; rfl))
    clear ha
    unfold ptr
    go_enter Try.func75, Try.ntmps75
    go_wp2_with fail
    go_quiet (fail)
    go_wp2_with fail
    go_ret
    exact ⟨ret_bool (by rw [HR.out, HA.out]; rfl), _, rfl⟩
theorem isRange_any (W : World) (p : Nat) (s : ByteArray) (l : List UInt8) (hs : s.size ≤ 1000) (h : PS W p s l) :
    Calls Try.prog 75 #[ptr p] W fun e w' => e = .returned (.bool (isRange l)) ∧ ∃ n, w' = W.drewN n := by
  rcases l with _ | ⟨a, _ | ⟨b, r⟩⟩
  · exact isRange_end W p s hs h
  · exact isRange_one W p s a hs h
  · exact isRange_two W p s a b r hs h
theorem item_any (W : World) (p : Nat) (s : ByteArray) (l : List UInt8) (hs : s.size ≤ 1000) (h : PS W p s l) :
    Calls Try.prog 74 #[ptr p] W (BPost p s W (item l)) := by
  rcases l with _ | ⟨a, r⟩
  · exact item_end W p s h
  · exact item_in W p s a r hs h
end Go.Proofs.Ytheblleadjbndaa
