/- The parser's walks: escape. The parser's walks: item, isRange. -/
import Derived.Test.YthckgmbadmilfaaGreatMAJ
import Derived.IntWalk
namespace Go.Proofs.YthckgmbadmilfaaGreat
open Go.RowKit Rx

/-- What a function of the parser hands back: a tree and whether there is one. -/
def UPost (p : Nat) (s : ByteArray) (W : World) (res : Option (U × List UInt8)) (e : Ending) (w' : World) : Prop :=
  Keep p W w' ∧ match res with
  | none => e = .returned (.tuple #[.pointer none, .bool false])
  | some (u, l') => ∃ v, e = .returned (.tuple #[v, .bool true]) ∧ IsU (Fresh W w') w' u v ∧ PS w' p s l'
theorem UPost.no {p : Nat} {s : ByteArray} {W w' : World} {res : Option (U × List UInt8)} (hr : res = none) (hk : Keep p W w') : UPost p s W res (.returned (.tuple #[.pointer none, .bool false])) w' := by
  subst hr; exact ⟨hk, rfl⟩
theorem UPost.yes {p : Nat} {s : ByteArray} {W w' : World} {res : Option (U × List UInt8)} {u : U} {l' : List UInt8} (v : Value) (hr : res = some (u, l')) (hk : Keep p W w') (hu : IsU (Fresh W w') w' u v) (hp : PS w' p s l') : UPost p s W res (.returned (.tuple #[v, .bool true])) w' := by
  subst hr; exact ⟨hk, v, rfl, hu, hp⟩
theorem alloc_size (w : World) (o : Obj) : (w.alloc o).heap.size = w.heap.size + 1 := by simp
theorem isU_byte {W w1 : World} {v : Value} (hp : W.heap.size ≤ w1.heap.size) (c : UInt8) (k : Int) (hk : k = c.toNat) (hv : v = ptr w1.heap.size) : IsU (Fresh W (w1.alloc (.cells (nd 0 true k (.pointer none) (.slice none 0 0)) 121))) (w1.alloc (.cells (nd 0 true k (.pointer none) (.slice none 0 0)) 121)) (.byte c) v := by
  unfold IsU
  subst hk hv
  exact ⟨_, ⟨hp, by rw [alloc_size]; exact Nat.lt_succ_self _⟩, rfl, At.new _ _ _⟩
theorem isU_cls {W w0 w1 : World} {v : Value} {x : Value} (hp : W.heap.size ≤ w0.heap.size) (f : UInt8 → Bool) (hb : Below w0.heap.size w0 w1) (hat : At w1 w0.heap.size (btab f 256) 202) (hv : v = ptr w1.heap.size) (hx : x = ptr w0.heap.size) : IsU (Fresh W (w1.alloc (.cells (nd 0 false 0 x (.slice none 0 0)) 121))) (w1.alloc (.cells (nd 0 false 0 x (.slice none 0 0)) 121)) (.cls f) v := by
  unfold IsU
  have h := hat.lt
  have h2 := hb.size
  subst hv hx
  exact ⟨_, _, ⟨by omega, by rw [alloc_size]; omega⟩, ⟨hp, by rw [alloc_size]; omega⟩, rfl, At.new _ _ _, hat.alloc _⟩
theorem PS.alloc {W : World} {p : Nat} {s : ByteArray} {l : List UInt8} (h : PS W p s l) (o : Obj) : PS (W.alloc o) p s l := h.keep (h.at_.alloc o)
theorem PS.below {W W1 : World} {p : Nat} {s : ByteArray} {l : List UInt8} (h : PS W p s l) (hb : Below W.heap.size W W1) : PS W1 p s l := h.keep (h.at_.below hb)
theorem PS.drewN {W : World} {p : Nat} {s : ByteArray} {l : List UInt8} (h : PS W p s l) (n : Nat) : PS (W.drewN n) p s l := h.keep (h.at_.drewN n)
theorem PS.lt {W : World} {p : Nat} {s : ByteArray} {l : List UInt8} (h : PS W p s l) : p < W.heap.size := h.at_.lt

/-- A test of a byte against a number. -/
theorem eq_no {c : UInt8} {k : Nat} (h : ¬ c.toNat = k) : ((c.toNat : Int) == (k : Int)) = false := by rw [beq_eq_false_iff_ne]; omega
theorem eq_yes {c : UInt8} {k : Nat} (h : c.toNat = k) : ((c.toNat : Int) == (k : Int)) = true := by rw [h]; exact beq_self_eq_true _
theorem u8_eq {c : UInt8} {k : Nat} (hk : k < 256) (h : c.toNat = k) : c = UInt8.ofNat k := by
  apply UInt8.toNat_inj.1; rw [h, UInt8.toNat_ofNat']; omega

set_option maxHeartbeats 400000 in
theorem escape_end (W : World) (p : Nat) (s : ByteArray) (h : PS W p s []) :
    Calls Tryz.prog 178 #[ptr p] W (UPost p s W none) := by
  unfold ptr
  go_enter Tryz.func178, Tryz.ntmps178
  go_wp2_with fail
  refine (peek_end W p s h).mono ?_
  rintro e w' ⟨rfl, n, rfl⟩
  go_wp2_with fail
  go_ret2
  exact UPost.no rfl ((Keep.refl _ _).drewN _)

/-- A byte read, and the node of a byte made. -/
theorem post_byte {p : Nat} {s : ByteArray} {W : World} {c d : UInt8} {r : List UInt8} {n : Nat} {k j : Int} {res : Option (U × List UInt8)} {v : Value} (h : PS W p s (c :: r)) (hk : k = ((s.size - r.length : Nat) : Int)) (hr : res = some (.byte d, r)) (hj : j = d.toNat) (hv : v = ptr W.heap.size) :
    UPost p s W res (.returned (.tuple #[v, .bool true])) (((W.drewN n).setCell ⟨p, 1, none⟩ (.int .i64 k)).alloc (.cells (nd 0 true j (.pointer none) (.slice none 0 0)) 121)) := by
  refine UPost.yes v hr ((((Keep.refl p W).drewN _).set _ _).alloc _) ?_ ((h.bump n k hk).alloc _)
  exact isU_byte (by simp) d j hj (by rw [hv]; simp)
/-- A byte read, and the node of a class made. -/
theorem post_cls {p : Nat} {s : ByteArray} {W w1 : World} {c : UInt8} {r : List UInt8} {n : Nat} {k : Int} {f : UInt8 → Bool} {res : Option (U × List UInt8)} {v x : Value} (h : PS W p s (c :: r)) (hk : k = ((s.size - r.length : Nat) : Int)) (hr : res = some (.cls f, r))
    (hb : Below ((W.drewN n).setCell ⟨p, 1, none⟩ (.int .i64 k)).heap.size ((W.drewN n).setCell ⟨p, 1, none⟩ (.int .i64 k)) w1) (hat : At w1 ((W.drewN n).setCell ⟨p, 1, none⟩ (.int .i64 k)).heap.size (btab f 256) 202) (hv : v = ptr w1.heap.size) (hx : x = ptr W.heap.size) :
    UPost p s W res (.returned (.tuple #[v, .bool true])) (w1.alloc (.cells (nd 0 false 0 x (.slice none 0 0)) 121)) := by
  have hb0 := h.bump n k hk
  refine UPost.yes v hr (((((Keep.refl p W).drewN _).set _ _).trans (Keep.below hb)).alloc _) ?_ ((hb0.below hb).alloc _)
  exact isU_cls (by simp) f hb hat hv (by rw [hx]; simp)

set_option maxHeartbeats 1000000 in
theorem escape_in (W : World) (p : Nat) (s : ByteArray) (c : UInt8) (r : List UInt8) (hs : s.size ≤ 1000) (h : PS W p s (c :: r)) :
    Calls Tryz.prog 178 #[ptr p] W (UPost p s W ((escU c).map fun u => (u, r))) := by
  have c1 : W.cell? ⟨p, 1, none⟩ = some (.int .i64 ((s.size - (c :: r).length : Nat) : Int)) := h.at_.cell 1
  have c2 := h.at_.free 1
  have hle : s.size - (c :: r).length ≤ 1000 := by omega
  have HB : Hid (((s.size - (c :: r).length : Nat) : Int) + 1 = ((s.size - r.length : Nat) : Int)) := Lib.hid (by rw [h.next.2.2]; omega)
  have HP := Lib.hid h
  clear h
  generalize s.size - (c :: r).length = k at *
  unfold ptr
  by_cases h1 : c.toNat = 110
  · have d1 := eq_yes h1
    have HC := Lib.hid (u8_eq (by decide) h1)
    clear h1
    go_enter Tryz.func178, Tryz.ntmps178
    go_wp2_with fail
    refine (peek_in W p s c r HP.out).mono ?_
    rintro e w' ⟨rfl, n, rfl⟩
    go_wp2_with fail
    refine (plainByte_any _ _).mono ?_
    rintro e w' ⟨rfl, rfl⟩
    go_wp2_with fail
    go_ret2
    exact post_byte HP.out HB.out (by rw [HC.out]; rfl) rfl rfl
  · have e1 := eq_no h1
    have g1 : ¬ c = 110 := fun h => h1 (by rw [h]; rfl)
    clear h1
    by_cases h2 : c.toNat = 116
    · have d1 := eq_yes h2
      have HC := Lib.hid (u8_eq (by decide) h2)
      clear h2 g1
      go_enter Tryz.func178, Tryz.ntmps178
      go_wp2_with fail
      refine (peek_in W p s c r HP.out).mono ?_
      rintro e w' ⟨rfl, n, rfl⟩
      go_wp2_with fail
      refine (plainByte_any _ _).mono ?_
      rintro e w' ⟨rfl, rfl⟩
      go_wp2_with fail
      go_ret2
      exact post_byte HP.out HB.out (by rw [HC.out]; rfl) rfl rfl
    · have e2 := eq_no h2
      have g2 : ¬ c = 116 := fun h => h2 (by rw [h]; rfl)
      clear h2
      by_cases h3 : c.toNat = 100
      · have d1 := eq_yes h3
        have HC := Lib.hid (u8_eq (by decide) h3)
        clear h3 g1 g2
        go_enter Tryz.func178, Tryz.ntmps178
        go_wp2_with fail
        refine (peek_in W p s c r HP.out).mono ?_
        rintro e w' ⟨rfl, n, rfl⟩
        go_wp2_with fail
        refine (where_any 184 digB _ (fun c w => enter_f _ c w (.inl rfl)) isDigit_any).mono ?_
        rintro e w' ⟨rfl, hb, hat⟩
        go_wp2_with fail
        go_ret2
        exact post_cls HP.out HB.out (by rw [HC.out]; rfl) hb hat rfl (by simp [ptr])
      · have e3 := eq_no h3
        have g3 : ¬ c = 100 := fun h => h3 (by rw [h]; rfl)
        clear h3
        by_cases h4 : c.toNat = 119
        · have d1 := eq_yes h4
          have HC := Lib.hid (u8_eq (by decide) h4)
          clear h4 g1 g2 g3
          go_enter Tryz.func178, Tryz.ntmps178
          go_wp2_with fail
          refine (peek_in W p s c r HP.out).mono ?_
          rintro e w' ⟨rfl, n, rfl⟩
          go_wp2_with fail
          refine (where_any 185 wordB _ (fun c w => enter_f _ c w (.inr (.inl rfl))) word_any).mono ?_
          rintro e w' ⟨rfl, hb, hat⟩
          go_wp2_with fail
          go_ret2
          exact post_cls HP.out HB.out (by rw [HC.out]; rfl) hb hat rfl (by simp [ptr])
        · have e4 := eq_no h4
          have g4 : ¬ c = 119 := fun h => h4 (by rw [h]; rfl)
          clear h4
          have HU : Hid (escU c = if letB c || digB c then none else some (.byte c)) := Lib.hid (by unfold escU; rw [if_neg g1, if_neg g2, if_neg g3, if_neg g4])
          clear g1 g2 g3 g4
          rcases hl : letB c
          · rcases hd : digB c
            · have H1 := Lib.hid hl
              have H2 := Lib.hid hd
              clear hl hd
              go_enter Tryz.func178, Tryz.ntmps178
              go_wp2_with fail
              refine (peek_in W p s c r HP.out).mono ?_
              rintro e w' ⟨rfl, n, rfl⟩
              go_wp2_with fail
              refine (isLetter_any _ _).mono ?_
              rintro e w' ⟨rfl, rfl⟩
              rw [H1.out]
              go_wp2_with fail
              refine (isDigit_any _ _).mono ?_
              rintro e w' ⟨rfl, rfl⟩
              rw [H2.out]
              go_wp2_with fail
              refine (plainByte_any _ _).mono ?_
              rintro e w' ⟨rfl, rfl⟩
              go_wp2_with fail
              go_ret2
              exact post_byte HP.out HB.out (by rw [HU.out, H1.out, H2.out]; rfl) rfl rfl
            · have H1 := Lib.hid hl
              have H2 := Lib.hid hd
              clear hl hd
              go_enter Tryz.func178, Tryz.ntmps178
              go_wp2_with fail
              refine (peek_in W p s c r HP.out).mono ?_
              rintro e w' ⟨rfl, n, rfl⟩
              go_wp2_with fail
              refine (isLetter_any _ _).mono ?_
              rintro e w' ⟨rfl, rfl⟩
              rw [H1.out]
              go_wp2_with fail
              refine (isDigit_any _ _).mono ?_
              rintro e w' ⟨rfl, rfl⟩
              rw [H2.out]
              go_wp2_with fail
              go_ret2
              exact UPost.no (by rw [HU.out, H1.out, H2.out]; rfl) (((Keep.refl p W).drewN _).set _ _)
          · have H1 := Lib.hid hl
            clear hl
            go_enter Tryz.func178, Tryz.ntmps178
            go_wp2_with fail
            refine (peek_in W p s c r HP.out).mono ?_
            rintro e w' ⟨rfl, n, rfl⟩
            go_wp2_with fail
            refine (isLetter_any _ _).mono ?_
            rintro e w' ⟨rfl, rfl⟩
            rw [H1.out]
            go_wp2_with fail
            go_ret2
            exact UPost.no (by rw [HU.out, H1.out]; rfl) (((Keep.refl p W).drewN _).set _ _)
end Go.Proofs.YthckgmbadmilfaaGreat

namespace Go.Proofs.YthckgmbadmilfaaGreat
open Go.RowKit Rx

/-- What item hands back. -/
def BPost (p : Nat) (s : ByteArray) (W : World) (res : Option (UInt8 × List UInt8)) (e : Ending) (w' : World) : Prop :=
  Keep p W w' ∧ match res with
  | none => e = .returned (.tuple #[.int .u8 0, .bool false])
  | some (b, l') => e = .returned (.tuple #[.int .u8 b.toNat, .bool true]) ∧ PS w' p s l'
theorem BPost.no {p : Nat} {s : ByteArray} {W w' : World} {res : Option (UInt8 × List UInt8)} (hr : res = none) (hk : Keep p W w') : BPost p s W res (.returned (.tuple #[.int .u8 0, .bool false])) w' := by
  subst hr; exact ⟨hk, rfl⟩
theorem BPost.yes {p : Nat} {s : ByteArray} {W w' : World} {res : Option (UInt8 × List UInt8)} {b : UInt8} {l' : List UInt8} (hr : res = some (b, l')) (hk : Keep p W w') (hp : PS w' p s l') : BPost p s W res (.returned (.tuple #[.int .u8 b.toNat, .bool true])) w' := by
  subst hr; exact ⟨hk, rfl, hp⟩
/-- What an escape can be. -/
theorem escU_some (d : UInt8) : (escU d = none ∧ escB d = none) ∨ (∃ b, escU d = some (.byte b) ∧ escB d = some b) ∨ (∃ f, escU d = some (.cls f) ∧ escB d = none) := by
  unfold escU escB
  by_cases h1 : d = 110
  · subst h1; exact .inr (.inl ⟨10, rfl, rfl⟩)
  · by_cases h2 : d = 116
    · subst h2; exact .inr (.inl ⟨9, rfl, rfl⟩)
    · rw [if_neg h1, if_neg h2, if_neg h1, if_neg h2]
      by_cases h3 : d = 100
      · subst h3; exact .inr (.inr ⟨_, rfl, by decide⟩)
      · by_cases h4 : d = 119
        · subst h4; exact .inr (.inr ⟨_, rfl, by decide⟩)
        · rw [if_neg h3, if_neg h4]
          rcases letB d || digB d
          · exact .inr (.inl ⟨d, rfl, rfl⟩)
          · exact .inl ⟨rfl, rfl⟩

set_option maxHeartbeats 400000 in
theorem item_end (W : World) (p : Nat) (s : ByteArray) (h : PS W p s []) :
    Calls Tryz.prog 181 #[ptr p] W (BPost p s W (item [])) := by
  unfold ptr
  go_enter Tryz.func181, Tryz.ntmps181
  go_wp2_with fail
  refine (peek_end W p s h).mono ?_
  rintro e w' ⟨rfl, n, rfl⟩
  go_wp2_with fail
  go_ret2
  exact BPost.no rfl ((Keep.refl _ _).drewN _)

set_option maxHeartbeats 1000000 in
theorem item_in (W : World) (p : Nat) (s : ByteArray) (c : UInt8) (r : List UInt8) (hs : s.size ≤ 1000) (h : PS W p s (c :: r)) :
    Calls Tryz.prog 181 #[ptr p] W (BPost p s W (item (c :: r))) := by
  have c1 : W.cell? ⟨p, 1, none⟩ = some (.int .i64 ((s.size - (c :: r).length : Nat) : Int)) := h.at_.cell 1
  have c2 := h.at_.free 1
  have hle : s.size - (c :: r).length ≤ 1000 := by omega
  have HB : Hid (((s.size - (c :: r).length : Nat) : Int) + 1 = ((s.size - r.length : Nat) : Int)) := Lib.hid (by rw [h.next.2.2]; omega)
  have HP := Lib.hid h
  clear h
  generalize s.size - (c :: r).length = k at *
  by_cases h1 : c.toNat = 93
  · have d1 := eq_yes h1
    have HC := Lib.hid (u8_eq (by decide) h1)
    clear h1
    unfold ptr
    go_enter Tryz.func181, Tryz.ntmps181
    go_wp2_with fail
    refine (peek_in W p s c r HP.out).mono ?_
    rintro e w' ⟨rfl, n, rfl⟩
    go_wp2_with fail
    go_ret2
    exact BPost.no (by rw [HC.out]; rfl) ((Keep.refl _ _).drewN _)
  · have e1 := eq_no h1
    have g1 : ¬ c = 93 := fun h => h1 (by rw [h]; rfl)
    clear h1
    by_cases h2 : c.toNat = 92
    · have d1 : ((c.toNat : Int) != 92) = false := by rw [h2]; rfl
      have HC := Lib.hid (u8_eq (by decide) h2)
      clear h2 g1
      rcases r with _ | ⟨d, r'⟩
      · unfold ptr
        go_enter Tryz.func181, Tryz.ntmps181
        go_wp2_with fail
        refine (peek_in W p s c _ HP.out).mono ?_
        rintro e w' ⟨rfl, n, rfl⟩
        go_wp2_with fail
        refine (escape_end _ p s (HP.out.bump n _ HB.out)).mono ?_
        rintro e w' ⟨hk, rfl⟩
        go_wp2_with fail
        go_ret2
        exact BPost.no (by rw [HC.out]; rfl) ((((Keep.refl p W).drewN _).set _ _).trans hk)
      · have HD := Lib.hid (escU_some d)
        unfold ptr
        go_enter Tryz.func181, Tryz.ntmps181
        go_wp2_with fail
        refine (peek_in W p s c _ HP.out).mono ?_
        rintro e w' ⟨rfl, n, rfl⟩
        go_wp2_with fail
        refine (escape_in _ p s d r' hs (HP.out.bump n _ HB.out)).mono ?_
        rcases HD.out with ⟨h3, h4⟩ | ⟨b, h3, h4⟩ | ⟨f, h3, h4⟩
        · rw [h3]
          have H4 := Lib.hid h4
          clear h3 h4
          rintro e w' ⟨hk, rfl⟩
          go_wp2_with fail
          go_ret2
          exact BPost.no (by rw [HC.out]; show (escB d).map _ = none; rw [H4.out]; rfl) ((((Keep.refl p W).drewN _).set _ _).trans hk)
        · rw [h3]
          have H4 := Lib.hid h4
          clear h3 h4
          rintro e w' ⟨hk, v, rfl, hu, hp⟩
          unfold IsU at hu
          obtain ⟨q, _, rfl, hq⟩ := hu
          have q1 : w'.cell? ⟨q, 1, none⟩ = some (.bool true) := hq.cell 1
          have q2 : w'.cell? ⟨q, 2, none⟩ = some (.int .u8 b.toNat) := hq.cell 2
          unfold ptr
          go_wp2_with fail
          go_ret2
          exact BPost.yes (by rw [HC.out]; show (escB d).map _ = _; rw [H4.out]; rfl) ((((Keep.refl p W).drewN _).set _ _).trans hk) hp
        · rw [h3]
          have H4 := Lib.hid h4
          clear h3 h4
          rintro e w' ⟨hk, v, rfl, hu, hp⟩
          unfold IsU at hu
          obtain ⟨q, _, _, _, rfl, hq, _⟩ := hu
          have q1 : w'.cell? ⟨q, 1, none⟩ = some (.bool false) := hq.cell 1
          unfold ptr
          go_wp2_with fail
          go_ret2
          exact BPost.no (by rw [HC.out]; show (escB d).map _ = _; rw [H4.out]; rfl) ((((Keep.refl p W).drewN _).set _ _).trans hk)
    · have d1 : ((c.toNat : Int) != 92) = true := by rw [bne_iff_ne]; omega
      have g2 : ¬ c = 92 := fun h => h2 (by rw [h]; rfl)
      have HC : Hid (item (c :: r) = some (c, r)) := Lib.hid (by simp only [item]; rw [if_neg g1, if_neg g2])
      clear h2 g1 g2
      unfold ptr
      go_enter Tryz.func181, Tryz.ntmps181
      go_wp2_with fail
      refine (peek_in W p s c r HP.out).mono ?_
      rintro e w' ⟨rfl, n, rfl⟩
      go_wp2_with fail
      go_ret2
      exact BPost.yes HC.out (((Keep.refl p W).drewN _).set _ _) (HP.out.bump n _ HB.out)

set_option maxHeartbeats 400000 in
theorem isRange_end (W : World) (p : Nat) (s : ByteArray) (hs : s.size ≤ 1000) (h : PS W p s []) :
    Calls Tryz.prog 182 #[ptr p] W fun e w' => e = .returned (.bool false) ∧ ∃ n, w' = W.drewN n := by
  have c0 : W.cell? ⟨p, 0, none⟩ = some (.string s) := h.at_.cell 0
  have c1 := h.end_
  have d1 : decide ((s.size : Int) + 1 < (s.size : Int)) = false := by rw [decide_eq_false_iff_not]; omega
  have v1 : IntKind.i64.wrap ((s.size : Int) + 1) = (s.size : Int) + 1 := IntWalk.i64_in _ (by omega)
  unfold ptr
  go_enter Tryz.func182, Tryz.ntmps182
  go_wp2_with fail
  go_quiet (fail)
  go_wp2_with fail
  go_ret
  exact ⟨rfl, _, rfl⟩

set_option maxHeartbeats 400000 in
theorem isRange_one (W : World) (p : Nat) (s : ByteArray) (c : UInt8) (hs : s.size ≤ 1000) (h : PS W p s [c]) :
    Calls Tryz.prog 182 #[ptr p] W fun e w' => e = .returned (.bool false) ∧ ∃ n, w' = W.drewN n := by
  have c0 : W.cell? ⟨p, 0, none⟩ = some (.string s) := h.at_.cell 0
  have c1 : W.cell? ⟨p, 1, none⟩ = some (.int .i64 ((s.size - 1 : Nat) : Int)) := h.at_.cell 1
  have hle : 1 ≤ s.size := h.le
  obtain ⟨k, hk⟩ : ∃ k, k = s.size - 1 := ⟨_, rfl⟩
  rw [← hk] at c1
  have hk1 : k ≤ 1000 := by omega
  have d1 : decide ((k : Int) + 1 < (s.size : Int)) = false := by rw [decide_eq_false_iff_not]; omega
  have v1 : IntKind.i64.wrap ((k : Int) + 1) = (k : Int) + 1 := IntWalk.i64_in _ (by omega)
  clear hk h
  unfold ptr
  go_enter Tryz.func182, Tryz.ntmps182
  go_wp2_with fail
  go_quiet (fail)
  go_wp2_with fail
  go_ret
  exact ⟨rfl, _, rfl⟩

set_option maxHeartbeats 400000 in
theorem isRange_two (W : World) (p : Nat) (s : ByteArray) (a b : UInt8) (r : List UInt8) (hs : s.size ≤ 1000) (h : PS W p s (a :: b :: r)) :
    Calls Tryz.prog 182 #[ptr p] W fun e w' => e = .returned (.bool (isRange (a :: b :: r))) ∧ ∃ n, w' = W.drewN n := by
  have c0 : W.cell? ⟨p, 0, none⟩ = some (.string s) := h.at_.cell 0
  have c1 : W.cell? ⟨p, 1, none⟩ = some (.int .i64 ((s.size - (a :: b :: r).length : Nat) : Int)) := h.at_.cell 1
  have hle := h.le
  have hlt : s.size - (a :: b :: r).length < s.size := by simp only [List.length_cons] at hle ⊢; omega
  have hg := h.get hlt
  have hlt2 : s.size - (a :: b :: r).length + 1 < s.size := by simp only [List.length_cons] at hle ⊢; omega
  have hg2 : s[s.size - (a :: b :: r).length + 1] = b := by
    have h1 := h.rest
    have := congrArg (fun l => l[1]?) h1
    simp only [List.getElem?_drop, List.getElem?_cons_succ, List.getElem?_cons_zero] at this
    exact Option.some.inj ((List.getElem?_eq_getElem (l := bs s) hlt2).symm.trans this)
  have HR : Hid (isRange (a :: b :: r) = (a == 45 && b != 93)) := Lib.hid rfl
  clear h hle
  generalize s.size - (a :: b :: r).length = k at *
  have hk1 : k ≤ 1000 := by omega
  have d1 : decide ((k : Int) + 1 < (s.size : Int)) = true := by rw [decide_eq_true_iff]; omega
  have t1 : ((k : Int) + 1).toNat = k + 1 := by omega
  have t2 : 0 ≤ (k : Int) + 1 := by omega
  have t3 : (k : Int) + 1 < (s.size : Int) := by omega
  have v1 : IntKind.i64.wrap ((k : Int) + 1) = (k : Int) + 1 := IntWalk.i64_in _ (by omega)
  by_cases ha : a.toNat = 45
  · have e1 : ((a.toNat : Int) == 45) = true := by rw [ha]; rfl
    have HA := Lib.hid (u8_eq (by decide) ha)
    clear ha
    by_cases hb : b.toNat = 93
    · have e2 : ((b.toNat : Int) != 93) = false := by rw [hb]; rfl
      have HB := Lib.hid (u8_eq (by decide) hb)
      clear hb
      unfold ptr
      go_enter Tryz.func182, Tryz.ntmps182
      go_wp2_with fail
      go_quiet (fail)
      go_wp2_with fail
      go_ret
      exact ⟨ret_bool (by rw [HR.out, HA.out, HB.out]; rfl), _, rfl⟩
    · have e2 : ((b.toNat : Int) != 93) = true := by rw [bne_iff_ne]; omega
      have HB : Hid ((b != 93) = true) := Lib.hid (by rw [bne_iff_ne]; intro h; exact hb (by rw [h]; rfl))
      clear hb
      unfold ptr
      go_enter Tryz.func182, Tryz.ntmps182
      go_wp2_with fail
      go_quiet (fail)
      go_wp2_with fail
      go_ret
      exact ⟨ret_bool (by rw [HR.out, HA.out, HB.out]; rfl), _, rfl⟩
  · have e1 : ((a.toNat : Int) == 45) = false := by rw [beq_eq_false_iff_ne]; omega
    have HA : Hid ((a == 45) = false) := Lib.hid (by rw [beq_eq_false_iff_ne]; intro h; exact ha (by rw [h]; rfl))
    clear ha
    unfold ptr
    go_enter Tryz.func182, Tryz.ntmps182
    go_wp2_with fail
    go_quiet (fail)
    go_wp2_with fail
    go_ret
    exact ⟨ret_bool (by rw [HR.out, HA.out]; rfl), _, rfl⟩
theorem isRange_any (W : World) (p : Nat) (s : ByteArray) (l : List UInt8) (hs : s.size ≤ 1000) (h : PS W p s l) :
    Calls Tryz.prog 182 #[ptr p] W fun e w' => e = .returned (.bool (isRange l)) ∧ ∃ n, w' = W.drewN n := by
  rcases l with _ | ⟨a, _ | ⟨b, r⟩⟩
  · exact isRange_end W p s hs h
  · exact isRange_one W p s a hs h
  · exact isRange_two W p s a b r hs h
theorem item_any (W : World) (p : Nat) (s : ByteArray) (l : List UInt8) (hs : s.size ≤ 1000) (h : PS W p s l) :
    Calls Tryz.prog 181 #[ptr p] W (BPost p s W (item l)) := by
  rcases l with _ | ⟨a, r⟩
  · exact item_end W p s h
  · exact item_in W p s a r hs h
end Go.Proofs.YthckgmbadmilfaaGreat
