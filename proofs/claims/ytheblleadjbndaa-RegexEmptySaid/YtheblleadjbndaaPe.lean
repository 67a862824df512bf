/- The parser's walks: escape. -/
import Derived.Test.YtheblleadjbndaaPd
namespace Go.Proofs.Ytheblleadjbndaa
open Go.RowKit Rx

/-- What a function of the parser hands back: a tree and whether there is one. -/
def UPost (p : Nat) (s : ByteArray) (W : World) (res : Option (U × List UInt8)) (e : Ending) (w' : World) : Prop :=
  Keep p W w' ∧ match res with
  | none => e = .returned (.tuple #[.pointer none, .bool false])
  | some (u, l') => ∃ v, e = .returned (.tuple #[v, .bool true]) ∧ IsU (Fresh W w') w' u v ∧ PS w' p s l'
theorem UPost.no {p : Nat} {s : ByteArray} {W w' : World} {res : Option (U × List UInt8)} (hr : res = none) (hk : Keep p W w') : UPost p s W res (.returned (.tuple #[.pointer none, .bool false])) w' := by
  subst hr; exact ⟨hk, rfl⟩
theorem UPost.yes {p : Nat} {s : ByteArray} {W w' : World} {res : Option (U × List UInt8)} {u : U} {l' : List UInt8} (v : Value) (hr : res = some (u, l')) (hk : Keep p W w') (hu : IsU (Fresh W w') w' u v) (hp : PS w' p s l') : UPost p s W res (.returned (.tuple #[v, .bool true])) w' := by
  subst hr; exact ⟨hk, v, rfl, hu, hp⟩
theorem alloc_size (w : World) (o : Obj) : (w.alloc o).heap.size = w.heap.size + 1 := by simp
theorem isU_byte {W w1 : World} {v : Value} (hp : W.heap.size ≤ w1.heap.size) (c : UInt8) (k : Int) (hk : k = c.toNat) (hv : v = ptr w1.heap.size) : IsU (Fresh W (w1.alloc (.cells (nd 0 true k (.pointer none) (.slice none 0 0)) 54))) (w1.alloc (.cells (nd 0 true k (.pointer none) (.slice none 0 0)) 54)) (.byte c) v := by
  unfold IsU
  subst hk hv
  exact ⟨_, ⟨hp, by rw [alloc_size]; exact Nat.lt_succ_self _⟩, rfl, At.new _ _ _⟩
theorem isU_cls {W w0 w1 : World} {v : Value} {x : Value} (hp : W.heap.size ≤ w0.heap.size) (f : UInt8 → Bool) (hb : Below w0.heap.size w0 w1) (hat : At w1 w0.heap.size (btab f 256) 102) (hv : v = ptr w1.heap.size) (hx : x = ptr w0.heap.size) : IsU (Fresh W (w1.alloc (.cells (nd 0 false 0 x (.slice none 0 0)) 54))) (w1.alloc (.cells (nd 0 false 0 x (.slice none 0 0)) 54)) (.cls f) v := by
  unfold IsU
  have h := hat.lt
  have h2 := hb.size
  subst hv hx
  exact ⟨_, _, ⟨by omega, by rw [alloc_size]; omega⟩, ⟨hp, by rw [alloc_size]; omega⟩, rfl, At.new _ _ _, hat.alloc _⟩
theorem PS.alloc {W : World} {p : Nat} {s : ByteArray} {l : List UInt8} (h : PS W p s l) (o : Obj) : PS (W.alloc o) p s l := h.keep (h.at_.alloc o)
theorem PS.below {W W1 : World} {p : Nat} {s : ByteArray} {l : List UInt8} (h : PS W p s l) (hb : Below W.heap.size W W1) : PS W1 p s l := h.keep (h.at_.below hb)
theorem PS.drewN {W : World} {p : Nat} {s : ByteArray} {l : List UInt8} (h : PS W p s l) (n : Nat) : PS (W.drewN n) p s l := h.keep (h.at_.drewN n)
theorem PS.lt {W : World} {p : Nat} {s : ByteArray} {l : List UInt8} (h : PS W p s l) : p < W.heap.size := h.at_.lt

/-- A test of a byte against a number. -/
theorem eq_no {c : UInt8} {k : Nat} (h : ¬ c.toNat = k) : ((c.toNat : Int) == (k : Int)) = false := by rw [beq_eq_false_iff_ne]; omega
theorem eq_yes {c : UInt8} {k : Nat} (h : c.toNat = k) : ((c.toNat : Int) == (k : Int)) = true := by rw [h]; exact beq_self_eq_true _
theorem u8_eq {c : UInt8} {k : Nat} (hk : k < 256) (h : c.toNat = k) : c = UInt8.ofNat k := by
  apply UInt8.toNat_inj.1; rw [h, UInt8.toNat_ofNat']; omega

set_option maxHeartbeats 400000 in
theorem escape_end (W : World) (p : Nat) (s : ByteArray) (h : PS W p s []) :
    Calls Try.prog 72 #[ptr p] W (UPost p s W none) := by
  unfold ptr
  go_enter Try.func72, Try.ntmps72
  go_wp2_with fail
  refine (peek_end W p s h).mono ?_
  rintro e w' ⟨rfl, n, rfl⟩
  go_wp2_with fail
  go_ret2
  exact UPost.no rfl ((Keep.refl _ _).drewN _)

/-- A byte read, and the node of a byte made. -/
theorem post_byte {p : Nat} {s : ByteArray} {W : World} {c d : UInt8} {r : List UInt8} {n : Nat} {k j : Int} {res : Option (U × List UInt8)} {v : Value} (h : PS W p s (c :: r)) (hk : k = ((s.size - r.length : Nat) : Int)) (hr : res = some (.byte d, r)) (hj : j = d.toNat) (hv : v = ptr W.heap.size) :
    UPost p s W res (.returned (.tuple #[v, .bool true])) (((W.drewN n).setCell ⟨p, 1, none⟩ (.int .i64 k)).alloc (.cells (nd 0 true j (.pointer none) (.slice none 0 0)) 54)) := by
  refine UPost.yes v hr ((((Keep.refl p W).drewN _).set _ _).alloc _) ?_ ((h.bump n k hk).alloc _)
  exact isU_byte (by simp) d j hj (by rw [hv]; simp)
/-- A byte read, and the node of a class made. -/
theorem post_cls {p : Nat} {s : ByteArray} {W w1 : World} {c : UInt8} {r : List UInt8} {n : Nat} {k : Int} {f : UInt8 → Bool} {res : Option (U × List UInt8)} {v x : Value} (h : PS W p s (c :: r)) (hk : k = ((s.size - r.length : Nat) : Int)) (hr : res = some (.cls f, r))
    (hb : Below ((W.drewN n).setCell ⟨p, 1, none⟩ (.int .i64 k)).heap.size ((W.drewN n).setCell ⟨p, 1, none⟩ (.int .i64 k)) w1) (hat : At w1 ((W.drewN n).setCell ⟨p, 1, none⟩ (.int .i64 k)).heap.size (btab f 256) 102) (hv : v = ptr w1.heap.size) (hx : x = ptr W.heap.size) :
    UPost p s W res (.returned (.tuple #[v, .bool true])) (w1.alloc (.cells (nd 0 false 0 x (.slice none 0 0)) 54)) := by
  have hb0 := h.bump n k hk
  refine UPost.yes v hr (((((Keep.refl p W).drewN _).set _ _).trans (Keep.below hb)).alloc _) ?_ ((hb0.below hb).alloc _)
  exact isU_cls (by simp) f hb hat hv (by rw [hx]; simp)

set_option maxHeartbeats 1000000 in
theorem escape_in (W : World) (p : Nat) (s : ByteArray) (c : UInt8) (r : List UInt8) (hs : s.size ≤ 1000) (h : PS W p s (c :: r)) :
    Calls Try.prog 72 #[ptr p] W (UPost p s W ((escU c).map fun u => (u, r))) := by
  have c1 : W.cell? ⟨p, 1, none⟩ = some (.int .i64 ((s.size - (c :: r).length : Nat) : Int)) := h.at_.cell 1
  have c2 := h.at_.free 1
  have hle : s.size - (c :: r).length ≤ 1000 := by omega
  have HB : Hid (((s.size - (c :: r).length : Nat) : Int) + 1 = ((s.size - r.length : Nat) : Int)) := Lib.hid (by rw [h.next.2.2]; omega)
  have HP := Lib.hid h
  clear h
  generalize s.size - (c :: r).length = k at *
  unfold ptr
  by_cases h1 : c.toNat = 110
  · have d1 := eq_yes h1
    have HC := Lib.hid (u8_eq (by decide) h1)
    clear h1
    go_enter Try.func72, Try.ntmps72
    go_wp2_with fail
    refine (peek_in W p s c r HP.out).mono ?_
    rintro e w' ⟨rfl, n, rfl⟩
    go_wp2_with fail
    refine (plainByte_any _ _).mono ?_
    rintro e w' ⟨rfl, rfl⟩
    go_wp2_with fail
    go_ret2
    exact post_byte HP.out HB.out (by rw [HC.out]; rfl) rfl rfl
  · have e1 := eq_no h1
    have g1 : ¬ c = 110 := fun h => h1 (by rw [h]; rfl)
    clear h1
    by_cases h2 : c.toNat = 116
    · have d1 := eq_yes h2
      have HC := Lib.hid (u8_eq (by decide) h2)
      clear h2 g1
      go_enter Try.func72, Try.ntmps72
      go_wp2_with fail
      refine (peek_in W p s c r HP.out).mono ?_
      rintro e w' ⟨rfl, n, rfl⟩
      go_wp2_with fail
      refine (plainByte_any _ _).mono ?_
      rintro e w' ⟨rfl, rfl⟩
      go_wp2_with fail
      go_ret2
      exact post_byte HP.out HB.out (by rw [HC.out]; rfl) rfl rfl
    · have e2 := eq_no h2
      have g2 : ¬ c = 116 := fun h => h2 (by rw [h]; rfl)
      clear h2
      by_cases h3 : c.toNat = 100
      · have d1 := eq_yes h3
        have HC := Lib.hid (u8_eq (by decide) h3)
        clear h3 g1 g2
        go_enter Try.func72, Try.ntmps72
        go_wp2_with fail
        refine (peek_in W p s c r HP.out).mono ?_
        rintro e w' ⟨rfl, n, rfl⟩
        go_wp2_with fail
        refine (where_any 77 digB _ (fun c w => enter_f _ c w (.inl rfl)) isDigit_any).mono ?_
        rintro e w' ⟨rfl, hb, hat⟩
        go_wp2_with fail
        go_ret2
        exact post_cls HP.out HB.out (by rw [HC.out]; rfl) hb hat rfl (by simp [ptr])
      · have e3 := eq_no h3
        have g3 : ¬ c = 100 := fun h => h3 (by rw [h]; rfl)
        clear h3
        by_cases h4 : c.toNat = 119
        · have d1 := eq_yes h4
          have HC := Lib.hid (u8_eq (by decide) h4)
          clear h4 g1 g2 g3
          go_enter Try.func72, Try.ntmps72
          go_wp2_with fail
          refine (peek_in W p s c r HP.out).mono ?_
          rintro e w' ⟨rfl, n, rfl⟩
          go_wp2_with fail
          refine (where_any 78 wordB _ (fun c w => enter_f _ c w (.inr (.inl rfl))) word_any).mono ?_
          rintro e w' ⟨rfl, hb, hat⟩
          go_wp2_with fail
          go_ret2
          exact post_cls HP.out HB.out (by rw [HC.out]; rfl) hb hat rfl (by simp [ptr])
        · have e4 := eq_no h4
          have g4 : ¬ c = 119 := fun h => h4 (by rw [h]; rfl)
          clear h4
          have HU : Hid (escU c = if letB c || digB c then none else some (.byte c)) := Lib.hid (by unfold escU; rw [if_neg g1, if_neg g2, if_neg g3, if_neg g4])
          clear g1 g2 g3 g4
          rcases hl : letB c
          · rcases hd : digB c
            · have H1 := Lib.hid hl
              have H2 := Lib.hid hd
              clear hl hd
              go_enter Try.func72, Try.ntmps72
              go_wp2_with fail
              refine (peek_in W p s c r HP.out).mono ?_
              rintro e w' ⟨rfl, n, rfl⟩
              go_wp2_with fail
              refine (isLetter_any _ _).mono ?_
              rintro e w' ⟨rfl, rfl⟩
              rw [H1.out]
              go_wp2_with fail
              refine (isDigit_any _ _).mono ?_
              rintro e w' ⟨rfl, rfl⟩
              rw [H2.out]
              go_wp2_with fail
              refine (plainByte_any _ _).mono ?_
              rintro e w' ⟨rfl, rfl⟩
              go_wp2_with fail
              go_ret2
              exact post_byte HP.out HB.out (by rw [HU.out, H1.out, H2.out]; rfl) rfl rfl
            · have H1 := Lib.hid hl
              have H2 := Lib.hid hd
              clear hl hd
              go_enter Try.func72, Try.ntmps72
              go_wp2_with fail
              refine (peek_in W p s c r HP.out).mono ?_
              rintro e w' ⟨rfl, n, rfl⟩
              go_wp2_with fail
              refine (isLetter_any _ _).mono ?_
              rintro e w' ⟨rfl, rfl⟩
              rw [H1.out]
              go_wp2_with fail
              refine (isDigit_any _ _).mono ?_
              rintro e w' ⟨rfl, rfl⟩
              rw [H2.out]
              go_wp2_with fail
              go_ret2
              exact UPost.no (by rw [HU.out, H1.out, H2.out]; rfl) (((Keep.refl p W).drewN _).set _ _)
          · have H1 := Lib.hid hl
            clear hl
            go_enter Try.func72, Try.ntmps72
            go_wp2_with fail
            refine (peek_in W p s c r HP.out).mono ?_
            rintro e w' ⟨rfl, n, rfl⟩
            go_wp2_with fail
            refine (isLetter_any _ _).mono ?_
            rintro e w' ⟨rfl, rfl⟩
            rw [H1.out]
            go_wp2_with fail
            go_ret2
            exact UPost.no (by rw [HU.out, H1.out]; rfl) (((Keep.refl p W).drewN _).set _ _)
end Go.Proofs.Ytheblleadjbndaa
