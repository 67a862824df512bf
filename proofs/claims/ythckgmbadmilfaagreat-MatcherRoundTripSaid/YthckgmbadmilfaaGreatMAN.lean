/- The parser's walks: sequence. The parser's walks: choice, parse. -/
import Derived.Test.YthckgmbadmilfaaGreatMAM
import Derived.Test.YthckgmbadmilfaaGreatMAA
import Derived.OwnWalk
namespace Go.Proofs.YthckgmbadmilfaaGreat
open Go.RowKit Rx

theorem info_ptree : (Tryz.prog.info? 115).map (fun i => (i.zero, i.size, i.bytes)) = some (some (.pointer none), 1, 8) := by kernel_rfl

/-- The blocks of what a loop has gathered: new, and neither the node nor the slice that grows. -/
def Got (W wr : World) (t : Nat) (sv : Value) (k : Nat) : Prop := Fresh W wr k ∧ k ≠ t ∧ sv.ownBlock ≠ some k
/-- What is told of values stays told. -/
def Stable (Q : (Nat → Prop) → World → List Value → Prop) : Prop := ∀ (S S' : Nat → Prop) (W W' : World) (xs : List Value), Same S W W' → (∀ k, S k → S' k) → Q S W xs → Q S' W' xs
/-- What a loop that gathers trees has in memory at the head of a round: the node t, its slice sv of the trees xs. -/
structure NodeIn (kind : Int) (Q : (Nat → Prop) → World → List Value → Prop) (W : World) (p : Nat) (s : ByteArray) (t : Nat) (sv : Value) (xs : List Value) (l : List UInt8) (wr : World) : Prop where
  ps : PS wr p s l
  keep : Keep p W wr
  node : At wr t (nd kind false 0 (.pointer none) sv) 121
  new : W.heap.size ≤ t
  own : wr.ownsRow 0 115 1 sv xs.length xs
  row : ∀ g, sv.ownBlock = some g → Fresh W wr g ∧ g ≠ t
  list : Q (Got W wr t sv) wr xs
  len : xs.length + l.length ≤ s.size + 1
theorem NodeIn.drewN {kind : Int} {Q : (Nat → Prop) → World → List Value → Prop} (hQ : Stable Q) {W : World} {p : Nat} {s : ByteArray} {t : Nat} {sv : Value} {xs : List Value} {l : List UInt8} {wr : World} (h : NodeIn kind Q W p s t sv xs l wr) (n : Nat) : NodeIn kind Q W p s t sv xs l (wr.drewN n) :=
  ⟨h.ps.drewN n, h.keep.drewN n, h.node.drewN n, h.new, h.own, h.row, hQ (Got W wr t sv) _ wr _ xs (fun _ _ => rfl) (fun _ hk => hk) h.list, h.len⟩
theorem owns_slice {w : World} {e size n : Nat} {v : Value} {xs : List Value} (h : w.ownsRow 0 e size v n xs) : ∃ sa sn sc, v = .slice sa sn sc := by
  rcases h.2 with ⟨rfl, _⟩ | ⟨g, cap, cur, rfl, _⟩
  · exact ⟨_, _, _, rfl⟩
  · exact ⟨_, _, _, rfl⟩
/-- Behind a call that keeps all but the parser. -/
theorem NodeIn.call {kind : Int} {Q : (Nat → Prop) → World → List Value → Prop} (hQ : Stable Q) {W : World} {p : Nat} {s : ByteArray} {t : Nat} {sv : Value} {xs : List Value} {l l' : List UInt8} {wr w2 : World} (h : NodeIn kind Q W p s t sv xs l wr) (hp : p < W.heap.size) (hk : Keep p wr w2) (hps : PS w2 p s l') (hl : l'.length ≤ l.length) : NodeIn kind Q W p s t sv xs l' w2 := by
  have hnew := h.new
  have hlen := h.len
  refine ⟨hps, h.keep.trans hk, h.node.keep hk (by omega), h.new, ?_, ?_, ?_, by omega⟩
  · exact owns_same (S := Fresh W wr) h.own (fun g hg => (h.row g hg).1) (Fresh.keep hk hp).1
  · exact fun g hg => ⟨(Fresh.keep hk hp).2 g (h.row g hg).1, (h.row g hg).2⟩
  · exact hQ _ _ _ _ xs (fun k hk2 => (Fresh.keep hk hp).1 k hk2.1) (fun k hk2 => ⟨(Fresh.keep hk hp).2 k hk2.1, hk2.2⟩) h.list
/-- Behind the append, and the store into the node. -/
theorem NodeIn.put {kind : Int} {Q Q' X : (Nat → Prop) → World → List Value → Prop} (hQ : Stable Q) (hX : Stable X) {W : World} {p : Nat} {s : ByteArray} {t : Nat} {sv sv' : Value} {xs : List Value} {l : List UInt8} {wr w2 w3 : World} {x y : Value} {n : Nat} (h : NodeIn kind Q W p s t sv xs l w2) (hp : p < W.heap.size) (hx : X (Fresh wr w2) w2 [x])
    (hsn : ∀ S W, Q S W xs → X S W [x] → Q' S W (xs ++ [x])) (hW : W.heap.size ≤ wr.heap.size) (ht : t < wr.heap.size) (hrow : ∀ g, sv.ownBlock = some g → g < wr.heap.size)
    (hown : w3.ownsRow 0 115 1 sv' n (xs ++ [x])) (hn : n = xs.length + 1) (hg : (w2.alloc (.cells #[y] 115)).grownBy w3 sv.ownBlock) (hw : sv'.ownBlock = sv.ownBlock ∨ sv'.ownBlock = some (w2.alloc (.cells #[y] 115)).heap.size) (hlen : xs.length + 1 + l.length ≤ s.size + 1) :
    NodeIn kind Q' W p s t sv' (xs ++ [x]) l (w3.setCell ⟨t, 4, none⟩ sv') := by
  have hnew := h.new
  have hpt : p ≠ t := by omega
  have hs3 : w2.heap.size + 1 ≤ w3.heap.size := by have := hg.size; rw [alloc_size] at this; exact this
  have hsz : (w3.setCell ⟨t, 4, none⟩ sv').heap.size = w3.heap.size := by simp
  have hrowp : sv.ownBlock ≠ some p := fun e => by have := (h.row p e).1.1; omega
  have hrowt : sv.ownBlock ≠ some t := fun e => (h.row t e).2 rfl
  have hp3 : At w3 p #[.string s, .int .i64 ((s.size - l.length : Nat) : Int)] 154 := (h.ps.at_.alloc _).grown hg hrowp
  have ht3 : At w3 t (nd kind false 0 (.pointer none) sv) 121 := (h.node.alloc _).grown hg hrowt
  have hsame : ∀ k, k < w2.heap.size → sv.ownBlock ≠ some k → k ≠ t → (w3.setCell ⟨t, 4, none⟩ sv').heap[k]? = w2.heap[k]? := fun k h1 h2 h3 => by
    rw [Below.heap_setCell w3 ⟨t, 4, none⟩ sv' k h3, hg.block k (by rw [alloc_size]; omega) (fun e => h2 e.symm), Below.heap_alloc _ _ _ h1]
  have hnewrow : ∀ g, sv'.ownBlock = some g → Fresh W w3 g ∧ g ≠ t ∧ (sv.ownBlock = some g ∨ w2.heap.size < g) := fun g hg' => by
    have hlt := hown.lt g hg'
    rcases hw with e | e
    · rw [e] at hg'
      have := h.row g hg'
      exact ⟨⟨this.1.1, hlt.2⟩, this.2, .inl hg'⟩
    · rw [e] at hg'
      injection hg' with hg'
      rw [alloc_size] at hg'
      have := h.node.lt
      have := h.keep.size
      exact ⟨⟨by omega, hlt.2⟩, by omega, .inr (by omega)⟩
  have hsmall : ∀ k, k < w2.heap.size → sv.ownBlock ≠ some k → sv'.ownBlock ≠ some k := fun k h1 h2 h3 => by
    rcases (hnewrow k h3).2.2 with e | e
    · exact h2 e
    · omega
  refine ⟨⟨h.ps.le, h.ps.rest, hp3.other _ (by show p ≠ t; exact hpt)⟩, ?_, ht3.set 4 sv', h.new, ?_, ?_, ?_, by simp; omega⟩
  · refine ⟨hg.os.trans h.keep.os, hg.tape.trans h.keep.tape, hg.output.trans h.keep.output, by rw [hsz]; have := h.keep.size; omega, fun k hk hne => ?_⟩
    have h1 := h.keep.size
    rw [hsame k (by omega) (fun e => by have := (h.row k e).1.1; omega) (by omega), h.keep.block k hk hne]
  · have e : (xs ++ [x]).length = n := by simp [hn]
    rw [e]
    refine owns_same (S := fun k => k ≠ t) hown (fun g hg' => (hnewrow g hg').2.1) (fun k hk => Below.heap_setCell w3 ⟨t, 4, none⟩ sv' k hk)
  · exact fun g hg' => ⟨⟨(hnewrow g hg').1.1, by rw [hsz]; exact (hnewrow g hg').1.2⟩, (hnewrow g hg').2.1⟩
  · apply hsn
    · refine hQ _ _ _ _ xs (fun k hk => ?_) (fun k hk => ?_) h.list
      · exact hsame k hk.1.2 hk.2.2 hk.2.1
      · exact ⟨⟨hk.1.1, by rw [hsz]; have := hk.1.2; omega⟩, hk.2.1, hsmall k hk.1.2 hk.2.2⟩
    · refine hX _ _ _ _ [x] (fun k hk => ?_) (fun k hk => ?_) hx
      · exact hsame k hk.2 (fun e => by have := hrow k e; have := hk.1; omega) (by have := hk.1; omega)
      · exact ⟨⟨Nat.le_trans hW hk.1, by rw [hsz]; have := hk.2; omega⟩, by have := hk.1; omega, hsmall k hk.2 (fun e => by have := hrow k e; have := hk.1; omega)⟩

/-- The trees of factors. -/
def SlQ (d : Ss) (S : Nat → Prop) (W : World) (xs : List Value) : Prop := IsSl S W d xs
theorem SlQ.stable (d : Ss) : Stable (SlQ d) := fun _ _ _ _ xs hs hc h => IsSl.same hs hc d xs h
/-- One tree. -/
def UQ6 (u : U) (S : Nat → Prop) (W : World) (xs : List Value) : Prop := ∃ x, xs = [x] ∧ IsU S W u x
theorem UQ6.stable (u : U) : Stable (UQ6 u) := fun _ _ _ _ _ hs hc ⟨x, e, h⟩ => ⟨x, e, IsU.same hs hc u x h⟩
theorem isSl_snoc {S : Nat → Prop} {W : World} {u : U} {x : Value} (hx : IsU S W u x) : ∀ (d : Ss) (xs : List Value), IsSl S W d xs → IsSl S W (cat d (.cons u .nil)) (xs ++ [x])
  | .nil, xs, h => by
    unfold IsSl at h
    subst h
    unfold cat IsSl
    exact ⟨x, [], rfl, hx, by unfold IsSl; rfl⟩
  | .cons u' d, xs, h => by
    unfold IsSl at h
    obtain ⟨y, ys, rfl, h1, h2⟩ := h
    unfold cat IsSl
    exact ⟨y, ys ++ [x], rfl, h1, isSl_snoc hx d ys h2⟩
theorem seq_post {W : World} {p : Nat} {s : ByteArray} {t : Nat} {sv : Value} {xs : List Value} {d : Ss} {l : List UInt8} {wr : World} (h : NodeIn 1 (SlQ d) W p s t sv xs l wr) {res : Option (Ss × List UInt8)} (hr : res = some (d, l)) : SPost p s W res (.returned (.tuple #[ptr t, .bool true])) wr := by
  subst hr
  refine ⟨h.keep, _, rfl, ⟨t, sv, xs, ⟨h.new, h.node.lt⟩, rfl, h.node, ⟨h.own, fun g hg => (h.row g hg).1⟩, ?_⟩, h.ps⟩
  exact IsSl.same (Same.refl _ _) (fun k hk => hk.1) d xs h.list
theorem SPost.no {p : Nat} {s : ByteArray} {W w' : World} {res : Option (Ss × List UInt8)} (hr : res = none) (hk : Keep p W w') : SPost p s W res (.returned (.tuple #[.pointer none, .bool false])) w' := by
  subst hr; exact ⟨hk, rfl⟩
/-- Where the sequence's result stands. -/
def SeqR (n : Nat) (R : Option (Ss × List UInt8)) (d : Ss) (l : List UInt8) : Prop := ∃ m, m < n ∧ 4 * l.length + 1 ≤ m ∧ R = (seqs (m + 1) l).map fun x => (cat d x.1, x.2)
theorem SeqR.stop {n : Nat} {R : Option (Ss × List UInt8)} {d : Ss} {l : List UInt8} (h : SeqR n R d l) (hl : l = [] ∨ ∃ c r, l = c :: r ∧ (c = 124 ∨ c = 41)) : R = some (d, l) := by
  obtain ⟨m, _, _, rfl⟩ := h
  rcases hl with rfl | ⟨c, r, rfl, hc⟩
  · simp [seqs, cat_nil]
  · simp [seqs, hc, cat_nil]
theorem SeqR.none {n : Nat} {R : Option (Ss × List UInt8)} {d : Ss} {c : UInt8} {r : List UInt8} (h : SeqR n R d (c :: r)) (hc : ¬ (c = 124 ∨ c = 41)) : ∃ m, m < n ∧ 4 * (c :: r).length + 1 ≤ m ∧ (∀ x, (atom m (c :: r)).map (fun x => quant x.1 x.2) = x → (x = .none → R = .none) ∧ ∀ u l', x = some (u, l') → l'.length < (c :: r).length ∧ SeqR n R (cat d (.cons u .nil)) l') := by
  obtain ⟨m, h1, h2, rfl⟩ := h
  refine ⟨m, h1, h2, ?_⟩
  rintro x rfl
  have e : seqs (m + 1) (c :: r) = (atom m (c :: r)).bind fun (u, r1) => (seqs m (quant u r1).2).map fun (s, r2) => (.cons (quant u r1).1 s, r2) := by
    simp only [seqs]; rw [if_neg hc]
  rw [e]
  refine ⟨fun hx => ?_, fun u l' hx => ?_⟩
  · rw [Option.map_eq_none_iff] at hx
    rw [hx]; rfl
  · rw [Option.map_eq_some_iff] at hx
    obtain ⟨⟨u0, r1⟩, ha, hq⟩ := hx
    simp only at hq
    rw [ha]
    simp only [Option.bind_some]
    rw [hq]
    have e1 := (short m).2.2 _ _ _ ha
    have e2 := quant_short u0 r1
    rw [hq] at e2
    simp only at e2
    simp only [List.length_cons] at h2 e1
    refine ⟨by simp only [List.length_cons]; omega, m - 1, by omega, by omega, ?_⟩
    rw [Nat.sub_add_cancel (by omega)]
    rcases seqs m l' with _ | ⟨s, r2⟩
    · rfl
    · simp only [Option.map_some]; rw [cat_snoc]

theorem new_one (w : World) (x : Value) (T : TypeId) : ∀ j u, [x][j]? = some u → (w.alloc (.cells #[x] T)).cell? ((⟨w.heap.size, 0, none⟩ : Addr).add j) = some u := by
  intro j u h
  rcases j with _ | j
  · injection h with h
    subst h
    exact (At.new w #[x] T).cell 0
  · simp at h
theorem one_ptr (b : Nat) : ∀ u ∈ [Value.pointer (some ⟨b, 0, none⟩)], u.oneCell' = true := by
  intro u hu
  rw [List.mem_singleton] at hu
  subst hu; rfl
theorem len_small {n : Nat} (h : n ≤ 1001) : n + 1 ≤ maxLen := by unfold maxLen; omega
theorem len_bytes {n : Nat} (h : n ≤ 1001) : (n + 1) * 8 ≤ 140737488355328 := by omega

set_option maxRecDepth 100000 in
set_option maxHeartbeats 1000000 in
theorem seq_ok (n : Nat) (hA : ∀ m, m < n → AtomOK m) : SeqOK n := by
  intro W p s l hs h hn
  obtain ⟨i0, hi, hz0, hz1, hz2⟩ := info_parts info_ptree
  have HI := Lib.hid hi
  have HZ0 := Lib.hid hz0
  have HZ1 := Lib.hid hz1
  have HZ2 := Lib.hid hz2
  have HA := Lib.hid hA
  have hpl := h.lt
  obtain ⟨R, hR⟩ : ∃ R, R = seqs n l := ⟨_, rfl⟩
  have HR : Hid (SeqR n R .nil l) := Lib.hid ⟨n - 1, by omega, by omega, by
    rw [Nat.sub_add_cancel (by omega), hR]
    rcases seqs n l with _ | x
    · rfl
    · rfl⟩
  have HRE := Lib.hid hR
  have HP := Lib.hid h
  clear hi hz0 hz1 hz2 hA hR h hn
  rw [← HRE.out]
  unfold ptr
  go_enter Tryz.func155, Tryz.ntmps155
  go_wp2_with fail
  obtain ⟨t, ht⟩ : ∃ t, t = W.heap.size := ⟨_, rfl⟩
  have hin : NodeIn 1 (SlQ .nil) W p s t (.slice none 0 0) [] l (W.alloc (.cells (nd 1 false 0 (.pointer none) (.slice none 0 0)) 121)) := by
    subst ht
    refine ⟨HP.out.alloc _, (Keep.refl _ _).alloc _, At.new _ _ _, Nat.le_refl _, World.ownsRow_nil _ _ _ _, (fun g hg => by cases hg), ?_, ?_⟩
    · unfold SlQ IsSl; rfl
    · have := HP.out.le; simp; omega
  have HIN := Lib.hid hin
  clear hin
  have hw1 : (W.alloc (.cells (nd 1 false 0 (.pointer none) (.slice none 0 0)) 121)) = (W.alloc (.cells #[.int .i64 1, .bool false, .int .u8 0, .pointer none, .slice none 0 0] 121)) := rfl
  rw [hw1] at HIN
  clear hw1
  generalize (W.alloc (.cells #[.int .i64 1, .bool false, .int .u8 0, .pointer none, .slice none 0 0] 121)) = w1 at *
  rw [← ht]
  clear ht
  go_loopw [5] (fun _ wr => ∃ (sv : Value) (xs : List Value) (d : Ss) (lc : List UInt8), NodeIn 1 (SlQ d) W p s t sv xs lc wr ∧ SeqR n R d lc) (fun _ wr => ahead s p wr)
  case atStart => exact ⟨_, _, _, l, HIN.out, HR.out⟩
  case round =>
    clear HIN HR
    obtain ⟨sv, xs, d, lc, hin, hr⟩ := hrel
    obtain ⟨sa, sn, sc, rfl⟩ := owns_slice hin.own
    have HIN := Lib.hid hin
    have HR := Lib.hid hr
    clear hin hr
    rcases lc with _ | ⟨c, r⟩
    · go_wp2_with fail
      refine (peek_end wr p s HIN.out.ps).mono ?_
      rintro e w' ⟨rfl, k, rfl⟩
      go_wp2_with fail
      go_ret2
      exact seq_post (HIN.out.drewN (SlQ.stable _) _) (HR.out.stop (.inl rfl))
    · by_cases hc1 : c.toNat = 124
      · have d1 : ((c.toNat : Int) == 124) = true := by rw [hc1]; rfl
        have HC := Lib.hid (u8_eq (by decide) hc1)
        clear hc1
        go_wp2_with fail
        refine (peek_in wr p s c r HIN.out.ps).mono ?_
        rintro e w' ⟨rfl, k, rfl⟩
        go_wp2_with fail
        go_ret2
        exact seq_post (HIN.out.drewN (SlQ.stable _) _) (HR.out.stop (.inr ⟨c, r, rfl, .inl HC.out⟩))
      · have e1 : ((c.toNat : Int) == 124) = false := by rw [beq_eq_false_iff_ne]; omega
        have G1 : Hid (¬ c = 124) := Lib.hid fun h => hc1 (by rw [h]; rfl)
        clear hc1
        by_cases hc2 : c.toNat = 41
        · have d2 : ((c.toNat : Int) == 41) = true := by rw [hc2]; rfl
          have HC := Lib.hid (u8_eq (by decide) hc2)
          clear hc2
          go_wp2_with fail
          refine (peek_in wr p s c r HIN.out.ps).mono ?_
          rintro e w' ⟨rfl, k, rfl⟩
          go_wp2_with fail
          go_ret2
          exact seq_post (HIN.out.drewN (SlQ.stable _) _) (HR.out.stop (.inr ⟨c, r, rfl, .inr HC.out⟩))
        · have e2 : ((c.toNat : Int) == 41) = false := by rw [beq_eq_false_iff_ne]; omega
          have G2 : Hid (¬ (c = 124 ∨ c = 41)) := Lib.hid fun h => by
            rcases h with h | h
            · exact G1.out h
            · exact hc2 (by rw [h]; rfl)
          clear hc2
          obtain ⟨m, hm1, hm2, hm3⟩ := HR.out.none G2.out
          have HM := Lib.hid hm3
          clear hm3
          go_wp2_with fail
          refine (peek_in wr p s c r HIN.out.ps).mono ?_
          rintro e w' ⟨rfl, k, rfl⟩
          have HIN2 := Lib.hid (HIN.out.drewN (SlQ.stable _) k)
          have HSZ : Hid (ahead s p wr = (c :: r).length) := Lib.hid HIN.out.ps.ahead
          have HF := Lib.hid (factor_ok m (HA.out m hm1) (wr.drewN k) p s (c :: r) hs HIN2.out.ps hm2)
          go_wp2_with fail
          generalize wr.drewN k = w2 at *
          refine (HF.out).mono ?_
          rintro e w3 ⟨hk3, h3⟩
          obtain ⟨x, hx⟩ : ∃ x, x = (atom m (c :: r)).map fun x => quant x.1 x.2 := ⟨_, rfl⟩
          have HX := Lib.hid (HM.out x hx.symm)
          rw [← hx] at h3
          have HK3 := Lib.hid hk3
          clear hx hk3 HF
          rcases x with _ | ⟨u, l'⟩
          · simp only at h3
            subst h3
            go_wp2_with fail
            go_ret2
            exact SPost.no (by first | exact HX.out.1 rfl | exact HX.out.1 trivial) (HIN2.out.keep.trans HK3.out)
          · simp only at h3
            obtain ⟨v, rfl, hu, hp3⟩ := h3
            obtain ⟨vb, rfl⟩ := IsU.ptr u v hu
            have HU := Lib.hid hu
            have hshort := (HX.out.2 u l' rfl).1
            have HIN3 := Lib.hid (HIN2.out.call (SlQ.stable _) hpl HK3.out hp3 (by omega))
            have c4 : w3.cell? ⟨t, 4, none⟩ = some (.slice sa sn sc) := HIN3.out.node.cell 4
            have hxl : xs.length ≤ 1001 := by have := HIN3.out.len; omega
            have HXL := Lib.hid hxl
            clear hu hp3 hxl
            unfold ptr
            go_wp2_with ((with_reducible refine wpList_append_where _ rfl (.tmp 38) (.tmp 40) 119 rfl 115 i0 (.pointer none) 1 8 Tryz.underlying119 HI.out HZ0.out HZ1.out HZ2.out rfl (by decide) (.slice sa sn sc) xs.length xs rfl (HIN3.out.own.alloc _) ⟨w3.heap.size, 0, none⟩ 1 1 [.pointer (some ⟨vb, 0, none⟩)] rfl (by decide) rfl (new_one w3 _ _) (one_ptr _) (len_small HXL.out) (len_bytes HXL.out) ?_))
            intro sv' w4 hown hgrow hwhere
            have hat := (HIN3.out.node.alloc (.cells #[.pointer (some ⟨vb, 0, none⟩)] 115)).grown hgrow (fun e => (HIN3.out.row t e).2 rfl)
            have c5 : w4.cell? ⟨t, 4, none⟩ = some (.slice sa sn sc) := hat.cell 4
            have c6 := hat.free 4
            obtain ⟨ta, tn, tc, rfl⟩ := owns_slice hown
            have HOWN := Lib.hid hown
            have HGROW := Lib.hid hgrow
            have HWHERE := Lib.hid hwhere
            clear hown hgrow hwhere hat c4
            have HPUT : Hid (NodeIn 1 (SlQ (cat d (.cons u .nil))) W p s t (.slice ta tn tc) (xs ++ [.pointer (some ⟨vb, 0, none⟩)]) l' (w4.setCell ⟨t, 4, none⟩ (.slice ta tn tc))) := Lib.hid (HIN3.out.put (X := UQ6 u) (SlQ.stable _) (UQ6.stable _) hpl ⟨_, rfl, HU.out⟩ (fun S W h1 ⟨x, e, h2⟩ => by
              injection e with e
              subst e
              exact isSl_snoc h2 _ _ h1) HIN2.out.keep.size HIN2.out.node.lt (fun g hg => (HIN2.out.row g hg).1.2) HOWN.out rfl HGROW.out (by rw [alloc_size]; exact HWHERE.out) (by have := HIN2.out.len; omega))
            go_wp2_with fail
            go_roundw
            case rel => exact ⟨_, _, _, l', HPUT.out, (HX.out.2 u l' rfl).2⟩
            case measure => rw [HPUT.out.ps.ahead, HSZ.out]; exact hshort
end Go.Proofs.YthckgmbadmilfaaGreat

namespace Go.Proofs.YthckgmbadmilfaaGreat
open Go.RowKit Rx

/-- Nodes of sequences. -/
def NsQ : List Ss → (Nat → Prop) → World → List Value → Prop
  | [], _, _, xs => xs = []
  | d :: l, S, W, xs => ∃ x ys, xs = x :: ys ∧ (Node S W 1 x fun zs => IsSl S W d zs) ∧ NsQ l S W ys
/-- The node of a sequence. -/
def SQ (d : Ss) (S : Nat → Prop) (W : World) (xs : List Value) : Prop := ∃ x, xs = [x] ∧ Node S W 1 x fun zs => IsSl S W d zs
theorem SQ.stable (d : Ss) : Stable (SQ d) := fun _ _ _ _ _ hs hc ⟨x, e, h⟩ => ⟨x, e, h.same hs hc fun zs hz => IsSl.same hs hc d zs hz⟩
theorem NsQ.stable (l : List Ss) : Stable (NsQ l) := by
  induction l with
  | nil => exact fun _ _ _ _ _ _ _ h => h
  | cons d l ih => exact fun _ _ _ _ _ hs hc ⟨x, ys, e, h1, h2⟩ => ⟨x, ys, e, h1.same hs hc fun zs hz => IsSl.same hs hc d zs hz, ih _ _ _ _ _ hs hc h2⟩
theorem NsQ.snoc {S : Nat → Prop} {W : World} {d : Ss} {x : Value} (hx : Node S W 1 x fun zs => IsSl S W d zs) (l : List Ss) : ∀ xs, NsQ l S W xs → NsQ (l ++ [d]) S W (xs ++ [x]) := by
  induction l with
  | nil => intro xs h; unfold NsQ at h; subst h; exact ⟨x, [], rfl, hx, rfl⟩
  | cons e l ih => intro xs ⟨y, ys, e1, h1, h2⟩; subst e1; exact ⟨y, ys ++ [x], rfl, h1, ih ys h2⟩
theorem NsQ.al {S : Nat → Prop} {W : World} {d : Ss} (l : List Ss) : ∀ xs, NsQ (l ++ [d]) S W xs → IsAl S W (ahd l (.one d)) xs := by
  induction l with
  | nil =>
    intro xs ⟨x, ys, e, h1, h2⟩
    unfold NsQ at h2
    subst h2 e
    unfold ahd IsAl
    exact ⟨x, rfl, h1⟩
  | cons c l ih =>
    intro xs ⟨x, ys, e, h1, h2⟩
    unfold ahd IsAl
    exact ⟨x, ys, e, h1, ih ys h2⟩
theorem APost.no {p : Nat} {s : ByteArray} {W w' : World} {res : Option (As × List UInt8)} (hr : res = none) (hk : Keep p W w') : APost p s W res (.returned (.tuple #[.pointer none, .bool false])) w' := by
  subst hr; exact ⟨hk, rfl⟩
/-- One alternative alone: its own node is handed back. -/
theorem alt_one {W : World} {p : Nat} {s : ByteArray} {t : Nat} {sv : Value} {x : Value} {d : Ss} {l : List UInt8} {wr : World} (h : NodeIn 2 (NsQ [d]) W p s t sv [x] l wr) {res : Option (As × List UInt8)} (hr : res = some (.one d, l)) : APost p s W res (.returned (.tuple #[x, .bool true])) wr := by
  subst hr
  obtain ⟨y, ys, e, h1, h2⟩ := h.list
  injection e with e1 e2
  subst e1
  refine ⟨h.keep, _, rfl, ?_, h.ps⟩
  unfold IsA
  exact h1.same (Same.refl _ _) (fun k hk => hk.1) fun zs hz => IsSl.same (Same.refl _ _) (fun k hk => hk.1) d zs hz
theorem alt_more {W : World} {p : Nat} {s : ByteArray} {t : Nat} {sv : Value} {xs : List Value} {c d : Ss} {l : List Ss} {lc : List UInt8} {wr : World} (h : NodeIn 2 (NsQ (c :: l ++ [d])) W p s t sv xs lc wr) {res : Option (As × List UInt8)} (hr : res = some (ahd (c :: l) (.one d), lc)) : APost p s W res (.returned (.tuple #[ptr t, .bool true])) wr := by
  subst hr
  refine ⟨h.keep, _, rfl, ?_, h.ps⟩
  have h2 := NsQ.stable _ _ _ _ _ xs (Same.refl _ _) (fun k (hk : Got W wr t sv k) => hk.1) h.list
  obtain ⟨x, ys, e, h3, h4⟩ := h2
  unfold ahd IsA
  exact ⟨t, sv, xs, ⟨h.new, h.node.lt⟩, rfl, h.node, ⟨h.own, fun g hg => (h.row g hg).1⟩, x, ys, e, h3, NsQ.al l ys h4⟩
/-- Where the alternatives' result stands. -/
def AltR (n : Nat) (R : Option (As × List UInt8)) (ss : List Ss) (l : List UInt8) : Prop := ∃ m, m < n ∧ 4 * l.length + 2 ≤ m ∧ R = (alts (m + 1) l).map fun x => (ahd ss x.1, x.2)
theorem alts_succ (m : Nat) (l : List UInt8) : alts (m + 1) l = (seqs m l).bind fun (d, r) => if (skipped 124 r).1 then (alts m (skipped 124 r).2).map fun (a, r'') => (.more d a, r'') else some (.one d, r) := by
  rw [alts]
  rcases seqs m l with _ | ⟨d, r⟩
  · rfl
  simp only [Option.bind_some]
  rcases r with _ | ⟨c, t⟩
  · rfl
  · by_cases hc : c = 124
    · subst hc; rfl
    · simp only [skipped, if_neg hc]
      split
      · rename_i h
        exact absurd (List.cons.inj h).1 hc
      · rfl
theorem AltR.next {n : Nat} {R : Option (As × List UInt8)} {ss : List Ss} {l : List UInt8} (h : AltR n R ss l) : ∃ m, m < n ∧ 4 * l.length + 2 ≤ m ∧ (∀ x, seqs m l = x → (x = .none → R = .none) ∧ ∀ d r, x = some (d, r) → r.length ≤ l.length ∧ ((skipped 124 r).1 = false → R = some (ahd ss (.one d), r)) ∧ ((skipped 124 r).1 = true → (skipped 124 r).2.length < l.length ∧ AltR n R (ss ++ [d]) (skipped 124 r).2)) := by
  obtain ⟨m, h1, h2, rfl⟩ := h
  refine ⟨m, h1, h2, ?_⟩
  rintro x rfl
  rw [alts_succ]
  refine ⟨fun hx => by rw [hx]; rfl, fun d r hx => ?_⟩
  have e1 := (short m).2.1 _ _ _ hx
  rw [hx]
  simp only [Option.bind_some]
  refine ⟨e1, fun hb => by rw [hb]; rfl, fun hb => ?_⟩
  rw [hb]
  have e2 : (skipped 124 r).2.length < r.length := by
    unfold skipped at hb ⊢
    rcases r with _ | ⟨c, t⟩
    · cases hb
    · simp only at hb ⊢
      split
      · simp
      · rename_i hc; rw [if_neg hc] at hb; cases hb
  refine ⟨by omega, m - 1, by omega, by omega, ?_⟩
  rw [Nat.sub_add_cancel (by omega)]
  simp only [if_true]
  rcases alts m (skipped 124 r).2 with _ | ⟨a, r2⟩
  · rfl
  · simp only [Option.map_some]; rw [ahd_snoc]

theorem owns_some {w : World} {e n : Nat} {v : Value} {xs : List Value} (h : w.ownsRow 0 e 1 v n xs) (hn : 0 < n) : ∃ g cap, v = .slice (some ⟨g, 0, none⟩) n cap ∧ n ≤ cap ∧ ∀ j u, xs[j]? = some u → w.cell? ⟨g, j, none⟩ = some u := by
  have hc := fun g hg => h.cells (g := g) hg
  rcases h.2 with ⟨rfl, h0⟩ | ⟨g, cap, cur, rfl, _, _, hnc, _⟩
  · omega
  · refine ⟨g, cap, rfl, hnc, fun j u hu => ?_⟩
    have := hc g rfl j u hu
    have e1 : (⟨g, 0, none⟩ : Addr).add j = ⟨g, j, none⟩ := by unfold Addr.add; simp; omega
    rwa [e1] at this

set_option maxRecDepth 100000 in
set_option maxHeartbeats 1000000 in
theorem alt_ok (n : Nat) (hA : ∀ m, m < n → SeqOK m) : AltOK n := by
  intro W p s l hs h hn
  obtain ⟨i0, hi, hz0, hz1, hz2⟩ := info_parts info_ptree
  have HI := Lib.hid hi
  have HZ0 := Lib.hid hz0
  have HZ1 := Lib.hid hz1
  have HZ2 := Lib.hid hz2
  have HA := Lib.hid hA
  have hpl := h.lt
  obtain ⟨R, hR⟩ : ∃ R, R = alts n l := ⟨_, rfl⟩
  have HR : Hid (AltR n R [] l) := Lib.hid ⟨n - 1, by omega, by omega, by
    rw [Nat.sub_add_cancel (by omega), hR]
    rcases alts n l with _ | x
    · rfl
    · rfl⟩
  have HRE := Lib.hid hR
  have HP := Lib.hid h
  clear hi hz0 hz1 hz2 hA hR h hn
  rw [← HRE.out]
  unfold ptr
  go_enter Tryz.func136, Tryz.ntmps136
  go_wp2_with fail
  obtain ⟨t, ht⟩ : ∃ t, t = W.heap.size := ⟨_, rfl⟩
  have hin : NodeIn 2 (NsQ []) W p s t (.slice none 0 0) [] l (W.alloc (.cells (nd 2 false 0 (.pointer none) (.slice none 0 0)) 121)) := by
    subst ht
    refine ⟨HP.out.alloc _, (Keep.refl _ _).alloc _, At.new _ _ _, Nat.le_refl _, World.ownsRow_nil _ _ _ _, (fun g hg => by cases hg), rfl, ?_⟩
    have := HP.out.le; simp; omega
  have HIN := Lib.hid hin
  clear hin
  have hw1 : (W.alloc (.cells (nd 2 false 0 (.pointer none) (.slice none 0 0)) 121)) = (W.alloc (.cells #[.int .i64 2, .bool false, .int .u8 0, .pointer none, .slice none 0 0] 121)) := rfl
  rw [hw1] at HIN
  clear hw1
  generalize (W.alloc (.cells #[.int .i64 2, .bool false, .int .u8 0, .pointer none, .slice none 0 0] 121)) = w1 at *
  rw [← ht]
  clear ht
  go_loopw [5] (fun _ wr => ∃ (sv : Value) (xs : List Value) (ss : List Ss) (lc : List UInt8), NodeIn 2 (NsQ ss) W p s t sv xs lc wr ∧ AltR n R ss lc ∧ xs.length = ss.length ∧ xs.length + lc.length ≤ s.size) (fun _ wr => ahead s p wr)
  case atStart => exact ⟨_, _, _, l, HIN.out, HR.out, rfl, by have := HP.out.le; simpa using this⟩
  case round =>
    clear HIN HR
    obtain ⟨sv, xs, ss, lc, hin, hr, hxl, hxs⟩ := hrel
    obtain ⟨sa, sn, sc, rfl⟩ := owns_slice hin.own
    obtain ⟨m, hm1, hm2, hm3⟩ := hr.next
    have HIN := Lib.hid hin
    have HM := Lib.hid hm3
    have HXE := Lib.hid hxl
    have HSZ : Hid (ahead s p wr = lc.length) := Lib.hid hin.ps.ahead
    have HF := Lib.hid (HA.out m hm1 wr p s lc hs hin.ps hm2)
    clear hin hr hm3 hxl
    go_wp2_with fail
    refine (HF.out).mono ?_
    rintro e w3 ⟨hk3, h3⟩
    obtain ⟨x, hx⟩ : ∃ x, x = seqs m lc := ⟨_, rfl⟩
    have HX := Lib.hid (HM.out x hx.symm)
    rw [← hx] at h3
    have HK3 := Lib.hid hk3
    clear hx hk3 HF
    rcases x with _ | ⟨d, l'⟩
    · simp only at h3
      subst h3
      go_wp2_with fail
      go_ret2
      exact APost.no (by first | exact HX.out.1 rfl | exact HX.out.1 trivial) (HIN.out.keep.trans HK3.out)
    · simp only at h3
      obtain ⟨v, rfl, hu, hp3⟩ := h3
      have hptr : ∃ vb, v = ptr vb := by obtain ⟨b, _, _, _, e, _⟩ := hu; exact ⟨b, e⟩
      obtain ⟨vb, rfl⟩ := hptr
      have HU := Lib.hid hu
      have hle := (HX.out.2 d l' rfl).1
      have HIN3 := Lib.hid (HIN.out.call (NsQ.stable _) hpl HK3.out hp3 hle)
      have c4 : w3.cell? ⟨t, 4, none⟩ = some (.slice sa sn sc) := HIN3.out.node.cell 4
      have hxl : xs.length ≤ 1001 := by have := HIN3.out.len; omega
      have HXL := Lib.hid hxl
      have HSK := Lib.hid (fun (w : World) h => skip_any w p s 124 124 l' rfl hs h)
      clear hu hp3 hxl
      unfold ptr
      go_wp2_with ((with_reducible refine wpList_append_where _ rfl (.tmp 20) (.tmp 22) 119 rfl 115 i0 (.pointer none) 1 8 Tryz.underlying119 HI.out HZ0.out HZ1.out HZ2.out rfl (by decide) (.slice sa sn sc) xs.length xs rfl (HIN3.out.own.alloc _) ⟨w3.heap.size, 0, none⟩ 1 1 [.pointer (some ⟨vb, 0, none⟩)] rfl (by decide) rfl (new_one w3 _ _) (one_ptr _) (len_small HXL.out) (len_bytes HXL.out) ?_))
      intro sv' w4 hown hgrow hwhere
      have hat := (HIN3.out.node.alloc (.cells #[.pointer (some ⟨vb, 0, none⟩)] 115)).grown hgrow (fun e => (HIN3.out.row t e).2 rfl)
      have c5 : w4.cell? ⟨t, 4, none⟩ = some (.slice sa sn sc) := hat.cell 4
      have c6 := hat.free 4
      obtain ⟨g, cap, rfl, hcap, hcell⟩ := owns_some hown (Nat.succ_pos _)
      have HPUT : Hid (NodeIn 2 (NsQ (ss ++ [d])) W p s t (.slice (some ⟨g, 0, none⟩) (xs.length + 1) cap) (xs ++ [.pointer (some ⟨vb, 0, none⟩)]) l' (w4.setCell ⟨t, 4, none⟩ (.slice (some ⟨g, 0, none⟩) (xs.length + 1) cap))) := Lib.hid (HIN3.out.put (X := SQ d) (NsQ.stable _) (SQ.stable _) hpl ⟨_, rfl, HU.out⟩ (fun S W h1 ⟨x, e, h2⟩ => by
        injection e with e
        subst e
        exact NsQ.snoc h2 _ _ h1) HIN.out.keep.size HIN.out.node.lt (fun g hg => (HIN.out.row g hg).1.2) hown rfl hgrow (by rw [alloc_size]; exact hwhere) (by omega))
      have HCAP := Lib.hid hcap
      clear hown hgrow hwhere hat c4 hcell hcap
      go_wp2_with fail
      generalize (w4.setCell ⟨t, 4, none⟩ (.slice (some ⟨g, 0, none⟩) (xs.length + 1) cap)) = w5 at *
      refine (HSK.out w5 HPUT.out.ps).mono ?_
      rintro e w6 ⟨rfl, hk6, hp6⟩
      have HP6 := Lib.hid hp6
      have HIN6 := Lib.hid (HPUT.out.call (NsQ.stable _) hpl hk6 hp6 (skipped_le _ _))
      clear hk6 hp6
      cases hb : (skipped 124 l').1
      · have HRR := Lib.hid ((HX.out.2 d l' rfl).2.1 hb)
        have e6 := skipped_no hb
        rw [e6] at HIN6
        have c7 : w6.cell? ⟨t, 4, none⟩ = some (.slice (some ⟨g, 0, none⟩) (xs.length + 1) cap) := HIN6.out.node.cell 4
        clear hb e6
        rcases ss with _ | ⟨c, ss⟩
        · have e7 : xs = [] := List.eq_nil_of_length_eq_zero HXE.out
          subst e7
          have c8 : w6.cell? ⟨g, 0, none⟩ = some (.pointer (some ⟨vb, 0, none⟩)) := by
            obtain ⟨g', cap', e8, _, hc8⟩ := owns_some HIN6.out.own (by simp)
            injection e8 with e9
            injection e9 with e9
            injection e9 with e9
            subst e9
            exact hc8 0 _ rfl
          go_wp2_with fail
          go_ret2
          exact alt_one HIN6.out HRR.out
        · have d1 : (((xs.length : Int) + 1) == 1) = false := by rw [beq_eq_false_iff_ne]; have := HXE.out; simp only [List.length_cons] at this; omega
          go_wp2_with fail
          go_ret2
          exact alt_more HIN6.out HRR.out
      · have HRR := Lib.hid ((HX.out.2 d l' rfl).2.2 hb)
        clear hb
        go_wp2_with fail
        go_roundw
        case rel => exact ⟨_, _, _, _, HIN6.out, HRR.out.2, by simp [HXE.out], by have := HRR.out.1; simp only [List.length_append, List.length_singleton]; omega⟩
        case measure => rw [HIN6.out.ps.ahead, HSZ.out]; exact HRR.out.1
end Go.Proofs.YthckgmbadmilfaaGreat
