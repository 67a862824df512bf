/- The parser's walks: sequence. The parser's walks: choice, parse. The parser's walks: parse. The machine's walks: frames by types, what a machine is in memory. The machine's walks: acceptance, and the states of bytes. The machine's walks: add at a repetition. The machine's walks: add at sequences and alternatives. The machine's walks: add at alternatives, add at every tree, build. The machine's walks: build. The walk of Quote. -/
import Derived.Test.YtheblleadjbndaaKaC
import Derived.Test.YtheblleadjbndaaKaA
import Derived.OwnWalk
import Derived.Deep.RegionHeld3
import Derived.Deep.AppendLies
import Derived.Deep.RegionLaw
import Derived.Test.YtheblleadjbndaaKaB
import Derived.Laws.IdiomStrings
import Derived.Deep.LoopGhost
import Derived.Deep.DeepCutAuto
namespace Go.Proofs.Ytheblleadjbndaa
open Go.RowKit Rx

theorem info_ptree : (Try.prog.info? 37).map (fun i => (i.zero, i.size, i.bytes)) = some (some (.pointer none), 1, 8) := by kernel_rfl

/-- The blocks of what a loop has gathered: new, and neither the node nor the slice that grows. -/
def Got (W wr : World) (t : Nat) (sv : Value) (k : Nat) : Prop := Fresh W wr k ∧ k ≠ t ∧ sv.ownBlock ≠ some k
/-- What is told of values stays told. -/
def Stable (Q : (Nat → Prop) → World → List Value → Prop) : Prop := ∀ (S S' : Nat → Prop) (W W' : World) (xs : List Value), Same S W W' → (∀ k, S k → S' k) → Q S W xs → Q S' W' xs
/-- What a loop that gathers trees has in memory at the head of a round: the node t, its slice sv of the trees xs. -/
structure NodeIn (kind : Int) (Q : (Nat → Prop) → World → List Value → Prop) (W : World) (p : Nat) (s : ByteArray) (t : Nat) (sv : Value) (xs : List Value) (l : List UInt8) (wr : World) : Prop where
  ps : PS wr p s l
  keep : Keep p W wr
  node : At wr t (nd kind false 0 (.pointer none) sv) 54
  new : W.heap.size ≤ t
  own : wr.ownsRow 0 37 1 sv xs.length xs
  row : ∀ g, sv.ownBlock = some g → Fresh W wr g ∧ g ≠ t
  list : Q (Got W wr t sv) wr xs
  len : xs.length + l.length ≤ s.size + 1
theorem NodeIn.drewN {kind : Int} {Q : (Nat → Prop) → World → List Value → Prop} (hQ : Stable Q) {W : World} {p : Nat} {s : ByteArray} {t : Nat} {sv : Value} {xs : List Value} {l : List UInt8} {wr : World} (h : NodeIn kind Q W p s t sv xs l wr) (n : Nat) : NodeIn kind Q W p s t sv xs l (wr.drewN n) :=
  ⟨h.ps.drewN n, h.keep.drewN n, h.node.drewN n, h.new, h.own, h.row, hQ (Got W wr t sv) _ wr _ xs (fun _ _ => rfl) (fun _ hk => hk) h.list, h.len⟩
theorem owns_slice {w : World} {e size n : Nat} {v : Value} {xs : List Value} (h : w.ownsRow 0 e size v n xs) : ∃ sa sn sc, v = .slice sa sn sc := by
  rcases h.2 with ⟨rfl, _⟩ | ⟨g, cap, cur, rfl, _⟩
  · exact ⟨_, _, _, rfl⟩
  · exact ⟨_, _, _, rfl⟩
/-- Behind a call that keeps all but the parser. -/
theorem NodeIn.call {kind : Int} {Q : (Nat → Prop) → World → List Value → Prop} (hQ : Stable Q) {W : World} {p : Nat} {s : ByteArray} {t : Nat} {sv : Value} {xs : List Value} {l l' : List UInt8} {wr w2 : World} (h : NodeIn kind Q W p s t sv xs l wr) (hp : p < W.heap.size) (hk : Keep p wr w2) (hps : PS w2 p s l') (hl : l'.length ≤ l.length) : NodeIn kind Q W p s t sv xs l' w2 := by
  have hnew := h.new
  have hlen := h.len
  refine ⟨hps, h.keep.trans hk, h.node.keep hk (by omega), h.new, ?_, ?_, ?_, by omega⟩
  · exact owns_same (S := Fresh W wr) h.own (fun g hg => (h.row g hg).1) (Fresh.keep hk hp).1
  · exact fun g hg => ⟨(Fresh.keep hk hp).2 g (h.row g hg).1, (h.row g hg).2⟩
  · exact hQ _ _ _ _ xs (fun k hk2 => (Fresh.keep hk hp).1 k hk2.1) (fun k hk2 => ⟨(Fresh.keep hk hp).2 k hk2.1, hk2.2⟩) h.list
/-- Behind the append, and the store into the node. -/
theorem NodeIn.put {kind : Int} {Q Q' X : (Nat → Prop) → World → List Value → Prop} (hQ : Stable Q) (hX : Stable X) {W : World} {p : Nat} {s : ByteArray} {t : Nat} {sv sv' : Value} {xs : List Value} {l : List UInt8} {wr w2 w3 : World} {x y : Value} {n : Nat} (h : NodeIn kind Q W p s t sv xs l w2) (hp : p < W.heap.size) (hx : X (Fresh wr w2) w2 [x])
    (hsn : ∀ S W, Q S W xs → X S W [x] → Q' S W (xs ++ [x])) (hW : W.heap.size ≤ wr.heap.size) (ht : t < wr.heap.size) (hrow : ∀ g, sv.ownBlock = some g → g < wr.heap.size)
    (hown : w3.ownsRow 0 37 1 sv' n (xs ++ [x])) (hn : n = xs.length + 1) (hg : (w2.alloc (.cells #[y] 37)).grownBy w3 sv.ownBlock) (hw : sv'.ownBlock = sv.ownBlock ∨ sv'.ownBlock = some (w2.alloc (.cells #[y] 37)).heap.size) (hlen : xs.length + 1 + l.length ≤ s.size + 1) :
    NodeIn kind Q' W p s t sv' (xs ++ [x]) l (w3.setCell ⟨t, 4, none⟩ sv') := by
  have hnew := h.new
  have hpt : p ≠ t := by omega
  have hs3 : w2.heap.size + 1 ≤ w3.heap.size := by have := hg.size; rw [alloc_size] at this; exact this
  have hsz : (w3.setCell ⟨t, 4, none⟩ sv').heap.size = w3.heap.size := by simp
  have hrowp : sv.ownBlock ≠ some p := fun e => by have := (h.row p e).1.1; omega
  have hrowt : sv.ownBlock ≠ some t := fun e => (h.row t e).2 rfl
  have hp3 : At w3 p #[.string s, .int .i64 ((s.size - l.length : Nat) : Int)] 62 := (h.ps.at_.alloc _).grown hg hrowp
  have ht3 : At w3 t (nd kind false 0 (.pointer none) sv) 54 := (h.node.alloc _).grown hg hrowt
  have hsame : ∀ k, k < w2.heap.size → sv.ownBlock ≠ some k → k ≠ t → (w3.setCell ⟨t, 4, none⟩ sv').heap[k]? = w2.heap[k]? := fun k h1 h2 h3 => by
    rw [Below.heap_setCell w3 ⟨t, 4, none⟩ sv' k h3, hg.block k (by rw [alloc_size]; omega) (fun e => h2 e.symm), Below.heap_alloc _ _ _ h1]
  have hnewrow : ∀ g, sv'.ownBlock = some g → Fresh W w3 g ∧ g ≠ t ∧ (sv.ownBlock = some g ∨ w2.heap.size < g) := fun g hg' => by
    have hlt := hown.lt g hg'
    rcases hw with e | e
    · rw [e] at hg'
      have := h.row g hg'
      exact ⟨⟨this.1.1, hlt.2⟩, this.2, .inl hg'⟩
    · rw [e] at hg'
      injection hg' with hg'
      rw [alloc_size] at hg'
      have := h.node.lt
      have := h.keep.size
      exact ⟨⟨by omega, hlt.2⟩, by omega, .inr (by omega)⟩
  have hsmall : ∀ k, k < w2.heap.size → sv.ownBlock ≠ some k → sv'.ownBlock ≠ some k := fun k h1 h2 h3 => by
    rcases (hnewrow k h3).2.2 with e | e
    · exact h2 e
    · omega
  refine ⟨⟨h.ps.le, h.ps.rest, hp3.other _ (by show p ≠ t; exact hpt)⟩, ?_, ht3.set 4 sv', h.new, ?_, ?_, ?_, by simp; omega⟩
  · refine ⟨hg.os.trans h.keep.os, hg.tape.trans h.keep.tape, hg.output.trans h.keep.output, by rw [hsz]; have := h.keep.size; omega, fun k hk hne => ?_⟩
    have h1 := h.keep.size
    rw [hsame k (by omega) (fun e => by have := (h.row k e).1.1; omega) (by omega), h.keep.block k hk hne]
  · have e : (xs ++ [x]).length = n := by simp [hn]
    rw [e]
    refine owns_same (S := fun k => k ≠ t) hown (fun g hg' => (hnewrow g hg').2.1) (fun k hk => Below.heap_setCell w3 ⟨t, 4, none⟩ sv' k hk)
  · exact fun g hg' => ⟨⟨(hnewrow g hg').1.1, by rw [hsz]; exact (hnewrow g hg').1.2⟩, (hnewrow g hg').2.1⟩
  · apply hsn
    · refine hQ _ _ _ _ xs (fun k hk => ?_) (fun k hk => ?_) h.list
      · exact hsame k hk.1.2 hk.2.2 hk.2.1
      · exact ⟨⟨hk.1.1, by rw [hsz]; have := hk.1.2; omega⟩, hk.2.1, hsmall k hk.1.2 hk.2.2⟩
    · refine hX _ _ _ _ [x] (fun k hk => ?_) (fun k hk => ?_) hx
      · exact hsame k hk.2 (fun e => by have := hrow k e; have := hk.1; omega) (by have := hk.1; omega)
      · exact ⟨⟨Nat.le_trans hW hk.1, by rw [hsz]; have := hk.2; omega⟩, by have := hk.1; omega, hsmall k hk.2 (fun e => by have := hrow k e; have := hk.1; omega)⟩

/-- The trees of factors. -/
def SlQ (d : Ss) (S : Nat → Prop) (W : World) (xs : List Value) : Prop := IsSl S W d xs
theorem SlQ.stable (d : Ss) : Stable (SlQ d) := fun _ _ _ _ xs hs hc h => IsSl.same hs hc d xs h
/-- One tree. -/
def UQ (u : U) (S : Nat → Prop) (W : World) (xs : List Value) : Prop := ∃ x, xs = [x] ∧ IsU S W u x
theorem UQ.stable (u : U) : Stable (UQ u) := fun _ _ _ _ _ hs hc ⟨x, e, h⟩ => ⟨x, e, IsU.same hs hc u x h⟩
theorem isSl_snoc {S : Nat → Prop} {W : World} {u : U} {x : Value} (hx : IsU S W u x) : ∀ (d : Ss) (xs : List Value), IsSl S W d xs → IsSl S W (cat d (.cons u .nil)) (xs ++ [x])
  | .nil, xs, h => by
    unfold IsSl at h
    subst h
    unfold cat IsSl
    exact ⟨x, [], rfl, hx, by unfold IsSl; rfl⟩
  | .cons u' d, xs, h => by
    unfold IsSl at h
    obtain ⟨y, ys, rfl, h1, h2⟩ := h
    unfold cat IsSl
    exact ⟨y, ys ++ [x], rfl, h1, isSl_snoc hx d ys h2⟩
theorem seq_post {W : World} {p : Nat} {s : ByteArray} {t : Nat} {sv : Value} {xs : List Value} {d : Ss} {l : List UInt8} {wr : World} (h : NodeIn 1 (SlQ d) W p s t sv xs l wr) {res : Option (Ss × List UInt8)} (hr : res = some (d, l)) : SPost p s W res (.returned (.tuple #[ptr t, .bool true])) wr := by
  subst hr
  refine ⟨h.keep, _, rfl, ⟨t, sv, xs, ⟨h.new, h.node.lt⟩, rfl, h.node, ⟨h.own, fun g hg => (h.row g hg).1⟩, ?_⟩, h.ps⟩
  exact IsSl.same (Same.refl _ _) (fun k hk => hk.1) d xs h.list
theorem SPost.no {p : Nat} {s : ByteArray} {W w' : World} {res : Option (Ss × List UInt8)} (hr : res = none) (hk : Keep p W w') : SPost p s W res (.returned (.tuple #[.pointer none, .bool false])) w' := by
  subst hr; exact ⟨hk, rfl⟩
/-- Where the sequence's result stands. -/
def SeqR (n : Nat) (R : Option (Ss × List UInt8)) (d : Ss) (l : List UInt8) : Prop := ∃ m, m < n ∧ 4 * l.length + 1 ≤ m ∧ R = (seqs (m + 1) l).map fun x => (cat d x.1, x.2)
theorem SeqR.stop {n : Nat} {R : Option (Ss × List UInt8)} {d : Ss} {l : List UInt8} (h : SeqR n R d l) (hl : l = [] ∨ ∃ c r, l = c :: r ∧ (c = 124 ∨ c = 41)) : R = some (d, l) := by
  obtain ⟨m, _, _, rfl⟩ := h
  rcases hl with rfl | ⟨c, r, rfl, hc⟩
  · simp [seqs, cat_nil]
  · simp [seqs, hc, cat_nil]
theorem SeqR.none {n : Nat} {R : Option (Ss × List UInt8)} {d : Ss} {c : UInt8} {r : List UInt8} (h : SeqR n R d (c :: r)) (hc : ¬ (c = 124 ∨ c = 41)) : ∃ m, m < n ∧ 4 * (c :: r).length + 1 ≤ m ∧ (∀ x, (atom m (c :: r)).map (fun x => quant x.1 x.2) = x → (x = .none → R = .none) ∧ ∀ u l', x = some (u, l') → l'.length < (c :: r).length ∧ SeqR n R (cat d (.cons u .nil)) l') := by
  obtain ⟨m, h1, h2, rfl⟩ := h
  refine ⟨m, h1, h2, ?_⟩
  rintro x rfl
  have e : seqs (m + 1) (c :: r) = (atom m (c :: r)).bind fun (u, r1) => (seqs m (quant u r1).2).map fun (s, r2) => (.cons (quant u r1).1 s, r2) := by
    simp only [seqs]; rw [if_neg hc]
  rw [e]
  refine ⟨fun hx => ?_, fun u l' hx => ?_⟩
  · rw [Option.map_eq_none_iff] at hx
    rw [hx]; rfl
  · rw [Option.map_eq_some_iff] at hx
    obtain ⟨⟨u0, r1⟩, ha, hq⟩ := hx
    simp only at hq
    rw [ha]
    simp only [Option.bind_some]
    rw [hq]
    have e1 := (short m).2.2 _ _ _ ha
    have e2 := quant_short u0 r1
    rw [hq] at e2
    simp only at e2
    simp only [List.length_cons] at h2 e1
    refine ⟨by simp only [List.length_cons]; omega, m - 1, by omega, by omega, ?_⟩
    rw [Nat.sub_add_cancel (by omega)]
    rcases seqs m l' with _ | ⟨s, r2⟩
    · rfl
    · simp only [Option.map_some]; rw [cat_snoc]

theorem new_one (w : World) (x : Value) (T : TypeId) : ∀ j u, [x][j]? = some u → (w.alloc (.cells #[x] T)).cell? ((⟨w.heap.size, 0, none⟩ : Addr).add j) = some u := by
  intro j u h
  rcases j with _ | j
  · injection h with h
    subst h
    exact (At.new w #[x] T).cell 0
  · simp at h
theorem one_ptr (b : Nat) : ∀ u ∈ [Value.pointer (some ⟨b, 0, none⟩)], u.oneCell' = true := by
  intro u hu
  rw [List.mem_singleton] at hu
  subst hu; rfl
theorem len_small {n : Nat} (h : n ≤ 1001) : n + 1 ≤ maxLen := by unfold maxLen; omega
theorem len_bytes {n : Nat} (h : n ≤ 1001) : (n + 1) * 8 ≤ 140737488355328 := by omega

set_option maxRecDepth 100000 in
set_option maxHeartbeats 1000000 in
theorem seq_ok (n : Nat) (hA : ∀ m, m < n → AtomOK m) : SeqOK n := by
  intro W p s l hs h hn
  obtain ⟨i0, hi, hz0, hz1, hz2⟩ := info_parts info_ptree
  have HI := Lib.hid hi
  have HZ0 := Lib.hid hz0
  have HZ1 := Lib.hid hz1
  have HZ2 := Lib.hid hz2
  have HA := Lib.hid hA
  have hpl := h.lt
  obtain ⟨R, hR⟩ : ∃ R, R = seqs n l := ⟨_, rfl⟩
  have HR : Hid (SeqR n R .nil l) := Lib.hid ⟨n - 1, by omega, by omega, by
    rw [Nat.sub_add_cancel (by omega), hR]
    rcases seqs n l with _ | x
    · rfl
    · rfl⟩
  have HRE := Lib.hid hR
  have HP := Lib.hid h
  clear hi hz0 hz1 hz2 hA hR h hn
  rw [← HRE.out]
  unfold ptr
  go_enter Try.func49, Try.ntmps49
  go_wp2_with fail
  obtain ⟨t, ht⟩ : ∃ t, t = W.heap.size := ⟨_, rfl⟩
  have hin : NodeIn 1 (SlQ .nil) W p s t (.slice none 0 0) [] l (W.alloc (.cells (nd 1 false 0 (.pointer none) (.slice none 0 0)) 54)) := by
    subst ht
    refine ⟨HP.out.alloc _, (Keep.refl _ _).alloc _, At.new _ _ _, Nat.le_refl _, World.ownsRow_nil _ _ _ _, (fun g hg => by cases hg), ?_, ?_⟩
    · unfold SlQ IsSl; rfl
    · have := HP.out.le; simp; omega
  have HIN := Lib.hid hin
  clear hin
  have hw1 : (W.alloc (.cells (nd 1 false 0 (.pointer none) (.slice none 0 0)) 54)) = (W.alloc (.cells #[.int .i64 1, .bool false, .int .u8 0, .pointer none, .slice none 0 0] 54)) := rfl
  rw [hw1] at HIN
  clear hw1
  generalize (W.alloc (.cells #[.int .i64 1, .bool false, .int .u8 0, .pointer none, .slice none 0 0] 54)) = w1 at *
  rw [← ht]
  clear ht
  go_loopw [5] (fun _ wr => ∃ (sv : Value) (xs : List Value) (d : Ss) (lc : List UInt8), NodeIn 1 (SlQ d) W p s t sv xs lc wr ∧ SeqR n R d lc) (fun _ wr => ahead s p wr)
  case atStart => exact ⟨_, _, _, l, HIN.out, HR.out⟩
  case round =>
    clear HIN HR
    obtain ⟨sv, xs, d, lc, hin, hr⟩ := hrel
    obtain ⟨sa, sn, sc, rfl⟩ := owns_slice hin.own
    have HIN := Lib.hid hin
    have HR := Lib.hid hr
    clear hin hr
    rcases lc with _ | ⟨c, r⟩
    · go_wp2_with fail
      refine (peek_end wr p s HIN.out.ps).mono ?_
      rintro e w' ⟨rfl, k, rfl⟩
      go_wp2_with fail
      go_ret2
      exact seq_post (HIN.out.drewN (SlQ.stable _) _) (HR.out.stop (.inl rfl))
    · by_cases hc1 : c.toNat = 124
      · have d1 : ((c.toNat : Int) == 124) = true := by rw [hc1]; rfl
        have HC := Lib.hid (u8_eq (by decide) hc1)
        clear hc1
        go_wp2_with fail
        refine (peek_in wr p s c r HIN.out.ps).mono ?_
        rintro e w' ⟨rfl, k, rfl⟩
        go_wp2_with fail
        go_ret2
        exact seq_post (HIN.out.drewN (SlQ.stable _) _) (HR.out.stop (.inr ⟨c, r, rfl, .inl HC.out⟩))
      · have e1 : ((c.toNat : Int) == 124) = false := by rw [beq_eq_false_iff_ne]; omega
        have G1 : Hid (¬ c = 124) := Lib.hid fun h => hc1 (by rw [h]; rfl)
        clear hc1
        by_cases hc2 : c.toNat = 41
        · have d2 : ((c.toNat : Int) == 41) = true := by rw [hc2]; rfl
          have HC := Lib.hid (u8_eq (by decide) hc2)
          clear hc2
          go_wp2_with fail
          refine (peek_in wr p s c r HIN.out.ps).mono ?_
          rintro e w' ⟨rfl, k, rfl⟩
          go_wp2_with fail
          go_ret2
          exact seq_post (HIN.out.drewN (SlQ.stable _) _) (HR.out.stop (.inr ⟨c, r, rfl, .inr HC.out⟩))
        · have e2 : ((c.toNat : Int) == 41) = false := by rw [beq_eq_false_iff_ne]; omega
          have G2 : Hid (¬ (c = 124 ∨ c = 41)) := Lib.hid fun h => by
            rcases h with h | h
            · exact G1.out h
            · exact hc2 (by rw [h]; rfl)
          clear hc2
          obtain ⟨m, hm1, hm2, hm3⟩ := HR.out.none G2.out
          have HM := Lib.hid hm3
          clear hm3
          go_wp2_with fail
          refine (peek_in wr p s c r HIN.out.ps).mono ?_
          rintro e w' ⟨rfl, k, rfl⟩
          have HIN2 := Lib.hid (HIN.out.drewN (SlQ.stable _) k)
          have HSZ : Hid (ahead s p wr = (c :: r).length) := Lib.hid HIN.out.ps.ahead
          have HF := Lib.hid (factor_ok m (HA.out m hm1) (wr.drewN k) p s (c :: r) hs HIN2.out.ps hm2)
          go_wp2_with fail
          generalize wr.drewN k = w2 at *
          refine (HF.out).mono ?_
          rintro e w3 ⟨hk3, h3⟩
          obtain ⟨x, hx⟩ : ∃ x, x = (atom m (c :: r)).map fun x => quant x.1 x.2 := ⟨_, rfl⟩
          have HX := Lib.hid (HM.out x hx.symm)
          rw [← hx] at h3
          have HK3 := Lib.hid hk3
          clear hx hk3 HF
          rcases x with _ | ⟨u, l'⟩
          · simp only at h3
            subst h3
            go_wp2_with fail
            go_ret2
            exact SPost.no (by first | exact HX.out.1 rfl | exact HX.out.1 trivial) (HIN2.out.keep.trans HK3.out)
          · simp only at h3
            obtain ⟨v, rfl, hu, hp3⟩ := h3
            obtain ⟨vb, rfl⟩ := IsU.ptr u v hu
            have HU := Lib.hid hu
            have hshort := (HX.out.2 u l' rfl).1
            have HIN3 := Lib.hid (HIN2.out.call (SlQ.stable _) hpl HK3.out hp3 (by omega))
            have c4 : w3.cell? ⟨t, 4, none⟩ = some (.slice sa sn sc) := HIN3.out.node.cell 4
            have hxl : xs.length ≤ 1001 := by have := HIN3.out.len; omega
            have HXL := Lib.hid hxl
            clear hu hp3 hxl
            unfold ptr
            go_wp2_with ((with_reducible refine wpList_append_where _ rfl (.tmp 38) (.tmp 40) 52 rfl 37 i0 (.pointer none) 1 8 Try.underlying52 HI.out HZ0.out HZ1.out HZ2.out rfl (by decide) (.slice sa sn sc) xs.length xs rfl (HIN3.out.own.alloc _) ⟨w3.heap.size, 0, none⟩ 1 1 [.pointer (some ⟨vb, 0, none⟩)] rfl (by decide) rfl (new_one w3 _ _) (one_ptr _) (len_small HXL.out) (len_bytes HXL.out) ?_))
            intro sv' w4 hown hgrow hwhere
            have hat := (HIN3.out.node.alloc (.cells #[.pointer (some ⟨vb, 0, none⟩)] 37)).grown hgrow (fun e => (HIN3.out.row t e).2 rfl)
            have c5 : w4.cell? ⟨t, 4, none⟩ = some (.slice sa sn sc) := hat.cell 4
            have c6 := hat.free 4
            obtain ⟨ta, tn, tc, rfl⟩ := owns_slice hown
            have HOWN := Lib.hid hown
            have HGROW := Lib.hid hgrow
            have HWHERE := Lib.hid hwhere
            clear hown hgrow hwhere hat c4
            have HPUT : Hid (NodeIn 1 (SlQ (cat d (.cons u .nil))) W p s t (.slice ta tn tc) (xs ++ [.pointer (some ⟨vb, 0, none⟩)]) l' (w4.setCell ⟨t, 4, none⟩ (.slice ta tn tc))) := Lib.hid (HIN3.out.put (X := UQ u) (SlQ.stable _) (UQ.stable _) hpl ⟨_, rfl, HU.out⟩ (fun S W h1 ⟨x, e, h2⟩ => by
              injection e with e
              subst e
              exact isSl_snoc h2 _ _ h1) HIN2.out.keep.size HIN2.out.node.lt (fun g hg => (HIN2.out.row g hg).1.2) HOWN.out rfl HGROW.out (by rw [alloc_size]; exact HWHERE.out) (by have := HIN2.out.len; omega))
            go_wp2_with fail
            go_roundw
            case rel => exact ⟨_, _, _, l', HPUT.out, (HX.out.2 u l' rfl).2⟩
            case measure => rw [HPUT.out.ps.ahead, HSZ.out]; exact hshort
end Go.Proofs.Ytheblleadjbndaa

namespace Go.Proofs.Ytheblleadjbndaa
open Go.RowKit Rx

/-- Nodes of sequences. -/
def NsQ : List Ss → (Nat → Prop) → World → List Value → Prop
  | [], _, _, xs => xs = []
  | d :: l, S, W, xs => ∃ x ys, xs = x :: ys ∧ (Node S W 1 x fun zs => IsSl S W d zs) ∧ NsQ l S W ys
/-- The node of a sequence. -/
def SQ (d : Ss) (S : Nat → Prop) (W : World) (xs : List Value) : Prop := ∃ x, xs = [x] ∧ Node S W 1 x fun zs => IsSl S W d zs
theorem SQ.stable (d : Ss) : Stable (SQ d) := fun _ _ _ _ _ hs hc ⟨x, e, h⟩ => ⟨x, e, h.same hs hc fun zs hz => IsSl.same hs hc d zs hz⟩
theorem NsQ.stable (l : List Ss) : Stable (NsQ l) := by
  induction l with
  | nil => exact fun _ _ _ _ _ _ _ h => h
  | cons d l ih => exact fun _ _ _ _ _ hs hc ⟨x, ys, e, h1, h2⟩ => ⟨x, ys, e, h1.same hs hc fun zs hz => IsSl.same hs hc d zs hz, ih _ _ _ _ _ hs hc h2⟩
theorem NsQ.snoc {S : Nat → Prop} {W : World} {d : Ss} {x : Value} (hx : Node S W 1 x fun zs => IsSl S W d zs) (l : List Ss) : ∀ xs, NsQ l S W xs → NsQ (l ++ [d]) S W (xs ++ [x]) := by
  induction l with
  | nil => intro xs h; unfold NsQ at h; subst h; exact ⟨x, [], rfl, hx, rfl⟩
  | cons e l ih => intro xs ⟨y, ys, e1, h1, h2⟩; subst e1; exact ⟨y, ys ++ [x], rfl, h1, ih ys h2⟩
theorem NsQ.al {S : Nat → Prop} {W : World} {d : Ss} (l : List Ss) : ∀ xs, NsQ (l ++ [d]) S W xs → IsAl S W (ahd l (.one d)) xs := by
  induction l with
  | nil =>
    intro xs ⟨x, ys, e, h1, h2⟩
    unfold NsQ at h2
    subst h2 e
    unfold ahd IsAl
    exact ⟨x, rfl, h1⟩
  | cons c l ih =>
    intro xs ⟨x, ys, e, h1, h2⟩
    unfold ahd IsAl
    exact ⟨x, ys, e, h1, ih ys h2⟩
theorem APost.no {p : Nat} {s : ByteArray} {W w' : World} {res : Option (As × List UInt8)} (hr : res = none) (hk : Keep p W w') : APost p s W res (.returned (.tuple #[.pointer none, .bool false])) w' := by
  subst hr; exact ⟨hk, rfl⟩
/-- One alternative alone: its own node is handed back. -/
theorem alt_one {W : World} {p : Nat} {s : ByteArray} {t : Nat} {sv : Value} {x : Value} {d : Ss} {l : List UInt8} {wr : World} (h : NodeIn 2 (NsQ [d]) W p s t sv [x] l wr) {res : Option (As × List UInt8)} (hr : res = some (.one d, l)) : APost p s W res (.returned (.tuple #[x, .bool true])) wr := by
  subst hr
  obtain ⟨y, ys, e, h1, h2⟩ := h.list
  injection e with e1 e2
  subst e1
  refine ⟨h.keep, _, rfl, ?_, h.ps⟩
  unfold IsA
  exact h1.same (Same.refl _ _) (fun k hk => hk.1) fun zs hz => IsSl.same (Same.refl _ _) (fun k hk => hk.1) d zs hz
theorem alt_more {W : World} {p : Nat} {s : ByteArray} {t : Nat} {sv : Value} {xs : List Value} {c d : Ss} {l : List Ss} {lc : List UInt8} {wr : World} (h : NodeIn 2 (NsQ (c :: l ++ [d])) W p s t sv xs lc wr) {res : Option (As × List UInt8)} (hr : res = some (ahd (c :: l) (.one d), lc)) : APost p s W res (.returned (.tuple #[ptr t, .bool true])) wr := by
  subst hr
  refine ⟨h.keep, _, rfl, ?_, h.ps⟩
  have h2 := NsQ.stable _ _ _ _ _ xs (Same.refl _ _) (fun k (hk : Got W wr t sv k) => hk.1) h.list
  obtain ⟨x, ys, e, h3, h4⟩ := h2
  unfold ahd IsA
  exact ⟨t, sv, xs, ⟨h.new, h.node.lt⟩, rfl, h.node, ⟨h.own, fun g hg => (h.row g hg).1⟩, x, ys, e, h3, NsQ.al l ys h4⟩
/-- Where the alternatives' result stands. -/
def AltR (n : Nat) (R : Option (As × List UInt8)) (ss : List Ss) (l : List UInt8) : Prop := ∃ m, m < n ∧ 4 * l.length + 2 ≤ m ∧ R = (alts (m + 1) l).map fun x => (ahd ss x.1, x.2)
theorem alts_succ (m : Nat) (l : List UInt8) : alts (m + 1) l = (seqs m l).bind fun (d, r) => if (skipped 124 r).1 then (alts m (skipped 124 r).2).map fun (a, r'') => (.more d a, r'') else some (.one d, r) := by
  rw [alts]
  rcases seqs m l with _ | ⟨d, r⟩
  · rfl
  simp only [Option.bind_some]
  rcases r with _ | ⟨c, t⟩
  · rfl
  · by_cases hc : c = 124
    · subst hc; rfl
    · simp only [skipped, if_neg hc]
      split
      · rename_i h
        exact absurd (List.cons.inj h).1 hc
      · rfl
theorem AltR.next {n : Nat} {R : Option (As × List UInt8)} {ss : List Ss} {l : List UInt8} (h : AltR n R ss l) : ∃ m, m < n ∧ 4 * l.length + 2 ≤ m ∧ (∀ x, seqs m l = x → (x = .none → R = .none) ∧ ∀ d r, x = some (d, r) → r.length ≤ l.length ∧ ((skipped 124 r).1 = false → R = some (ahd ss (.one d), r)) ∧ ((skipped 124 r).1 = true → (skipped 124 r).2.length < l.length ∧ AltR n R (ss ++ [d]) (skipped 124 r).2)) := by
  obtain ⟨m, h1, h2, rfl⟩ := h
  refine ⟨m, h1, h2, ?_⟩
  rintro x rfl
  rw [alts_succ]
  refine ⟨fun hx => by rw [hx]; rfl, fun d r hx => ?_⟩
  have e1 := (short m).2.1 _ _ _ hx
  rw [hx]
  simp only [Option.bind_some]
  refine ⟨e1, fun hb => by rw [hb]; rfl, fun hb => ?_⟩
  rw [hb]
  have e2 : (skipped 124 r).2.length < r.length := by
    unfold skipped at hb ⊢
    rcases r with _ | ⟨c, t⟩
    · cases hb
    · simp only at hb ⊢
      split
      · simp
      · rename_i hc; rw [if_neg hc] at hb; cases hb
  refine ⟨by omega, m - 1, by omega, by omega, ?_⟩
  rw [Nat.sub_add_cancel (by omega)]
  simp only [if_true]
  rcases alts m (skipped 124 r).2 with _ | ⟨a, r2⟩
  · rfl
  · simp only [Option.map_some]; rw [ahd_snoc]

theorem owns_some {w : World} {e n : Nat} {v : Value} {xs : List Value} (h : w.ownsRow 0 e 1 v n xs) (hn : 0 < n) : ∃ g cap, v = .slice (some ⟨g, 0, none⟩) n cap ∧ n ≤ cap ∧ ∀ j u, xs[j]? = some u → w.cell? ⟨g, j, none⟩ = some u := by
  have hc := fun g hg => h.cells (g := g) hg
  rcases h.2 with ⟨rfl, h0⟩ | ⟨g, cap, cur, rfl, _, _, hnc, _⟩
  · omega
  · refine ⟨g, cap, rfl, hnc, fun j u hu => ?_⟩
    have := hc g rfl j u hu
    have e1 : (⟨g, 0, none⟩ : Addr).add j = ⟨g, j, none⟩ := by unfold Addr.add; simp; omega
    rwa [e1] at this

set_option maxRecDepth 100000 in
set_option maxHeartbeats 1000000 in
theorem alt_ok (n : Nat) (hA : ∀ m, m < n → SeqOK m) : AltOK n := by
  intro W p s l hs h hn
  obtain ⟨i0, hi, hz0, hz1, hz2⟩ := info_parts info_ptree
  have HI := Lib.hid hi
  have HZ0 := Lib.hid hz0
  have HZ1 := Lib.hid hz1
  have HZ2 := Lib.hid hz2
  have HA := Lib.hid hA
  have hpl := h.lt
  obtain ⟨R, hR⟩ : ∃ R, R = alts n l := ⟨_, rfl⟩
  have HR : Hid (AltR n R [] l) := Lib.hid ⟨n - 1, by omega, by omega, by
    rw [Nat.sub_add_cancel (by omega), hR]
    rcases alts n l with _ | x
    · rfl
    · rfl⟩
  have HRE := Lib.hid hR
  have HP := Lib.hid h
  clear hi hz0 hz1 hz2 hA hR h hn
  rw [← HRE.out]
  unfold ptr
  go_enter Try.func38, Try.ntmps38
  go_wp2_with fail
  obtain ⟨t, ht⟩ : ∃ t, t = W.heap.size := ⟨_, rfl⟩
  have hin : NodeIn 2 (NsQ []) W p s t (.slice none 0 0) [] l (W.alloc (.cells (nd 2 false 0 (.pointer none) (.slice none 0 0)) 54)) := by
    subst ht
    refine ⟨HP.out.alloc _, (Keep.refl _ _).alloc _, At.new _ _ _, Nat.le_refl _, World.ownsRow_nil _ _ _ _, (fun g hg => by cases hg), rfl, ?_⟩
    have := HP.out.le; simp; omega
  have HIN := Lib.hid hin
  clear hin
  have hw1 : (W.alloc (.cells (nd 2 false 0 (.pointer none) (.slice none 0 0)) 54)) = (W.alloc (.cells #[.int .i64 2, .bool false, .int .u8 0, .pointer none, .slice none 0 0] 54)) := rfl
  rw [hw1] at HIN
  clear hw1
  generalize (W.alloc (.cells #[.int .i64 2, .bool false, .int .u8 0, .pointer none, .slice none 0 0] 54)) = w1 at *
  rw [← ht]
  clear ht
  go_loopw [5] (fun _ wr => ∃ (sv : Value) (xs : List Value) (ss : List Ss) (lc : List UInt8), NodeIn 2 (NsQ ss) W p s t sv xs lc wr ∧ AltR n R ss lc ∧ xs.length = ss.length ∧ xs.length + lc.length ≤ s.size) (fun _ wr => ahead s p wr)
  case atStart => exact ⟨_, _, _, l, HIN.out, HR.out, rfl, by have := HP.out.le; simpa using this⟩
  case round =>
    clear HIN HR
    obtain ⟨sv, xs, ss, lc, hin, hr, hxl, hxs⟩ := hrel
    obtain ⟨sa, sn, sc, rfl⟩ := owns_slice hin.own
    obtain ⟨m, hm1, hm2, hm3⟩ := hr.next
    have HIN := Lib.hid hin
    have HM := Lib.hid hm3
    have HXE := Lib.hid hxl
    have HSZ : Hid (ahead s p wr = lc.length) := Lib.hid hin.ps.ahead
    have HF := Lib.hid (HA.out m hm1 wr p s lc hs hin.ps hm2)
    clear hin hr hm3 hxl
    go_wp2_with fail
    refine (HF.out).mono ?_
    rintro e w3 ⟨hk3, h3⟩
    obtain ⟨x, hx⟩ : ∃ x, x = seqs m lc := ⟨_, rfl⟩
    have HX := Lib.hid (HM.out x hx.symm)
    rw [← hx] at h3
    have HK3 := Lib.hid hk3
    clear hx hk3 HF
    rcases x with _ | ⟨d, l'⟩
    · simp only at h3
      subst h3
      go_wp2_with fail
      go_ret2
      exact APost.no (by first | exact HX.out.1 rfl | exact HX.out.1 trivial) (HIN.out.keep.trans HK3.out)
    · simp only at h3
      obtain ⟨v, rfl, hu, hp3⟩ := h3
      have hptr : ∃ vb, v = ptr vb := by obtain ⟨b, _, _, _, e, _⟩ := hu; exact ⟨b, e⟩
      obtain ⟨vb, rfl⟩ := hptr
      have HU := Lib.hid hu
      have hle := (HX.out.2 d l' rfl).1
      have HIN3 := Lib.hid (HIN.out.call (NsQ.stable _) hpl HK3.out hp3 hle)
      have c4 : w3.cell? ⟨t, 4, none⟩ = some (.slice sa sn sc) := HIN3.out.node.cell 4
      have hxl : xs.length ≤ 1001 := by have := HIN3.out.len; omega
      have HXL := Lib.hid hxl
      have HSK := Lib.hid (fun (w : World) h => skip_any w p s 124 124 l' rfl hs h)
      clear hu hp3 hxl
      unfold ptr
      go_wp2_with ((with_reducible refine wpList_append_where _ rfl (.tmp 20) (.tmp 22) 52 rfl 37 i0 (.pointer none) 1 8 Try.underlying52 HI.out HZ0.out HZ1.out HZ2.out rfl (by decide) (.slice sa sn sc) xs.length xs rfl (HIN3.out.own.alloc _) ⟨w3.heap.size, 0, none⟩ 1 1 [.pointer (some ⟨vb, 0, none⟩)] rfl (by decide) rfl (new_one w3 _ _) (one_ptr _) (len_small HXL.out) (len_bytes HXL.out) ?_))
      intro sv' w4 hown hgrow hwhere
      have hat := (HIN3.out.node.alloc (.cells #[.pointer (some ⟨vb, 0, none⟩)] 37)).grown hgrow (fun e => (HIN3.out.row t e).2 rfl)
      have c5 : w4.cell? ⟨t, 4, none⟩ = some (.slice sa sn sc) := hat.cell 4
      have c6 := hat.free 4
      obtain ⟨g, cap, rfl, hcap, hcell⟩ := owns_some hown (Nat.succ_pos _)
      have HPUT : Hid (NodeIn 2 (NsQ (ss ++ [d])) W p s t (.slice (some ⟨g, 0, none⟩) (xs.length + 1) cap) (xs ++ [.pointer (some ⟨vb, 0, none⟩)]) l' (w4.setCell ⟨t, 4, none⟩ (.slice (some ⟨g, 0, none⟩) (xs.length + 1) cap))) := Lib.hid (HIN3.out.put (X := SQ d) (NsQ.stable _) (SQ.stable _) hpl ⟨_, rfl, HU.out⟩ (fun S W h1 ⟨x, e, h2⟩ => by
        injection e with e
        subst e
        exact NsQ.snoc h2 _ _ h1) HIN.out.keep.size HIN.out.node.lt (fun g hg => (HIN.out.row g hg).1.2) hown rfl hgrow (by rw [alloc_size]; exact hwhere) (by omega))
      have HCAP := Lib.hid hcap
      clear hown hgrow hwhere hat c4 hcell hcap
      go_wp2_with fail
      generalize (w4.setCell ⟨t, 4, none⟩ (.slice (some ⟨g, 0, none⟩) (xs.length + 1) cap)) = w5 at *
      refine (HSK.out w5 HPUT.out.ps).mono ?_
      rintro e w6 ⟨rfl, hk6, hp6⟩
      have HP6 := Lib.hid hp6
      have HIN6 := Lib.hid (HPUT.out.call (NsQ.stable _) hpl hk6 hp6 (skipped_le _ _))
      clear hk6 hp6
      cases hb : (skipped 124 l').1
      · have HRR := Lib.hid ((HX.out.2 d l' rfl).2.1 hb)
        have e6 := skipped_no hb
        rw [e6] at HIN6
        have c7 : w6.cell? ⟨t, 4, none⟩ = some (.slice (some ⟨g, 0, none⟩) (xs.length + 1) cap) := HIN6.out.node.cell 4
        clear hb e6
        rcases ss with _ | ⟨c, ss⟩
        · have e7 : xs = [] := List.eq_nil_of_length_eq_zero HXE.out
          subst e7
          have c8 : w6.cell? ⟨g, 0, none⟩ = some (.pointer (some ⟨vb, 0, none⟩)) := by
            obtain ⟨g', cap', e8, _, hc8⟩ := owns_some HIN6.out.own (by simp)
            injection e8 with e9
            injection e9 with e9
            injection e9 with e9
            subst e9
            exact hc8 0 _ rfl
          go_wp2_with fail
          go_ret2
          exact alt_one HIN6.out HRR.out
        · have d1 : (((xs.length : Int) + 1) == 1) = false := by rw [beq_eq_false_iff_ne]; have := HXE.out; simp only [List.length_cons] at this; omega
          go_wp2_with fail
          go_ret2
          exact alt_more HIN6.out HRR.out
      · have HRR := Lib.hid ((HX.out.2 d l' rfl).2.2 hb)
        clear hb
        go_wp2_with fail
        go_roundw
        case rel => exact ⟨_, _, _, _, HIN6.out, HRR.out.2, by simp [HXE.out], by have := HRR.out.1; simp only [List.length_append, List.length_singleton]; omega⟩
        case measure => rw [HIN6.out.ps.ahead, HSZ.out]; exact HRR.out.1
end Go.Proofs.Ytheblleadjbndaa

namespace Go.Proofs.Ytheblleadjbndaa
open Go.RowKit Rx

theorem all_ok (n : Nat) : AltOK n ∧ SeqOK n ∧ AtomOK n := by
  induction n using Nat.strongRecOn with
  | _ n ih =>
    refine ⟨alt_ok n fun m hm => (ih m hm).2.1, seq_ok n fun m hm => (ih m hm).2.2, ?_⟩
    rcases n with _ | n
    · intro W p s l _ _ h
      omega
    · exact atom_ok n (ih n (Nat.lt_succ_self n)).1

/-- What parse hands back. -/
def ParsePost (s : ByteArray) (W : World) (e : Ending) (w' : World) : Prop :=
  Below W.heap.size W w' ∧ match parse (bs s) with
  | none => e = .returned (.tuple #[.pointer none, .bool false])
  | some a => ∃ v, e = .returned (.tuple #[v, .bool true]) ∧ IsA (Fresh W w') w' a v
theorem ParsePost.no {s : ByteArray} {W w' : World} (hr : parse (bs s) = none) (hk : Below W.heap.size W w') : ParsePost s W (.returned (.tuple #[.pointer none, .bool false])) w' := by
  unfold ParsePost; rw [hr]; exact ⟨hk, rfl⟩
theorem ParsePost.yes {s : ByteArray} {W w' : World} {a : As} {v : Value} (hr : parse (bs s) = some a) (hk : Below W.heap.size W w') (ha : IsA (Fresh W w') w' a v) : ParsePost s W (.returned (.tuple #[v, .bool true])) w' := by
  unfold ParsePost; rw [hr]; exact ⟨hk, v, rfl, ha⟩

set_option maxHeartbeats 1000000 in
theorem parse_any (s : ByteArray) (W : World) :
    Calls Try.prog 28 #[.string s] W (ParsePost s W) := by
  by_cases h : 200 < s.size
  · have HE : Hid (parse (bs s) = none) := Lib.hid (by unfold parse; rw [if_pos (by rw [bs_length]; exact h)])
    go_enter Try.func28, Try.ntmps28
    go_wp2_with fail
    go_ret2
    exact ParsePost.no HE.out (Below.refl _ _)
  · have hs : s.size ≤ 200 := by omega
    have HE : Hid (parse (bs s) = match alts (fuel s.size) (bs s) with | some (a, []) => some a | _ => none) := Lib.hid (by unfold parse; rw [if_neg (by rw [bs_length]; exact h)]; rfl)
    have hp0 : PS (W.alloc (.cells #[.string s, .int .i64 0] 62)) W.heap.size s (bs s) := by
      refine ⟨Nat.le_refl _, by rw [bs_length, Nat.sub_self]; rfl, ?_⟩
      have := At.new W #[.string s, .int .i64 0] 62
      rw [bs_length, Nat.sub_self]
      exact this
    have HC := Lib.hid ((all_ok (fuel s.size)).1 _ _ s (bs s) (by omega) hp0 (by rw [bs_length]; unfold fuel; omega))
    have HB1 : Hid (Below W.heap.size W (W.alloc (.cells #[.string s, .int .i64 0] 62))) := Lib.hid ((Below.refl _ _).alloc (Nat.le_refl _) _)
    have HS1 : Hid (W.heap.size ≤ (W.alloc (.cells #[.string s, .int .i64 0] 62)).heap.size) := Lib.hid (by simp)
    clear h hp0
    unfold ptr at HC
    go_enter Try.func28, Try.ntmps28
    go_wp2_with fail
    generalize (W.alloc (.cells #[.string s, .int .i64 0] 62)) = w1 at *
    refine (HC.out).mono ?_
    rintro e w2 ⟨hk2, h2⟩
    have HB2 : Hid (Below W.heap.size W w2) := Lib.hid (HB1.out.trans (hk2.toBelow (Nat.le_refl _) HS1.out))
    clear hk2
    rcases hal : alts (fuel s.size) (bs s) with _ | ⟨a, l'⟩
    · rw [hal] at h2 HE
      simp only at h2
      subst h2
      clear hal
      go_wp2_with fail
      go_ret2
      exact ParsePost.no HE.out HB2.out
    · rw [hal] at h2 HE
      simp only at h2
      obtain ⟨v, rfl, hia, hp2⟩ := h2
      have HIA := Lib.hid hia
      have c1 : w2.cell? ⟨W.heap.size, 1, none⟩ = some (.int .i64 ((s.size - l'.length : Nat) : Int)) := hp2.at_.cell 1
      have hle := hp2.le
      clear hal hia hp2
      rcases l' with _ | ⟨c, r⟩
      · have d1 : ((((s.size - ([] : List UInt8).length : Nat) : Int)) != (s.size : Int)) = false := by simp
        generalize s.size - ([] : List UInt8).length = k at *
        go_wp2_with fail
        go_ret2
        exact ParsePost.yes HE.out HB2.out (IsA.same (Same.refl _ _) (fun k hk => Fresh.mono HS1.out hk) a v HIA.out)
      · have d1 : ((((s.size - (c :: r).length : Nat) : Int)) != (s.size : Int)) = true := by rw [bne_iff_ne]; simp only [List.length_cons] at hle ⊢; omega
        clear hle
        generalize s.size - (c :: r).length = k at *
        go_wp2_with fail
        go_ret2
        exact ParsePost.no HE.out HB2.out
end Go.Proofs.Ytheblleadjbndaa

namespace Go.Proofs.Ytheblleadjbndaa
open Go.RowKit Rx

/-- All blocks but those of X and those whose cells are of the types T are kept. -/
structure Fr (B : Nat) (T : TypeId → Bool) (X : Nat → Prop) (w w' : World) : Prop where
  os : w'.os = w.os
  tape : w'.tape = w.tape
  output : w'.output = w.output
  size : w.heap.size ≤ w'.heap.size
  block : ∀ k, k < w.heap.size → ¬ X k → (B ≤ k → ∀ C t fr, w.heap[k]? = some (.cells C t fr) → T t = false) → w'.heap[k]? = w.heap[k]?
section
variable {B : Nat} {T : TypeId → Bool} {X : Nat → Prop}
theorem Fr.refl {B : Nat} (w : World) : Fr B T X w w := ⟨rfl, rfl, rfl, Nat.le_refl _, fun _ _ _ _ => rfl⟩
theorem Fr.trans {B : Nat} {a b c : World} (h : Fr B T X a b) (k : Fr B T X b c) : Fr B T X a c :=
  ⟨k.os.trans h.os, k.tape.trans h.tape, k.output.trans h.output, Nat.le_trans h.size k.size, fun i hi hx ht => by
    have e := h.block i hi hx ht
    exact (k.block i (Nat.lt_of_lt_of_le hi h.size) hx (fun hB C t fr hc => ht hB C t fr (by rw [← e]; exact hc))).trans e⟩
theorem Fr.drew {B : Nat} {a w : World} (h : Fr B T X a w) : Fr B T X a w.drew := ⟨h.os, h.tape, h.output, h.size, h.block⟩
theorem Fr.drewN {B : Nat} {a w : World} (h : Fr B T X a w) (n : Nat) : Fr B T X a (w.drewN n) := ⟨h.os, h.tape, h.output, h.size, h.block⟩
theorem Fr.below {B : Nat} {a b : World} (h : Below a.heap.size a b) : Fr B T X a b := ⟨h.os, h.tape, h.output, h.size, fun k hk _ _ => h.block k hk⟩
theorem Fr.alloc {B : Nat} {a w : World} (h : Fr B T X a w) (o : Obj) : Fr B T X a (w.alloc o) := h.trans (Fr.below ((Below.refl _ _).alloc (Nat.le_refl _) o))
/-- A store into a block that may change. -/
theorem Fr.set {B : Nat} {a w : World} (h : Fr B T X a w) (b i : Nat) (v : Value) (hb : X b ∨ (B ≤ b ∧ ∃ C t, At w b C t ∧ T t = true) ∨ a.heap.size ≤ b) : Fr B T X a (w.setCell ⟨b, i, none⟩ v) := by
  refine ⟨h.os, h.tape, h.output, by simpa using h.size, fun k hk hx ht => ?_⟩
  have e := h.block k hk hx ht
  have hne : k ≠ b := by
    rintro rfl
    rcases hb with h1 | ⟨hB, C, t, h1, h2⟩ | h1
    · exact hx h1
    · have := ht hB C t (0, 0) (by rw [← e]; exact h1.out)
      rw [h2] at this; cases this
    · omega
  rw [Below.heap_setCell w ⟨b, i, none⟩ v k hne]; exact e
theorem Fr.grown {B : Nat} {a w w' : World} {row : Option Nat} (h : Fr B T X a w) (hg : w.grownBy w' row) (hr : ∀ b, row = some b → X b ∨ (B ≤ b ∧ ∃ C t fr, w.heap[b]? = some (.cells C t fr) ∧ T t = true) ∨ a.heap.size ≤ b) : Fr B T X a w' := by
  refine ⟨hg.os.trans h.os, hg.tape.trans h.tape, hg.output.trans h.output, Nat.le_trans h.size hg.size, fun k hk hx ht => ?_⟩
  have e := h.block k hk hx ht
  rw [hg.block k (Nat.lt_of_lt_of_le hk h.size) ?_]
  · exact e
  · intro e2
    rcases hr k e2.symm with h1 | ⟨hB, C, t, fr, h1, h2⟩ | h1
    · exact hx h1
    · have := ht hB C t fr (by rw [← e]; exact h1)
      rw [h2] at this; cases this
    · omega
theorem At.fr {B : Nat} {W W1 : World} {b : Nat} {c : Array Value} {t : TypeId} (h : At W b c t) (hf : Fr B T X W W1) (hx : ¬ X b) (ht : T t = false) : At W1 b c t :=
  ⟨by rw [hf.block b h.lt hx (fun _ C u fr hc => by rw [h.out] at hc; injection hc with hc; injection hc with _ hc; subst hc; exact ht)]; exact h.out⟩
theorem owns_fr {B : Nat} {W W1 : World} {e size n : Nat} {v : Value} {xs : List Value} (h : W.ownsRow 0 e size v n xs) (hf : Fr B T X W W1) (hx : ∀ g, v.ownBlock = some g → ¬ X g) (ht : T e = false) : W1.ownsRow 0 e size v n xs := by
  obtain ⟨h1, h2 | ⟨g, cap, cur, h3, h4, h5, h6⟩⟩ := h
  · exact ⟨h1, .inl h2⟩
  · refine ⟨h1, .inr ⟨g, cap, cur, h3, h4, ?_, h6⟩⟩
    rw [hf.block g ((Array.getElem?_eq_some_iff.1 h5).1) (hx g (by rw [h3]; rfl)) (fun _ C u fr hc => by rw [h5] at hc; injection hc with hc; injection hc with _ hc; subst hc; exact ht)]
    exact h5
end
/-- The block of a slice holds cells of its elements' type. -/
theorem owns_type {W : World} {e size n : Nat} {v : Value} {xs : List Value} (h : W.ownsRow 0 e size v n xs) {g : Nat} (hg : v.ownBlock = some g) : ∃ C, At W g C e := by
  obtain ⟨h1, ⟨rfl, _⟩ | ⟨g', cap, cur, h3, h4, h5, h6⟩⟩ := h
  · cases hg
  · rw [h3] at hg
    injection hg with hg
    subst hg
    exact ⟨cur, ⟨h5⟩⟩

def intV (n : Nat) : Value := .int .i64 n
/-- A slice of whole numbers. -/
def Ints (W : World) (v : Value) (qs : List Nat) : Prop := W.ownsRow 0 3 1 v qs.length (qs.map intV)
/-- A function value that tells whether a byte is accepted. -/
def IsFn (W : World) (v : Value) (f : UInt8 → Bool) : Prop :=
  (∃ b c, v = .func (.func 60) #[] #[ptr b] ∧ At W b #[.int .u8 (UInt8.toNat c)] 5 ∧ f = fun x => x == c) ∨
  (∃ b k, v = .func (.func 61) #[] #[ptr b] ∧ At W b #[ptr k] 51 ∧ At W k (btab f 256) 102)
/-- Its array is one of Z. -/
def Own (Z : Nat → Prop) (v : Value) : Prop := ∀ g, v.ownBlock = some g → Z g
def IsSt (Z : Nat → Prop) (W : World) : St → Value → Value → Prop
  | .rd f q, fv, nv => IsFn W fv f ∧ Ints W nv [q] ∧ Own Z nv
  | .ep qs, fv, nv => fv = .nilFunc ∧ Ints W nv qs ∧ Own Z nv
def IsM (Z : Nat → Prop) (W : World) : List St → List Value → Prop
  | [], xs => xs = []
  | s :: l, xs => ∃ fv nv ys, xs = fv :: nv :: ys ∧ IsSt Z W s fv nv ∧ IsM Z W l ys
/-- The machine in block m; the arrays of its states' next ones are of Z. -/
def Mach (B : Nat) (Z : Nat → Prop) (m : Nat) (st : Int) (M : List St) (W : World) : Prop := ∃ sv xs, At W m #[sv, .int .i64 st] 66 ∧ W.ownsRow 0 74 2 sv M.length xs ∧ IsM Z W M xs ∧ B ≤ m ∧ ∀ g, sv.ownBlock = some g → B ≤ g
theorem IsSt.mono {Z Z' : Nat → Prop} (hz : ∀ k, Z k → Z' k) {W : World} {s : St} {fv nv : Value} (h : IsSt Z W s fv nv) : IsSt Z' W s fv nv := by
  rcases s with ⟨f, q⟩ | qs
  · exact ⟨h.1, h.2.1, fun g hg => hz g (h.2.2 g hg)⟩
  · exact ⟨h.1, h.2.1, fun g hg => hz g (h.2.2 g hg)⟩
theorem IsM.mono {Z Z' : Nat → Prop} (hz : ∀ k, Z k → Z' k) {W : World} : ∀ (M : List St) (xs : List Value), IsM Z W M xs → IsM Z' W M xs
  | [], _, h => h
  | _ :: M, _, ⟨fv, nv, ys, e, h1, h2⟩ => ⟨fv, nv, ys, e, h1.mono hz, IsM.mono hz M ys h2⟩
theorem Mach.mono {B : Nat} {Z Z' : Nat → Prop} (hz : ∀ k, Z k → Z' k) {m : Nat} {st : Int} {M : List St} {W : World} (h : Mach B Z m st M W) : Mach B Z' m st M W := by
  obtain ⟨sv, xs, h1, h2, h3, h4⟩ := h
  exact ⟨sv, xs, h1, h2, h3.mono hz, h4⟩

/-- What add and put change. -/
def TM (t : TypeId) : Bool := t == 74 || t == 66
def FrM (B : Nat) (w w' : World) : Prop := Fr B TM (fun _ => False) w w'
theorem Ints.fr {B : Nat} {T : TypeId → Bool} {W W1 : World} {v : Value} {qs : List Nat} (h : Ints W v qs) (hf : Fr B T (fun _ => False) W W1) (ht : T 3 = false) : Ints W1 v qs := owns_fr h hf (fun _ _ h => h) ht
theorem IsFn.fr {B : Nat} {T : TypeId → Bool} {X : Nat → Prop} {W W1 : World} {v : Value} {f : UInt8 → Bool} (h : IsFn W v f) (hf : Fr B T X W W1) (h1 : T 5 = false) (h2 : T 51 = false) (h3 : T 102 = false)
    (hx : ∀ b C t, At W b C t → (t = 5 ∨ t = 51 ∨ t = 102) → ¬ X b) : IsFn W1 v f := by
  rcases h with ⟨b, c, e, ha, hf'⟩ | ⟨b, k, e, ha, hb⟩
  · exact .inl ⟨b, c, e, ha.fr hf (hx _ _ _ ha (.inl rfl)) h1, hf'⟩
  · exact .inr ⟨b, k, e, ha.fr hf (hx _ _ _ ha (.inr (.inl rfl))) h2, hb.fr hf (hx _ _ _ hb (.inr (.inr rfl))) h3⟩
theorem IsSt.frM {B : Nat} {Z : Nat → Prop} {W W1 : World} {s : St} {fv nv : Value} (h : IsSt Z W s fv nv) (hf : FrM B W W1) : IsSt Z W1 s fv nv := by
  rcases s with ⟨f, q⟩ | qs
  · exact ⟨h.1.fr hf rfl rfl rfl (fun _ _ _ _ _ h => h), h.2.1.fr hf rfl, h.2.2⟩
  · exact ⟨h.1, h.2.1.fr hf rfl, h.2.2⟩
theorem IsM.frM {B : Nat} {Z : Nat → Prop} {W W1 : World} (hf : FrM B W W1) : ∀ (M : List St) (xs : List Value), IsM Z W M xs → IsM Z W1 M xs
  | [], _, h => h
  | _ :: M, _, ⟨fv, nv, ys, e, h1, h2⟩ => ⟨fv, nv, ys, e, h1.frM hf, IsM.frM hf M ys h2⟩
theorem IsM.snoc {Z : Nat → Prop} {W : World} {s : St} {fv nv : Value} (h : IsSt Z W s fv nv) : ∀ (M : List St) (xs : List Value), IsM Z W M xs → IsM Z W (M ++ [s]) (xs ++ [fv, nv])
  | [], _, h2 => by subst h2; exact ⟨fv, nv, [], rfl, h, rfl⟩
  | _ :: M, _, ⟨a, b, ys, e, h1, h2⟩ => by subst e; exact ⟨a, b, ys ++ [fv, nv], rfl, h1, IsM.snoc h M ys h2⟩

theorem info_state : (Try.prog.info? 74).map (fun i => (i.zero, i.size, i.bytes)) = some (some (.agg #[.nilFunc, .slice none 0 0]), 2, 32) := by kernel_rfl

/-- What a function value is in a state. -/
theorem IsSt.shape {Z : Nat → Prop} {W : World} {s : St} {fv nv : Value} (h : IsSt Z W s fv nv) : ∃ a n c, nv = .slice a n c ∧ (fv = .nilFunc ∨ ∃ k b, fv = .func (.func k) #[] #[b]) := by
  rcases s with ⟨f, q⟩ | qs
  · obtain ⟨a, n, c, e⟩ := owns_slice h.2.1
    refine ⟨a, n, c, e, .inr ?_⟩
    rcases h.1 with ⟨b, c, e, _⟩ | ⟨b, k, e, _⟩
    · exact ⟨_, _, e⟩
    · exact ⟨_, _, e⟩
  · obtain ⟨a, n, c, e⟩ := owns_slice h.2.1
    exact ⟨a, n, c, e, .inl h.1⟩
/-- A row of one type lies in no block of another. -/
theorem owns_ne {W : World} {e size n : Nat} {v : Value} {xs : List Value} (h : W.ownsRow 0 e size v n xs) {m : Nat} {c : Array Value} {t : TypeId} (hm : At W m c t) (ht : e ≠ t) : v.ownBlock ≠ some m := fun e => by
  obtain ⟨C, hC⟩ := owns_type h e
  have h1 := hC.out
  rw [hm.out] at h1
  injection h1 with h1
  injection h1 with _ h1
  exact ht h1.symm
theorem mach_put {B : Nat} {Z : Nat → Prop} {m : Nat} {st : Int} {M : List St} {s : St} {fv nv sv sv' : Value} {xs : List Value} {W w1 w2 : World} {o : Obj} (hism : IsM Z W M xs) (hs : IsSt Z W s fv nv) (hb1 : Below W.heap.size W w1) (hown : W.ownsRow 0 74 2 sv M.length xs) (hBm : B ≤ m) (hBg : ∀ g, sv.ownBlock = some g → B ≤ g) (hBs : B ≤ W.heap.size) (hwh : sv'.ownBlock = sv.ownBlock ∨ sv'.ownBlock = some (w1.heap.size + 1))
    (hat : At w2 m #[sv, .int .i64 st] 66) (hown2 : w2.ownsRow 0 74 2 sv' (M.length + 1) (xs ++ [fv, nv])) (hg : ((w1.alloc o).drew).grownBy w2 sv.ownBlock) :
    Mach B Z m st (M ++ [s]) (w2.setCell ⟨m, 0, none⟩ sv') ∧ FrM B W (w2.setCell ⟨m, 0, none⟩ sv') := by
  have hb2 : Below W.heap.size W (w1.alloc o).drew := (hb1.alloc hb1.size o).drew
  have hf2 : FrM B W w2 := by
    refine Fr.grown (w := (w1.alloc o).drew) (Fr.below hb2) hg fun b hb => ?_
    obtain ⟨C, hC⟩ := owns_type hown hb
    exact .inr (.inl ⟨hBg b hb, C, 74, (0, 0), by rw [hb2.block b hC.lt]; exact hC.out, rfl⟩)
  have hf3 : FrM B W (w2.setCell ⟨m, 0, none⟩ sv') := hf2.set m 0 sv' (.inr (.inl ⟨hBm, _, _, hat, rfl⟩))
  refine ⟨⟨sv', xs ++ [fv, nv], hat.set 0 sv', ?_, IsM.snoc (hs.frM hf3) M xs (hism.frM hf3), hBm, fun g hg' => ?_⟩, hf3⟩
  · rw [List.length_append]
    exact owns_same (S := fun k => k ≠ m) hown2 (fun g hg' e => owns_ne hown2 hat (by decide) (by rw [hg', e])) (fun k hk => Below.heap_setCell w2 ⟨m, 0, none⟩ sv' k hk)
  · rcases hwh with e | e
    · exact hBg g (by rw [← e]; exact hg')
    · rw [e] at hg'
      injection hg' with hg'
      have := hb1.size
      omega
set_option maxRecDepth 100000 in
set_option maxHeartbeats 1000000 in
theorem put_any {B : Nat} (Z : Nat → Prop) (m : Nat) (st : Int) (M : List St) (s : St) (fv nv : Value) (W : World) (hM : M.length ≤ 10000) (h : Mach B Z m st M W) (hs : IsSt Z W s fv nv) :
    Calls Try.prog 51 #[ptr m, .agg #[fv, nv]] W fun e w' => e = .returned (.int .i64 M.length) ∧ Mach B Z m st (M ++ [s]) w' ∧ FrM B W w' := by
  obtain ⟨i0, hi, hz0, hz1, hz2⟩ := info_parts info_state
  have HI := Lib.hid hi
  have HZ0 := Lib.hid hz0
  have HZ1 := Lib.hid hz1
  have HZ2 := Lib.hid hz2
  clear hi hz0 hz1 hz2
  obtain ⟨sv, xs, hat, hown, hism, hBm, hBg⟩ := h
  obtain ⟨sa, sn, sc, rfl⟩ := owns_slice hown
  have c0 : W.cell? ⟨m, 0, none⟩ = some (.slice sa sn sc) := hat.cell 0
  have c1 := hat.free 0
  obtain ⟨na, nn, nc, rfl, hfv⟩ := hs.shape
  have hlt := hat.lt
  have HBM := Lib.hid hBm
  have HBG := Lib.hid hBg
  have HBS : Hid (B ≤ W.heap.size) := Lib.hid (by omega)
  clear hBm hBg
  have HNE : Hid ((Value.slice sa sn sc).ownBlock ≠ some m) := Lib.hid fun e => by
    obtain ⟨C, hC⟩ := owns_type hown e
    have h1 := hC.out
    rw [hat.out] at h1
    injection h1 with h1
    injection h1 with _ h1
    exact absurd h1 (by decide)
  rcases hfv with rfl | ⟨fk, fb, rfl⟩
  · unfold ptr
    go_enter Try.func51, Try.ntmps51
    go_wp2_with fail
    have hat1 := hat.alloc (.cells #[.nilFunc, .slice na nn nc] 74)
    have hown1 := hown.alloc (.cells #[.nilFunc, .slice na nn nc] 74)
    have hbox := At.new W #[.nilFunc, .slice na nn nc] 74
    have hf1 : Below W.heap.size W (W.alloc (.cells #[.nilFunc, .slice na nn nc] 74)) := (Below.refl _ _).alloc (Nat.le_refl _) _
    generalize (W.alloc (.cells #[.nilFunc, .slice na nn nc] 74)) = w1 at *
    have HF1 := Lib.hid hf1
    clear hf1 c0 c1
    have d0 : w1.cell? ⟨m, 0, none⟩ = some (.slice sa sn sc) := hat1.cell 0
    have d1 := hat1.free 0
    have b0 : w1.cell? ⟨W.heap.size, 0, none⟩ = some .nilFunc := hbox.cell 0
    have b1 : w1.cell? ⟨W.heap.size, 1, none⟩ = some (.slice na nn nc) := hbox.cell 1
    have d2 : (w1.alloc (.cells #[.nilFunc, .slice na nn nc] 74)).cell? ⟨m, 0, none⟩ = some (.slice sa sn sc) := (hat1.alloc _).cell 0
    go_region_law (refine step_append_lies _ (by rfl) _ _ _ (by rfl) 0 74 i0 _ 2 32 Try.underlying64 HI.out HZ0.out HZ1.out HZ2.out rfl (by omega) (.slice sa sn sc) M.length xs (by rfl) (by first | exact hown1.alloc _ | exact (hown1.alloc _).drew) ⟨w1.heap.size, 0, none⟩ 1 1 [.nilFunc, .slice na nn nc] (by rfl) (by rfl) (World.news_of_block (cs := #[.nilFunc, .slice na nn nc]) (t := 74) (fr := (0, 0)) (heap_alloc_new _ _)) (by simp [Value.oneCell']) (by omega) (by unfold maxLen; omega) (by omega) (by simp) (w1.heap.size + 1) (by simp) ?_; intro g cap w2 hown2 hgrow2 hwh hg2; have HA2 := Lib.hid (((hat1.alloc _).drew).grown hgrow2 HNE.out); have e0 : w2.cell? ⟨m, 0, none⟩ = some (.slice sa sn sc) := HA2.out.cell 0; have e1 := HA2.out.free 0; have HOWN2 := Lib.hid hown2; have HG2 := Lib.hid hgrow2; have HWH := Lib.hid hwh; clear hown2 hgrow2 hwh hg2)
    all_goals
      have HM := Lib.hid (mach_put (st := st) (w1 := w1) hism hs HF1.out hown HBM.out HBG.out HBS.out (by rcases HWH.out with h | h; (exact .inl h.symm); (exact .inr (by rw [h]; rfl))) HA2.out HOWN2.out HG2.out)
      (try go_wp2_with fail)
      go_ret
      exact ⟨ret_int (by omega), HM.out⟩
  · unfold ptr
    go_enter Try.func51, Try.ntmps51
    go_wp2_with fail
    have hat1 := hat.alloc (.cells #[.func (.func fk) #[] #[fb], .slice na nn nc] 74)
    have hown1 := hown.alloc (.cells #[.func (.func fk) #[] #[fb], .slice na nn nc] 74)
    have hbox := At.new W #[.func (.func fk) #[] #[fb], .slice na nn nc] 74
    have hf1 : Below W.heap.size W (W.alloc (.cells #[.func (.func fk) #[] #[fb], .slice na nn nc] 74)) := (Below.refl _ _).alloc (Nat.le_refl _) _
    generalize (W.alloc (.cells #[.func (.func fk) #[] #[fb], .slice na nn nc] 74)) = w1 at *
    have HF1 := Lib.hid hf1
    clear hf1 c0 c1
    have d0 : w1.cell? ⟨m, 0, none⟩ = some (.slice sa sn sc) := hat1.cell 0
    have d1 := hat1.free 0
    have b0 : w1.cell? ⟨W.heap.size, 0, none⟩ = some (.func (.func fk) #[] #[fb]) := hbox.cell 0
    have b1 : w1.cell? ⟨W.heap.size, 1, none⟩ = some (.slice na nn nc) := hbox.cell 1
    have d2 : (w1.alloc (.cells #[.func (.func fk) #[] #[fb], .slice na nn nc] 74)).cell? ⟨m, 0, none⟩ = some (.slice sa sn sc) := (hat1.alloc _).cell 0
    go_region_law (refine step_append_lies _ (by rfl) _ _ _ (by rfl) 0 74 i0 _ 2 32 Try.underlying64 HI.out HZ0.out HZ1.out HZ2.out rfl (by omega) (.slice sa sn sc) M.length xs (by rfl) (by first | exact hown1.alloc _ | exact (hown1.alloc _).drew) ⟨w1.heap.size, 0, none⟩ 1 1 [.func (.func fk) #[] #[fb], .slice na nn nc] (by rfl) (by rfl) (World.news_of_block (cs := #[.func (.func fk) #[] #[fb], .slice na nn nc]) (t := 74) (fr := (0, 0)) (heap_alloc_new _ _)) (by simp [Value.oneCell']) (by omega) (by unfold maxLen; omega) (by omega) (by simp) (w1.heap.size + 1) (by simp) ?_; intro g cap w2 hown2 hgrow2 hwh hg2; have HA2 := Lib.hid (((hat1.alloc _).drew).grown hgrow2 HNE.out); have e0 : w2.cell? ⟨m, 0, none⟩ = some (.slice sa sn sc) := HA2.out.cell 0; have e1 := HA2.out.free 0; have HOWN2 := Lib.hid hown2; have HG2 := Lib.hid hgrow2; have HWH := Lib.hid hwh; clear hown2 hgrow2 hwh hg2)
    all_goals
      have HM := Lib.hid (mach_put (st := st) (w1 := w1) hism hs HF1.out hown HBM.out HBG.out HBS.out (by rcases HWH.out with h | h; (exact .inl h.symm); (exact .inr (by rw [h]; rfl))) HA2.out HOWN2.out HG2.out)
      (try go_wp2_with fail)
      go_ret
      exact ⟨ret_int (by omega), HM.out⟩
end Go.Proofs.Ytheblleadjbndaa

namespace Go.Proofs.Ytheblleadjbndaa
open Go.RowKit Rx

section
variable {B : Nat} {T : TypeId → Bool} {W W' : World} {S : Nat → Prop}
theorem Parts.fr {B : Nat} (hf : Fr B T (fun _ => False) W W') (hp : T 37 = false) {sv : Value} {xs : List Value} (h : Parts S W sv xs) : Parts S W' sv xs := ⟨owns_fr h.1 hf (fun _ _ h => h) hp, h.2⟩
theorem Node.fr {B : Nat} (hf : Fr B T (fun _ => False) W W') (ht : T 54 = false) (hp : T 37 = false) {kind : Int} {v : Value} {P Q : List Value → Prop} (h : Node S W kind v P) (hq : ∀ xs, P xs → Q xs) : Node S W' kind v Q := by
  obtain ⟨b, sv, xs, h1, h2, h3, h4, h5⟩ := h
  exact ⟨b, sv, xs, h1, h2, h3.fr hf (fun h => h) ht, h4.fr hf hp, hq xs h5⟩
mutual
theorem IsU.fr {B : Nat} (hf : Fr B T (fun _ => False) W W') (ht : T 54 = false) (hp : T 37 = false) (hc : T 102 = false) : ∀ (u : U) (v : Value), IsU S W u v → IsU S W' u v
  | .byte c, v, h => by
    unfold IsU at h ⊢
    obtain ⟨b, h1, h2, h3⟩ := h
    exact ⟨b, h1, h2, h3.fr hf (fun h => h) ht⟩
  | .cls f, v, h => by
    unfold IsU at h ⊢
    obtain ⟨b, k, h1, h2, h3, h4, h5⟩ := h
    exact ⟨b, k, h1, h2, h3, h4.fr hf (fun h => h) ht, h5.fr hf (fun h => h) hc⟩
  | .grp a, v, h => by
    unfold IsU at h ⊢
    exact IsA.fr hf ht hp hc a v h
  | .star u, v, h => by
    unfold IsU at h ⊢
    exact h.fr hf ht hp fun xs ⟨x, e, hx⟩ => ⟨x, e, IsU.fr hf ht hp hc u x hx⟩
  | .plus u, v, h => by
    unfold IsU at h ⊢
    exact h.fr hf ht hp fun xs ⟨x, e, hx⟩ => ⟨x, e, IsU.fr hf ht hp hc u x hx⟩
  | .opt u, v, h => by
    unfold IsU at h ⊢
    exact h.fr hf ht hp fun xs ⟨x, e, hx⟩ => ⟨x, e, IsU.fr hf ht hp hc u x hx⟩
theorem IsA.fr {B : Nat} (hf : Fr B T (fun _ => False) W W') (ht : T 54 = false) (hp : T 37 = false) (hc : T 102 = false) : ∀ (a : As) (v : Value), IsA S W a v → IsA S W' a v
  | .one s, v, h => by
    unfold IsA at h ⊢
    exact h.fr hf ht hp fun xs hx => IsSl.fr hf ht hp hc s xs hx
  | .more s a, v, h => by
    unfold IsA at h ⊢
    exact h.fr hf ht hp fun xs ⟨x, ys, e, h1, h2⟩ => ⟨x, ys, e, h1.fr hf ht hp fun zs hz => IsSl.fr hf ht hp hc s zs hz, IsAl.fr hf ht hp hc a ys h2⟩
theorem IsAl.fr {B : Nat} (hf : Fr B T (fun _ => False) W W') (ht : T 54 = false) (hp : T 37 = false) (hc : T 102 = false) : ∀ (a : As) (xs : List Value), IsAl S W a xs → IsAl S W' a xs
  | .one s, xs, h => by
    unfold IsAl at h ⊢
    obtain ⟨x, e, h1⟩ := h
    exact ⟨x, e, h1.fr hf ht hp fun zs hz => IsSl.fr hf ht hp hc s zs hz⟩
  | .more s a, xs, h => by
    unfold IsAl at h ⊢
    obtain ⟨x, ys, e, h1, h2⟩ := h
    exact ⟨x, ys, e, h1.fr hf ht hp fun zs hz => IsSl.fr hf ht hp hc s zs hz, IsAl.fr hf ht hp hc a ys h2⟩
theorem IsSl.fr {B : Nat} (hf : Fr B T (fun _ => False) W W') (ht : T 54 = false) (hp : T 37 = false) (hc : T 102 = false) : ∀ (s : Ss) (xs : List Value), IsSl S W s xs → IsSl S W' s xs
  | .nil, xs, h => by
    unfold IsSl at h ⊢
    exact h
  | .cons u s, xs, h => by
    unfold IsSl at h ⊢
    obtain ⟨x, ys, e, h1, h2⟩ := h
    exact ⟨x, ys, e, IsU.fr hf ht hp hc u x h1, IsSl.fr hf ht hp hc s ys h2⟩
end
end

set_option maxHeartbeats 400000 in
theorem accept_byte (b : Nat) (c : UInt8) (W : World) (h : At W b (nd 0 true c.toNat (.pointer none) (.slice none 0 0)) 54) :
    Calls Try.prog 52 #[ptr b] W fun e w' => e = .returned (.func (.func 60) #[] #[ptr W.heap.size]) ∧ w' = W.alloc (.cells #[.int .u8 c.toNat] 5) := by
  have c1 : W.cell? ⟨b, 1, none⟩ = some (.bool true) := h.cell 1
  have c2 : W.cell? ⟨b, 2, none⟩ = some (.int .u8 c.toNat) := h.cell 2
  unfold ptr
  go_enter Try.func52, Try.ntmps52
  go_wp2_with fail
  go_ret
  exact ⟨rfl, rfl⟩
set_option maxHeartbeats 400000 in
theorem accept_cls (b k : Nat) (W : World) (h : At W b (nd 0 false 0 (ptr k) (.slice none 0 0)) 54) :
    Calls Try.prog 52 #[ptr b] W fun e w' => e = .returned (.func (.func 61) #[] #[ptr W.heap.size]) ∧ w' = W.alloc (.cells #[ptr k] 51) := by
  have c1 : W.cell? ⟨b, 1, none⟩ = some (.bool false) := h.cell 1
  have c2 : W.cell? ⟨b, 3, none⟩ = some (ptr k) := h.cell 3
  unfold ptr at *
  go_enter Try.func52, Try.ntmps52
  go_wp2_with fail
  go_ret
  exact ⟨rfl, rfl⟩

/-- What add hands back. -/
def AddPost (B : Nat) (Z : Nat → Prop) (m : Nat) (st : Int) (W : World) (r : Nat × List St) (e : Ending) (w' : World) : Prop := e = .returned (.int .i64 r.1) ∧ Mach B (fun k => Z k ∨ Fresh W w' k) m st r.2 w' ∧ FrM B W w'
/-- add does what is told at this tree. -/
def AddOK (u : U) : Prop := ∀ (B : Nat) (S Z : Nat → Prop) (W : World) (m : Nat) (st : Int) (M : List St) (v : Value) (q : Nat), Mach B Z m st M W → IsU S W u v → M.length + szU u ≤ 9000 → q ≤ 9000 → Calls Try.prog 39 #[ptr m, v, .int .i64 q] W (AddPost B Z m st W (addU u M q))
theorem Mach.frM {B : Nat} {Z : Nat → Prop} {m : Nat} {st : Int} {M : List St} {W W' : World} (h : Mach B Z m st M W) (hb : Below W.heap.size W W') : Mach B Z m st M W' := by
  obtain ⟨sv, xs, h1, h2, h3, h4⟩ := h
  exact ⟨sv, xs, h1.below hb, owns_same (S := fun k => k < W.heap.size) h2 (fun g hg => by obtain ⟨C, hC⟩ := owns_type h2 hg; exact hC.lt) (fun k hk => hb.block k hk), h3.frM (B := B) (Fr.below hb), h4⟩
theorem ints_one (W : World) (q : Nat) : Ints (W.alloc (.cells #[.int .i64 q] 3)) (.slice (some ⟨W.heap.size, 0, none⟩) 1 1) [q] :=
  ⟨rfl, .inr ⟨W.heap.size, 1, #[.int .i64 q], rfl, Nat.zero_le _, heap_alloc_new _ _, Nat.le_refl _, by decide, rfl, rfl⟩⟩
/-- The arrays of Z, and one more. -/
def And1 (Z : Nat → Prop) (b k : Nat) : Prop := Z k ∨ k = b
theorem own_new (Z : Nat → Prop) (b n c : Nat) : Own (And1 Z b) (.slice (some ⟨b, 0, none⟩) n c) := fun g hg => by
  injection hg with hg
  exact .inr hg.symm
theorem And1.fresh {Z : Nat → Prop} {W w1 w2 : World} (h1 : W.heap.size ≤ w1.heap.size) (h2 : w1.heap.size < w2.heap.size) : ∀ k, And1 Z w1.heap.size k → Z k ∨ Fresh W w2 k := fun k hk => by
  rcases hk with h | h
  · exact .inl h
  · exact .inr (by subst h; exact ⟨h1, h2⟩)
theorem Fresh.step {Z : Nat → Prop} {W w1 w2 : World} {k : Nat} (h : (Z k ∨ Fresh W w1 k) ∨ Fresh W w2 k) (hs : w1.heap.size ≤ w2.heap.size) : Z k ∨ Fresh W w2 k := by
  rcases h with (h | h) | h
  · exact .inl h
  · exact .inr ⟨h.1, Nat.lt_of_lt_of_le h.2 hs⟩
  · exact .inr h
theorem ints_two (W : World) (p q : Nat) : Ints (W.alloc (.cells #[.int .i64 p, .int .i64 q] 3)) (.slice (some ⟨W.heap.size, 0, none⟩) 2 2) [p, q] :=
  ⟨rfl, .inr ⟨W.heap.size, 2, #[.int .i64 p, .int .i64 q], rfl, Nat.zero_le _, heap_alloc_new _ _, Nat.le_refl _, by decide, rfl, rfl⟩⟩

set_option maxRecDepth 100000 in
set_option maxHeartbeats 1000000 in
theorem add_byte (c : UInt8) : AddOK (.byte c) := by
  intro B S Z W m st M v q hm hu hsz hq
  unfold IsU at hu
  obtain ⟨b, _, rfl, hat⟩ := hu
  have c0 : W.cell? ⟨b, 0, none⟩ = some (.int .i64 0) := hat.cell 0
  have HAC := Lib.hid (accept_byte b c W hat)
  have HM := Lib.hid hm
  have hsz : M.length ≤ 9000 := by omega
  clear hm hat
  unfold ptr
  go_enter Try.func39, Try.ntmps39
  go_wp2_with fail
  refine (HAC.out).mono ?_
  rintro e w1 ⟨rfl, rfl⟩
  have hA : At (W.alloc (.cells #[.int .u8 c.toNat] 5)) W.heap.size #[.int .u8 c.toNat] 5 := At.new _ _ _
  have hm1 : Mach B Z m st M (W.alloc (.cells #[.int .u8 c.toNat] 5)) := HM.out.frM ((Below.refl _ _).alloc (Nat.le_refl _) _)
  have hf1 : FrM B W (W.alloc (.cells #[.int .u8 c.toNat] 5)) := (Fr.refl _).alloc _
  generalize (W.alloc (.cells #[.int .u8 c.toNat] 5)) = w1 at *
  have HP := Lib.hid (put_any (B := B) (And1 Z w1.heap.size) m st M (.rd (fun x => x == c) q) (.func (.func 60) #[] #[ptr W.heap.size]) (.slice (some ⟨w1.heap.size, 0, none⟩) 1 1) (w1.alloc (.cells #[.int .i64 q] 3)) (by omega) ((hm1.frM ((Below.refl _ _).alloc (Nat.le_refl _) _)).mono fun _ => .inl) ⟨.inl ⟨_, c, rfl, hA.alloc _, rfl⟩, ints_one w1 q, own_new _ _ _ _⟩)
  have HF1 := Lib.hid hf1
  clear hA hm1 hf1
  unfold ptr at *
  go_wp2_with fail
  refine (HP.out).mono ?_
  rintro e w2 ⟨rfl, hm2, hf2⟩
  have HM2 := Lib.hid hm2
  have HF2 := Lib.hid hf2
  clear hm2 hf2
  go_wp2_with fail
  go_ret
  exact ⟨rfl, HM2.out.mono (And1.fresh HF1.out.size (by have := HF2.out.size; rw [alloc_size] at this; omega)), ((HF1.out.alloc _).trans HF2.out)⟩

set_option maxRecDepth 100000 in
set_option maxHeartbeats 1000000 in
theorem add_cls (f : UInt8 → Bool) : AddOK (.cls f) := by
  intro B S Z W m st M v q hm hu hsz hq
  unfold IsU at hu
  obtain ⟨b, k, _, _, rfl, hat, hcl⟩ := hu
  have c0 : W.cell? ⟨b, 0, none⟩ = some (.int .i64 0) := hat.cell 0
  have HAC := Lib.hid (accept_cls b k W hat)
  have HM := Lib.hid hm
  have HC := Lib.hid hcl
  have hsz : M.length ≤ 9000 := by omega
  clear hm hat hcl
  unfold ptr
  go_enter Try.func39, Try.ntmps39
  go_wp2_with fail
  refine (HAC.out).mono ?_
  rintro e w1 ⟨rfl, rfl⟩
  have hA : At (W.alloc (.cells #[ptr k] 51)) W.heap.size #[ptr k] 51 := At.new _ _ _
  have hC : At (W.alloc (.cells #[ptr k] 51)) k (btab f 256) 102 := HC.out.alloc _
  have hm1 : Mach B Z m st M (W.alloc (.cells #[ptr k] 51)) := HM.out.frM ((Below.refl _ _).alloc (Nat.le_refl _) _)
  have hf1 : FrM B W (W.alloc (.cells #[ptr k] 51)) := (Fr.refl _).alloc _
  generalize (W.alloc (.cells #[ptr k] 51)) = w1 at *
  have HP := Lib.hid (put_any (B := B) (And1 Z w1.heap.size) m st M (.rd f q) (.func (.func 61) #[] #[ptr W.heap.size]) (.slice (some ⟨w1.heap.size, 0, none⟩) 1 1) (w1.alloc (.cells #[.int .i64 q] 3)) (by omega) ((hm1.frM ((Below.refl _ _).alloc (Nat.le_refl _) _)).mono fun _ => .inl) ⟨.inr ⟨_, k, rfl, hA.alloc _, hC.alloc _⟩, ints_one w1 q, own_new _ _ _ _⟩)
  have HF1 := Lib.hid hf1
  clear hA hC hm1 hf1
  unfold ptr at *
  go_wp2_with fail
  refine (HP.out).mono ?_
  rintro e w2 ⟨rfl, hm2, hf2⟩
  have HM2 := Lib.hid hm2
  have HF2 := Lib.hid hf2
  clear hm2 hf2
  go_wp2_with fail
  go_ret
  exact ⟨rfl, HM2.out.mono (And1.fresh HF1.out.size (by have := HF2.out.size; rw [alloc_size] at this; omega)), ((HF1.out.alloc _).trans HF2.out)⟩

set_option maxRecDepth 100000 in
set_option maxHeartbeats 1000000 in
theorem add_opt (u : U) (hU : AddOK u) : AddOK (.opt u) := by
  intro B S Z W m st M v q hm hu hsz hq
  unfold IsU at hu
  obtain ⟨b, sv, xs, _, rfl, hat, hpa, x, rfl, hx⟩ := hu
  obtain ⟨g, cap, rfl, hcap, hcell⟩ := owns_some hpa.1 (by simp)
  obtain ⟨vb, rfl⟩ := IsU.ptr u x hx
  have c0 : W.cell? ⟨b, 0, none⟩ = some (.int .i64 5) := hat.cell 0
  have c4 : W.cell? ⟨b, 4, none⟩ = some (.slice (some ⟨g, 0, none⟩) 1 cap) := hat.cell 4
  have c5 : W.cell? ⟨g, 0, none⟩ = some (.pointer (some ⟨vb, 0, none⟩)) := hcell 0 _ rfl
  simp only [szU] at hsz
  have hlen := addU_len u M q
  have HU := Lib.hid (hU B S Z W m st M (ptr vb) q hm hx (by omega) hq)
  clear hm hat hcell hpa hx hU hcap
  obtain ⟨r, M1, hr⟩ : ∃ r M1, addU u M q = (r, M1) := ⟨_, _, rfl⟩
  have HE : Hid (addU (.opt u) M q = (M1.length, M1 ++ [.ep [r, q]])) := Lib.hid (by simp only [addU, hr])
  rw [hr] at HU hlen
  simp only at hlen
  have hlen1 : M1.length ≤ 9000 := by omega
  rw [HE.out]
  clear hr HE hlen
  unfold ptr at *
  go_enter Try.func39, Try.ntmps39
  go_wp2_with fail
  refine (HU.out).mono ?_
  rintro e w1 ⟨rfl, hm1, hf1⟩
  have HF1 := Lib.hid hf1
  have HP := Lib.hid (put_any (B := B) (And1 (fun k => Z k ∨ Fresh W w1 k) w1.heap.size) m st M1 (.ep [r, q]) .nilFunc (.slice (some ⟨w1.heap.size, 0, none⟩) 2 2) (w1.alloc (.cells #[.int .i64 r, .int .i64 q] 3)) (by omega) ((hm1.frM ((Below.refl _ _).alloc (Nat.le_refl _) _)).mono fun _ => .inl) ⟨rfl, ints_two w1 r q, own_new _ _ _ _⟩)
  clear hf1 hm1 HU
  unfold ptr at *
  go_wp2_with fail
  refine (HP.out).mono ?_
  rintro e w2 ⟨rfl, hm2, hf2⟩
  have HM2 := Lib.hid hm2
  have HF2 := Lib.hid hf2
  clear hm2 hf2
  go_wp2_with fail
  go_ret
  exact ⟨rfl, HM2.out.mono (fun k hk => Fresh.step (And1.fresh HF1.out.size (by have := HF2.out.size; rw [alloc_size] at this; omega) k hk) (by have := HF2.out.size; rw [alloc_size] at this; omega)), ((HF1.out.alloc _).trans HF2.out)⟩
end Go.Proofs.Ytheblleadjbndaa

namespace Go.Proofs.Ytheblleadjbndaa
open Go.RowKit Rx

theorem owns_set {W : World} {e size n cap g j : Nat} {xs : List Value} {v : Value} (h : W.ownsRow 0 e size (.slice (some ⟨g, 0, none⟩) n cap) n xs) (_hj : j < xs.length) : (W.setCell ⟨g, j, none⟩ v).ownsRow 0 e size (.slice (some ⟨g, 0, none⟩) n cap) n (xs.set j v) := by
  obtain ⟨h1, ⟨h2, _⟩ | ⟨g', cap', cur, h3, h4, h5, h6, h7, h8, h9⟩⟩ := h
  · cases h2
  · injection h3 with h3 h3b h3c
    injection h3 with h3
    injection h3 with h3
    subst h3 h3c
    refine ⟨by simpa using h1, .inr ⟨g, cap, cur.setIfInBounds j v, rfl, h4, heap_setCell_same W g j cur e v h5, h6, h7, by simpa using h8, ?_⟩⟩
    rw [Array.toList_setIfInBounds, List.take_set, h9]
theorem owns_free {W : World} {e size n : Nat} {v : Value} {xs : List Value} (h : W.ownsRow 0 e size v n xs) {g : Nat} (hg : v.ownBlock = some g) (j : Nat) : W.frozen? ⟨g, j, none⟩ = false := by
  obtain ⟨C, hC⟩ := owns_type h hg
  exact hC.free j
theorem owns_cell {W : World} {e size n : Nat} {v : Value} {xs : List Value} (h : W.ownsRow 0 e size v n xs) {g : Nat} (hg : v.ownBlock = some g) {j : Nat} {u : Value} (hu : xs[j]? = some u) : W.cell? ⟨g, j, none⟩ = some u := by
  have := h.cells (g := g) hg j u hu
  have e1 : (⟨g, 0, none⟩ : Addr).add j = ⟨g, j, none⟩ := by unfold Addr.add; simp; omega
  rwa [e1] at this
theorem IsM.get {Z : Nat → Prop} {W : World} : ∀ {M : List St} {xs : List Value}, IsM Z W M xs → ∀ {i : Nat} {s : St}, M[i]? = some s → ∃ fv nv, xs[i * 2]? = some fv ∧ xs[i * 2 + 1]? = some nv ∧ IsSt Z W s fv nv
  | [], _, _, i, s, h => by simp at h
  | s0 :: M, _, ⟨fv, nv, ys, e, h1, h2⟩, i, s, h => by
    subst e
    rcases i with _ | i
    · simp at h; subst h; exact ⟨fv, nv, rfl, rfl, h1⟩
    · simp only [List.getElem?_cons_succ] at h
      obtain ⟨a, b, h3, h4, h5⟩ := IsM.get h2 h
      refine ⟨a, b, ?_, ?_, h5⟩
      · rw [Nat.succ_mul]; simpa using h3
      · rw [Nat.succ_mul]; simpa using h4
theorem IsM.length {Z : Nat → Prop} {W : World} : ∀ {M : List St} {xs : List Value}, IsM Z W M xs → xs.length = M.length * 2
  | [], _, h => by subst h; rfl
  | s0 :: M, _, ⟨fv, nv, ys, e, _, h2⟩ => by subst e; have := IsM.length h2; simp; omega
theorem IsM.set {Z : Nat → Prop} {W : World} {qs qs' : List Nat} {nv' : Value} (hn : Ints W nv' qs') (ho : Own Z nv') : ∀ {M : List St} {xs : List Value}, IsM Z W M xs → ∀ {i : Nat}, M[i]? = some (.ep qs) → IsM Z W (M.set i (.ep qs')) (xs.set (i * 2 + 1) nv')
  | [], _, _, i, h => by simp at h
  | s0 :: M, _, ⟨fv, nv, ys, e, h1, h2⟩, i, h => by
    subst e
    rcases i with _ | i
    · simp at h; subst h; exact ⟨fv, nv', ys, rfl, ⟨h1.1, hn, ho⟩, h2⟩
    · simp only [List.getElem?_cons_succ] at h
      refine ⟨fv, nv, ys.set (i * 2 + 1) nv', ?_, h1, IsM.set hn ho h2 h⟩
      rw [Nat.succ_mul]; rfl

/-- A state without reading gets its next states. -/
theorem mach_next {B : Nat} {Z : Nat → Prop} {m : Nat} {st : Int} {M : List St} {W : World} (h : Mach B Z m st M W) {i : Nat} {qs : List Nat} (hi : M[i]? = some (.ep qs)) : ∃ g cap old, At W m #[.slice (some ⟨g, 0, none⟩) M.length cap, .int .i64 st] 66 ∧ W.cell? ⟨g, i * 2 + 1, none⟩ = some old ∧ W.frozen? ⟨g, i * 2 + 1, none⟩ = false ∧ M.length ≤ cap ∧
    ∀ nv qs' w1, Below W.heap.size W w1 → Ints w1 nv qs' → Own Z nv → Mach B Z m st (M.set i (.ep qs')) (w1.setCell ⟨g, i * 2 + 1, none⟩ nv) ∧ FrM B W (w1.setCell ⟨g, i * 2 + 1, none⟩ nv) ∧ w1.cell? ⟨g, i * 2 + 1, none⟩ = some old ∧ w1.frozen? ⟨g, i * 2 + 1, none⟩ = false := by
  obtain ⟨sv, xs, hat, hown, hism, hBm, hBg⟩ := h
  have hlt : i < M.length := (List.getElem?_eq_some_iff.1 hi).1
  have hsv : ∃ g cap, sv = .slice (some ⟨g, 0, none⟩) M.length cap ∧ M.length ≤ cap := by
    rcases hown.2 with ⟨_, h0⟩ | ⟨g, cap, cur, rfl, _, _, hc, _⟩
    · omega
    · exact ⟨g, cap, rfl, hc⟩
  obtain ⟨g, cap, rfl, hcap⟩ := hsv
  obtain ⟨fv, nv0, h1, h2, h3⟩ := hism.get hi
  refine ⟨g, cap, nv0, hat, owns_cell hown rfl h2, owns_free hown rfl _, hcap, fun nv qs' w1 hb hn ho => ?_⟩
  have hown1 : w1.ownsRow 0 74 2 (.slice (some ⟨g, 0, none⟩) M.length cap) M.length xs := owns_same (S := fun k => k < W.heap.size) hown (fun g' hg => by obtain ⟨C, hC⟩ := owns_type hown hg; exact hC.lt) (fun k hk => hb.block k hk)
  obtain ⟨C, hC⟩ := owns_type hown1 (g := g) rfl
  have hf1 : FrM B w1 (w1.setCell ⟨g, i * 2 + 1, none⟩ nv) := (Fr.refl _).set g _ nv (.inr (.inl ⟨hBg g rfl, C, _, hC, rfl⟩))
  have hf0 : FrM B W w1 := Fr.below hb
  have hne : m ≠ g := fun e => owns_ne hown hat (by decide) (by rw [e]; rfl)
  have hj : i * 2 + 1 < xs.length := (List.getElem?_eq_some_iff.1 h2).1
  refine ⟨⟨_, xs.set (i * 2 + 1) nv, (hat.below hb).other _ hne, ?_, ?_, hBm, hBg⟩, hf0.trans hf1, owns_cell hown1 rfl h2, owns_free hown1 rfl _⟩
  · rw [List.length_set]; exact owns_set hown1 hj
  · exact IsM.set (hn.fr hf1 rfl) ho ((hism.frM hf0).frM hf1) hi

set_option maxRecDepth 100000 in
set_option maxHeartbeats 1000000 in
theorem add_star (u : U) (hU : AddOK u) : AddOK (.star u) := by
  intro B S Z W m st M v q hm hu hsz hq
  unfold IsU at hu
  obtain ⟨b, sv, xs, _, rfl, hat, hpa, x, rfl, hx⟩ := hu
  obtain ⟨g, cap, rfl, hcap, hcell⟩ := owns_some hpa.1 (by simp)
  obtain ⟨vb, rfl⟩ := IsU.ptr u x hx
  simp only [szU] at hsz
  have hlen := addU_len u (M ++ [.ep []]) M.length
  have hold := addU_old u (M ++ [.ep []]) M.length M.length (by simp)
  rw [List.getElem?_append_right (Nat.le_refl _), Nat.sub_self] at hold
  have HP0 := Lib.hid (put_any (B := B) Z m st M (.ep []) .nilFunc (.slice none 0 0) W (by omega) hm ⟨rfl, World.ownsRow_nil _ _ _ _, fun g hg => by cases hg⟩)
  have HU := Lib.hid (fun W1 (hm1 : Mach B Z m st (M ++ [.ep []]) W1) (hf1 : FrM B W W1) => hU B S Z W1 m st (M ++ [.ep []]) (ptr vb) M.length hm1 (IsU.fr hf1 rfl rfl rfl u _ hx) (by simp; omega) (by omega))
  have HAT := Lib.hid hat
  have HPA := Lib.hid hpa
  have c0 : W.cell? ⟨b, 0, none⟩ = some (.int .i64 3) := hat.cell 0
  obtain ⟨r, M1, hr⟩ : ∃ r M1, addU u (M ++ [.ep []]) M.length = (r, M1) := ⟨_, _, rfl⟩
  have HE : Hid (addU (.star u) M q = (M.length, M1.set M.length (.ep [r, q]))) := Lib.hid (by simp only [addU, hr])
  rw [hr] at HU hlen hold
  simp only [List.length_append, List.length_singleton] at hlen hold
  have HOLD := Lib.hid hold
  have hlen1 : M.length < M1.length := by omega
  have hlen2 : M1.length ≤ 9000 := by omega
  rw [HE.out]
  clear hr HE hlen hold hm hat hcell hpa hx hU hcap
  unfold ptr at *
  go_enter Try.func39, Try.ntmps39
  go_wp2_with fail
  refine (HP0.out).mono ?_
  rintro e w1 ⟨rfl, hm1, hf1⟩
  have hat1 := HAT.out.fr hf1 (fun h => h) rfl
  have hpa1 := HPA.out.fr hf1 rfl
  have d0 : w1.cell? ⟨b, 0, none⟩ = some (.int .i64 3) := hat1.cell 0
  have d4 : w1.cell? ⟨b, 4, none⟩ = some (.slice (some ⟨g, 0, none⟩) 1 cap) := hat1.cell 4
  have d5 : w1.cell? ⟨g, 0, none⟩ = some (.pointer (some ⟨vb, 0, none⟩)) := owns_cell hpa1.1 rfl rfl
  have HU1 := Lib.hid (HU.out w1 hm1 hf1)
  have HF1 := Lib.hid hf1
  clear hat1 hpa1 hm1 hf1 HU
  go_wp2_with fail
  refine (HU1.out).mono ?_
  rintro e w2 ⟨rfl, hm2, hf2⟩
  have hf12 := HF1.out.trans hf2
  have hs12 := hf2.size
  have hat2 := HAT.out.fr hf12 (fun h => h) rfl
  have e0 : w2.cell? ⟨b, 0, none⟩ = some (.int .i64 3) := hat2.cell 0
  obtain ⟨sg, sc, old, ha2, hc2, hfz2, hcap2, hst2⟩ := mach_next (hm2.mono (Z' := And1 (fun k => Z k ∨ Fresh w1 w2 k) w2.heap.size) fun _ => .inl) HOLD.out
  have m0 : w2.cell? ⟨m, 0, none⟩ = some (.slice (some ⟨sg, 0, none⟩) M1.length sc) := ha2.cell 0
  obtain ⟨hm3, hf3, hc3, hfz3⟩ := hst2 (.slice (some ⟨w2.heap.size, 0, none⟩) 2 2) [r, q] (w2.alloc (.cells #[.int .i64 r, .int .i64 q] 3)) ((Below.refl _ _).alloc (Nat.le_refl _) _) (ints_two w2 r q) (own_new _ _ _ _)
  have m3 : (w2.alloc (.cells #[.int .i64 r, .int .i64 q] 3)).cell? ⟨m, 0, none⟩ = some (.slice (some ⟨sg, 0, none⟩) M1.length sc) := (ha2.alloc _).cell 0
  have HM3 := Lib.hid hm3
  have HF3 := Lib.hid (hf12.trans hf3)
  have hb3 : ((w2.alloc (.cells #[.int .i64 r, .int .i64 q] 3)).setCell ⟨sg, M.length * 2 + 1, none⟩ (.slice (some ⟨w2.heap.size, 0, none⟩) 2 2)).cell? ⟨b, 0, none⟩ = some (.int .i64 3) := (hat2.fr hf3 (fun h => h) rfl).cell 0
  clear hat2 ha2 hst2 hm2 hf2 hm3 hf3 hf12 d0 d4 d5 HU1
  go_wp2_with fail
  go_ret
  exact ⟨rfl, HM3.out.mono (fun k hk => by
    rcases hk with (h | h) | h
    · exact .inl h
    · exact .inr ⟨Nat.le_trans HF1.out.size h.1, by have := h.2; simp; omega⟩
    · exact .inr (by subst h; exact ⟨Nat.le_trans HF1.out.size hs12, by simp⟩)), HF3.out⟩
set_option maxRecDepth 100000 in
set_option maxHeartbeats 1000000 in
theorem add_plus (u : U) (hU : AddOK u) : AddOK (.plus u) := by
  intro B S Z W m st M v q hm hu hsz hq
  unfold IsU at hu
  obtain ⟨b, sv, xs, _, rfl, hat, hpa, x, rfl, hx⟩ := hu
  obtain ⟨g, cap, rfl, hcap, hcell⟩ := owns_some hpa.1 (by simp)
  obtain ⟨vb, rfl⟩ := IsU.ptr u x hx
  simp only [szU] at hsz
  have hlen := addU_len u (M ++ [.ep []]) M.length
  have hold := addU_old u (M ++ [.ep []]) M.length M.length (by simp)
  rw [List.getElem?_append_right (Nat.le_refl _), Nat.sub_self] at hold
  have HP0 := Lib.hid (put_any (B := B) Z m st M (.ep []) .nilFunc (.slice none 0 0) W (by omega) hm ⟨rfl, World.ownsRow_nil _ _ _ _, fun g hg => by cases hg⟩)
  have HU := Lib.hid (fun W1 (hm1 : Mach B Z m st (M ++ [.ep []]) W1) (hf1 : FrM B W W1) => hU B S Z W1 m st (M ++ [.ep []]) (ptr vb) M.length hm1 (IsU.fr hf1 rfl rfl rfl u _ hx) (by simp; omega) (by omega))
  have HAT := Lib.hid hat
  have HPA := Lib.hid hpa
  have c0 : W.cell? ⟨b, 0, none⟩ = some (.int .i64 4) := hat.cell 0
  obtain ⟨r, M1, hr⟩ : ∃ r M1, addU u (M ++ [.ep []]) M.length = (r, M1) := ⟨_, _, rfl⟩
  have HE : Hid (addU (.plus u) M q = (r, M1.set M.length (.ep [r, q]))) := Lib.hid (by simp only [addU, hr])
  rw [hr] at HU hlen hold
  simp only [List.length_append, List.length_singleton] at hlen hold
  have HOLD := Lib.hid hold
  have hlen1 : M.length < M1.length := by omega
  have hlen2 : M1.length ≤ 9000 := by omega
  rw [HE.out]
  clear hr HE hlen hold hm hat hcell hpa hx hU hcap
  unfold ptr at *
  go_enter Try.func39, Try.ntmps39
  go_wp2_with fail
  refine (HP0.out).mono ?_
  rintro e w1 ⟨rfl, hm1, hf1⟩
  have hat1 := HAT.out.fr hf1 (fun h => h) rfl
  have hpa1 := HPA.out.fr hf1 rfl
  have d0 : w1.cell? ⟨b, 0, none⟩ = some (.int .i64 4) := hat1.cell 0
  have d4 : w1.cell? ⟨b, 4, none⟩ = some (.slice (some ⟨g, 0, none⟩) 1 cap) := hat1.cell 4
  have d5 : w1.cell? ⟨g, 0, none⟩ = some (.pointer (some ⟨vb, 0, none⟩)) := owns_cell hpa1.1 rfl rfl
  have HU1 := Lib.hid (HU.out w1 hm1 hf1)
  have HF1 := Lib.hid hf1
  clear hat1 hpa1 hm1 hf1 HU
  go_wp2_with fail
  refine (HU1.out).mono ?_
  rintro e w2 ⟨rfl, hm2, hf2⟩
  have hf12 := HF1.out.trans hf2
  have hs12 := hf2.size
  have hat2 := HAT.out.fr hf12 (fun h => h) rfl
  have e0 : w2.cell? ⟨b, 0, none⟩ = some (.int .i64 4) := hat2.cell 0
  obtain ⟨sg, sc, old, ha2, hc2, hfz2, hcap2, hst2⟩ := mach_next (hm2.mono (Z' := And1 (fun k => Z k ∨ Fresh w1 w2 k) w2.heap.size) fun _ => .inl) HOLD.out
  have m0 : w2.cell? ⟨m, 0, none⟩ = some (.slice (some ⟨sg, 0, none⟩) M1.length sc) := ha2.cell 0
  obtain ⟨hm3, hf3, hc3, hfz3⟩ := hst2 (.slice (some ⟨w2.heap.size, 0, none⟩) 2 2) [r, q] (w2.alloc (.cells #[.int .i64 r, .int .i64 q] 3)) ((Below.refl _ _).alloc (Nat.le_refl _) _) (ints_two w2 r q) (own_new _ _ _ _)
  have m3 : (w2.alloc (.cells #[.int .i64 r, .int .i64 q] 3)).cell? ⟨m, 0, none⟩ = some (.slice (some ⟨sg, 0, none⟩) M1.length sc) := (ha2.alloc _).cell 0
  have HM3 := Lib.hid hm3
  have HF3 := Lib.hid (hf12.trans hf3)
  have hb3 : ((w2.alloc (.cells #[.int .i64 r, .int .i64 q] 3)).setCell ⟨sg, M.length * 2 + 1, none⟩ (.slice (some ⟨w2.heap.size, 0, none⟩) 2 2)).cell? ⟨b, 0, none⟩ = some (.int .i64 4) := (hat2.fr hf3 (fun h => h) rfl).cell 0
  clear hat2 ha2 hst2 hm2 hf2 hm3 hf3 hf12 d0 d4 d5 HU1
  go_wp2_with fail
  go_ret
  exact ⟨rfl, HM3.out.mono (fun k hk => by
    rcases hk with (h | h) | h
    · exact .inl h
    · exact .inr ⟨Nat.le_trans HF1.out.size h.1, by have := h.2; simp; omega⟩
    · exact .inr (by subst h; exact ⟨Nat.le_trans HF1.out.size hs12, by simp⟩)), HF3.out⟩
end Go.Proofs.Ytheblleadjbndaa

namespace Go.Proofs.Ytheblleadjbndaa
open Go.RowKit Rx

def lenS : Ss → Nat
  | .nil => 0
  | .cons _ s => lenS s + 1
def dropS : Nat → Ss → Ss
  | 0, s => s
  | _ + 1, .nil => .nil
  | k + 1, .cons _ s => dropS k s
/-- All factors of a sequence. -/
def AllS (P : U → Prop) : Ss → Prop
  | .nil => True
  | .cons u s => P u ∧ AllS P s
theorem dropS_len : ∀ s, dropS (lenS s) s = .nil
  | .nil => rfl
  | .cons _ s => dropS_len s
theorem isSl_len {S : Nat → Prop} {W : World} : ∀ (s : Ss) (xs : List Value), IsSl S W s xs → xs.length = lenS s
  | .nil, xs, h => by unfold IsSl at h; subst h; rfl
  | .cons u s, xs, h => by
    unfold IsSl at h
    obtain ⟨x, ys, rfl, _, h2⟩ := h
    have := isSl_len s ys h2
    simp [lenS, this]
theorem isSl_at {S : Nat → Prop} {W : World} {P : U → Prop} : ∀ (s : Ss) (xs : List Value), IsSl S W s xs → AllS P s → ∀ j, j < lenS s → ∃ u x, dropS j s = .cons u (dropS (j + 1) s) ∧ xs[j]? = some x ∧ IsU S W u x ∧ P u
  | .nil, xs, h, _, j, hj => by simp [lenS] at hj
  | .cons u s, xs, h, ha, j, hj => by
    unfold IsSl at h
    obtain ⟨x, ys, rfl, h1, h2⟩ := h
    rcases j with _ | j
    · exact ⟨u, x, rfl, rfl, h1, ha.1⟩
    · obtain ⟨u', x', h3, h4, h5, h6⟩ := isSl_at s ys h2 ha.2 j (by simp only [lenS] at hj; omega)
      exact ⟨u', x', h3, h4, h5, h6⟩
theorem dropS_sz : ∀ (k : Nat) (s : Ss), szS (dropS k s) ≤ szS s
  | 0, s => Nat.le_refl _
  | _ + 1, .nil => Nat.le_refl _
  | k + 1, .cons u s => by simp only [dropS, szS]; have := dropS_sz k s; omega
theorem Fresh.next {Z : Nat → Prop} {W w1 w2 : World} {g : Nat} (h : (Z g ∨ Fresh W w1 g) ∨ Fresh w1 w2 g) (h1 : W.heap.size ≤ w1.heap.size) (h2 : w1.heap.size ≤ w2.heap.size) : Z g ∨ Fresh W w2 g := by
  rcases h with (h | h) | h
  · exact .inl h
  · exact .inr ⟨h.1, Nat.lt_of_lt_of_le h.2 h2⟩
  · exact .inr ⟨Nat.le_trans h1 h.1, h.2⟩
/-- add does what is told at the node of this sequence. -/
def SeqAdd (s : Ss) : Prop := ∀ (B : Nat) (S Z : Nat → Prop) (W : World) (m : Nat) (st : Int) (M : List St) (v : Value) (q : Nat), Mach B Z m st M W → Node S W 1 v (fun xs => IsSl S W s xs) → M.length + szS s ≤ 9000 → q ≤ 9000 → Calls Try.prog 39 #[ptr m, v, .int .i64 q] W (AddPost B Z m st W (addS s M q))

set_option maxRecDepth 100000 in
set_option maxHeartbeats 1000000 in
theorem seq_add (s : Ss) (hS : AllS AddOK s) : SeqAdd s := by
  intro B S Z W m st M v q hm hu hsz hq
  obtain ⟨b, sv, xs, _, rfl, hat, hpa, hsl⟩ := hu
  have hlen := isSl_len s xs hsl
  obtain ⟨sa, sn, sc, rfl⟩ := owns_slice hpa.1
  have hsn : sn = xs.length := by
    rcases hpa.1.2 with ⟨e, h0⟩ | ⟨g, cap, cur, e, _⟩
    · injection e with _ e _; omega
    · injection e with _ e _
  subst hsn
  have c0 : W.cell? ⟨b, 0, none⟩ = some (.int .i64 1) := hat.cell 0
  have c4 : W.cell? ⟨b, 4, none⟩ = some (.slice sa xs.length sc) := hat.cell 4
  have HM := Lib.hid hm
  have HAT := Lib.hid hat
  have HPA := Lib.hid hpa
  have HSL := Lib.hid hsl
  have HLEN := Lib.hid hlen
  have HS := Lib.hid hS
  have hxl : xs.length ≤ 9000 := by
    have h1 : lenS s ≤ szS s := by
      clear hsz hsl hlen HSL HLEN HS hS
      induction s using Ss.rec (motive_1 := fun _ => True) (motive_3 := fun _ => True) with
      | nil => exact Nat.le_refl _
      | cons u s _ ih => have := szU_byte_pos u; simp only [lenS, szS]; omega
      | _ => trivial
    omega
  clear hm hat hpa hsl hlen hS
  unfold ptr at *
  go_enter Try.func39, Try.ntmps39
  go_wp2_with fail
  go_loopw [2, 7] (fun nx i wr => ∃ k : Nat, k ≤ xs.length ∧ i = .int .i64 ((k : Int) - 1) ∧ nx = .int .i64 (addS (dropS k s) M q).1 ∧ Mach B (fun g => Z g ∨ Fresh W wr g) m st (addS (dropS k s) M q).2 wr ∧ FrM B W wr) (fun _ i _ => (intOf i + 1).toNat)
  case atStart =>
    refine ⟨xs.length, Nat.le_refl _, rfl, ?_, ?_, Fr.refl _⟩
    · rw [HLEN.out, dropS_len]; simp [addS]
    · rw [HLEN.out, dropS_len]; simp only [addS]; exact HM.out.mono fun _ => .inl
  case round =>
    obtain ⟨k, hk, rfl, rfl, hmk, hfk⟩ := hrel
    have HMK := Lib.hid hmk
    have HFK := Lib.hid hfk
    clear hmk hfk
    rcases k with _ | j
    · have e0 : dropS 0 s = s := rfl
      rw [e0] at HMK ⊢
      clear e0
      go_wp2_with fail
      go_ret
      exact ⟨rfl, HMK.out, HFK.out⟩
    · have hj : j < lenS s := by rw [← HLEN.out]; omega
      obtain ⟨u, x, h1, h2, h3, h4⟩ := isSl_at s xs HSL.out HS.out j hj
      obtain ⟨vb, rfl⟩ := IsU.ptr u x h3
      have hsa : ∃ g, sa = some ⟨g, 0, none⟩ := by
        rcases HPA.out.1.2 with ⟨e, h0⟩ | ⟨g, cap, cur, e, _⟩
        · omega
        · injection e with e _ _; exact ⟨g, e⟩
      obtain ⟨g, rfl⟩ := hsa
      have hat := HAT.out.fr HFK.out (fun h => h) rfl
      have hpa := HPA.out.fr HFK.out rfl
      have d4 : wr.cell? ⟨b, 4, none⟩ = some (.slice (some ⟨g, 0, none⟩) xs.length sc) := hat.cell 4
      have d5 : wr.cell? ⟨g, j, none⟩ = some (.pointer (some ⟨vb, 0, none⟩)) := owns_cell hpa.1 rfl h2
      have hlen := addS_len (dropS (j + 1) s) M q
      have hat1 := addS_at (dropS (j + 1) s) M q
      have hsz1 := dropS_sz (j + 1) s
      have hsz2 := dropS_sz j s
      rw [h1] at hsz2
      simp only [szS] at hsz2
      have HU := Lib.hid (h4 B S (fun g => Z g ∨ Fresh W wr g) wr m st (addS (dropS (j + 1) s) M q).2 _ (addS (dropS (j + 1) s) M q).1 HMK.out (IsU.fr HFK.out rfl rfl rfl u _ h3) (by omega) (by omega))
      have HD : Hid (addU u (addS (dropS (j + 1) s) M q).2 (addS (dropS (j + 1) s) M q).1 = addS (dropS j s) M q) := Lib.hid (by rw [h1]; simp only [addS])
      have hi : ((j + 1 : Nat) : Int) - 1 = (j : Int) := by omega
      rw [hi]
      have hjl : (j : Int) < (xs.length : Int) := by omega
      clear hat hpa hlen hat1 hsz1 hsz2 h1 h2 h3 h4 hi
      unfold ptr at *
      go_wp2_with fail
      refine (HU.out).mono ?_
      rw [HD.out]
      rintro e w2 ⟨rfl, hm2, hf2⟩
      have HM2 := Lib.hid hm2
      have HF2 := Lib.hid hf2
      clear hm2 hf2
      go_wp2_with fail
      go_roundw
      case rel => exact ⟨j, by omega, by go_num, rfl, HM2.out.mono (fun g hg => Fresh.next hg HFK.out.size HF2.out.size), HFK.out.trans HF2.out⟩
      case measure => first | (simp [intOf]; done) | (simp [intOf]; omega)
end Go.Proofs.Ytheblleadjbndaa

namespace Go.Proofs.Ytheblleadjbndaa
open Go.RowKit Rx

def toL : As → List Ss
  | .one s => [s]
  | .more s a => s :: toL a
/-- The states of sequences one after the other. -/
def addLs (q : Nat) : List Ss → List St → List Nat × List St
  | [], M => ([], M)
  | s :: l, M => ((addS s M q).1 :: (addLs q l (addS s M q).2).1, (addLs q l (addS s M q).2).2)
theorem addL_eq (q : Nat) : ∀ (a : As) (M : List St), addL a M q = addLs q (toL a) M
  | .one s, M => by simp [addL, toL, addLs]
  | .more s a, M => by simp only [addL, toL, addLs, addL_eq q a]
theorem addLs_snoc (q : Nat) (s : Ss) : ∀ (l : List Ss) (M : List St), addLs q (l ++ [s]) M = ((addLs q l M).1 ++ [(addS s (addLs q l M).2 q).1], (addS s (addLs q l M).2 q).2)
  | [], M => by simp [addLs]
  | s' :: l, M => by simp only [List.cons_append, addLs, addLs_snoc q s l]
def szL : List Ss → Nat
  | [] => 0
  | s :: l => szS s + szL l
theorem szA_eq : ∀ a, szL (toL a) + (toL a).length = szA a + 1
  | .one s => by simp [szA, toL, szL]
  | .more s a => by have := szA_eq a; simp only [szA, toL, szL, List.length_cons]; omega
theorem addLs_len (q : Nat) : ∀ (l : List Ss) (M : List St), M.length ≤ (addLs q l M).2.length ∧ (addLs q l M).2.length ≤ M.length + szL l
  | [], M => by simp [addLs, szL]
  | s :: l, M => by
    have h1 := addS_len s M q
    have h2 := addLs_len q l (addS s M q).2
    simp only [addLs, szL]; omega
theorem addLs_count (q : Nat) : ∀ (l : List Ss) (M : List St), (addLs q l M).1.length = l.length
  | [], M => rfl
  | s :: l, M => by simp only [addLs, List.length_cons, addLs_count q l]
theorem szL_take (l : List Ss) (k : Nat) (s : Ss) (h : l[k]? = some s) : szL (l.take k) + szS s ≤ szL l := by
  induction l generalizing k with
  | nil => simp at h
  | cons a l ih =>
    rcases k with _ | k
    · simp at h; subst h; simp [szL]
    · simp only [List.getElem?_cons_succ] at h
      have := ih k h
      simp only [List.take_succ_cons, szL]; omega
theorem NsQ.fr {B : Nat} {T : TypeId → Bool} {W W' : World} {S : Nat → Prop} (hf : Fr B T (fun _ => False) W W') (ht : T 54 = false) (hp : T 37 = false) (hc : T 102 = false) : ∀ (l : List Ss) (xs : List Value), NsQ l S W xs → NsQ l S W' xs
  | [], _, h => h
  | _ :: l, _, ⟨x, ys, e, h1, h2⟩ => ⟨x, ys, e, h1.fr hf ht hp fun zs hz => IsSl.fr hf ht hp hc _ zs hz, NsQ.fr hf ht hp hc l ys h2⟩
theorem NsQ.len {W : World} {S : Nat → Prop} : ∀ (l : List Ss) (xs : List Value), NsQ l S W xs → xs.length = l.length
  | [], xs, h => by unfold NsQ at h; subst h; rfl
  | _ :: l, _, ⟨x, ys, e, _, h2⟩ => by subst e; simp [NsQ.len l ys h2]
theorem NsQ.get {W : World} {S : Nat → Prop} : ∀ (l : List Ss) (xs : List Value), NsQ l S W xs → ∀ k, k < l.length → ∃ d x, l[k]? = some d ∧ xs[k]? = some x ∧ Node S W 1 x fun zs => IsSl S W d zs
  | [], _, _, k, hk => by simp at hk
  | d :: l, _, ⟨x, ys, e, h1, h2⟩, k, hk => by
    subst e
    rcases k with _ | k
    · exact ⟨d, x, rfl, rfl, h1⟩
    · exact NsQ.get l ys h2 k (by simpa using hk)
theorem IsAl.ns {W : World} {S : Nat → Prop} : ∀ (a : As) (xs : List Value), IsAl S W a xs → NsQ (toL a) S W xs
  | .one s, xs, h => by
    unfold IsAl at h
    obtain ⟨x, e, h1⟩ := h
    exact ⟨x, [], e, h1, rfl⟩
  | .more s a, xs, h => by
    unfold IsAl at h
    obtain ⟨x, ys, e, h1, h2⟩ := h
    exact ⟨x, ys, e, h1, IsAl.ns a ys h2⟩

theorem len_small9 {n : Nat} (h : n ≤ 9000) : n + 1 ≤ maxLen := by unfold maxLen; omega
theorem len_bytes9 {n : Nat} (h : n ≤ 9000) : (n + 1) * 8 ≤ 140737488355328 := by omega
theorem info_int : (Try.prog.info? 3).map (fun i => (i.zero, i.size, i.bytes)) = some (some (.int .i64 0), 1, 8) := by kernel_rfl
theorem one_int (n : Int) : ∀ u ∈ [Value.int .i64 n], u.oneCell' = true := by
  intro u hu
  rw [List.mem_singleton] at hu
  subst hu; rfl
/-- A machine and a slice of whole numbers that is none of its own: the slice grows. -/
theorem Mach.other {B : Nat} {Z : Nat → Prop} {m : Nat} {st : Int} {M : List St} {W W' : World} (h : Mach B Z m st M W) (X : Nat → Prop) (hf : Fr 0 (fun _ => false) X W W') (hx : ∀ b C t, X b → At W b C t → t = 3) (hz : ∀ b, X b → ¬ Z b) : Mach B Z m st M W' := by
  obtain ⟨sv, xs, h1, h2, h3, h4⟩ := h
  refine ⟨sv, xs, h1.fr hf (fun h => absurd (hx _ _ _ h h1) (by decide)) rfl, owns_fr h2 hf (fun g hg hX => ?_) rfl, ?_, h4⟩
  · obtain ⟨C, hC⟩ := owns_type h2 hg
    exact absurd (hx _ _ _ hX hC) (by decide)
  · have hs : ∀ s fv nv, IsSt Z W s fv nv → IsSt Z W' s fv nv := fun s fv nv hh => by
      have hfn : ∀ v f, IsFn W v f → IsFn W' v f := fun v f hv => hv.fr hf rfl rfl rfl (fun b C t ha ht hX => by
        have := hx _ _ _ hX ha
        subst this
        rcases ht with e | e | e <;> exact absurd e (by decide))
      have hin : ∀ v qs, Ints W v qs → Own Z v → Ints W' v qs := fun v qs hv ho => owns_fr hv hf (fun g hg hX => hz g hX (ho g hg)) rfl
      rcases s with ⟨f, q⟩ | qs
      · exact ⟨hfn _ _ hh.1, hin _ _ hh.2.1 hh.2.2, hh.2.2⟩
      · exact ⟨hh.1, hin _ _ hh.2.1 hh.2.2, hh.2.2⟩
    have : ∀ (M : List St) (xs : List Value), IsM Z W M xs → IsM Z W' M xs := by
      intro M
      induction M with
      | nil => exact fun _ h => h
      | cons s M ih => exact fun _ ⟨fv, nv, ys, e, h1, h2⟩ => ⟨fv, nv, ys, e, hs _ _ _ h1, ih _ h2⟩
    exact this M xs h3
/-- What the loop over the alternatives has gathered. -/
structure AlIn (B : Nat) (Z : Nat → Prop) (W : World) (m : Nat) (st : Int) (fv : Value) (fs : List Nat) (M : List St) (wr : World) : Prop where
  ints : Ints wr fv fs
  row : ∀ g, fv.ownBlock = some g → Fresh W wr g
  mach : Mach B (fun g => (Z g ∨ Fresh W wr g) ∧ fv.ownBlock ≠ some g) m st M wr
  fr : FrM B W wr
theorem AlIn.add {B : Nat} {Z : Nat → Prop} {W wr w2 : World} {m : Nat} {st : Int} {fv : Value} {fs : List Nat} {M M' : List St} (h : AlIn B Z W m st fv fs M wr) (hm : Mach B (fun g => ((Z g ∨ Fresh W wr g) ∧ fv.ownBlock ≠ some g) ∨ Fresh wr w2 g) m st M' w2) (hf : FrM B wr w2) : AlIn B Z W m st fv fs M' w2 := by
  refine ⟨h.ints.fr hf rfl, fun g hg => ⟨(h.row g hg).1, Nat.lt_of_lt_of_le (h.row g hg).2 hf.size⟩, hm.mono fun g hg => ?_, h.fr.trans hf⟩
  rcases hg with ⟨h1, h2⟩ | h1
  · refine ⟨?_, h2⟩
    rcases h1 with h1 | h1
    · exact .inl h1
    · exact .inr ⟨h1.1, Nat.lt_of_lt_of_le h1.2 hf.size⟩
  · refine ⟨.inr ⟨Nat.le_trans h.fr.size h1.1, h1.2⟩, fun e => ?_⟩
    have := (h.row g e).2
    have := h1.1
    omega
theorem AlIn.push {B : Nat} {Z : Nat → Prop} {W w2 w3 : World} {m : Nat} {st : Int} {fv fv' : Value} {fs : List Nat} {M : List St} {r n : Nat} (h : AlIn B Z W m st fv fs M w2) (hz : ∀ g, Z g → g < W.heap.size)
    (hown : w3.ownsRow 0 3 1 fv' n (fs.map intV ++ [.int .i64 r])) (hn : n = fs.length + 1) (hg : (w2.alloc (.cells #[.int .i64 r] 3)).grownBy w3 fv.ownBlock) (hw : fv'.ownBlock = fv.ownBlock ∨ fv'.ownBlock = some (w2.alloc (.cells #[.int .i64 r] 3)).heap.size) : AlIn B Z W m st fv' (fs ++ [r]) M w3 := by
  have hsz : w2.heap.size + 1 ≤ w3.heap.size := by have := hg.size; rw [alloc_size] at this; exact this
  have hb2 : Below w2.heap.size w2 (w2.alloc (.cells #[.int .i64 r] 3)) := (Below.refl _ _).alloc (Nat.le_refl _) _
  have hf : Fr 0 (fun _ => false) (fun g => fv.ownBlock = some g) w2 w3 := (Fr.below hb2).grown hg fun b hb => .inl hb
  have hrow' : ∀ g, fv'.ownBlock = some g → Fresh W w3 g ∧ (fv.ownBlock = some g ∨ w2.heap.size < g) := fun g hg' => by
    have hlt := hown.lt g hg'
    rcases hw with e | e
    · rw [e] at hg'
      exact ⟨⟨(h.row g hg').1, hlt.2⟩, .inl hg'⟩
    · rw [e] at hg'
      injection hg' with hg'
      rw [alloc_size] at hg'
      have := h.fr.size
      exact ⟨⟨by omega, hlt.2⟩, .inr (by omega)⟩
  refine ⟨?_, fun g hg' => (hrow' g hg').1, ?_, ?_⟩
  · unfold Ints
    rw [List.map_append, List.length_append]
    subst hn
    exact hown
  · have hm := h.mach.other _ hf (fun b C t hX ha => by
      obtain ⟨C', hC'⟩ := owns_type h.ints hX
      have h1 := hC'.out
      rw [ha.out] at h1
      injection h1 with h1
      injection h1 with _ h1) (fun b hX hZ => hZ.2 hX)
    refine hm.mono fun g hgz => ⟨?_, fun e => ?_⟩
    · rcases hgz.1 with h1 | h1
      · exact .inl h1
      · exact .inr ⟨h1.1, by have := h1.2; omega⟩
    · rcases (hrow' g e).2 with h1 | h1
      · exact hgz.2 h1
      · rcases hgz.1 with h2 | h2
        · have := hz g h2; have := h.fr.size; omega
        · have := h2.2; omega
  · exact (h.fr.alloc _).grown hg fun b hb => .inr (.inr (h.row b hb).1)
theorem Mach.small {B : Nat} {Z : Nat → Prop} {m : Nat} {st : Int} {M : List St} {W : World} (h : Mach B Z m st M W) : Mach B (fun k => Z k ∧ k < W.heap.size) m st M W := by
  obtain ⟨sv, xs, h1, h2, h3, h4⟩ := h
  refine ⟨sv, xs, h1, h2, ?_, h4⟩
  have hlt : ∀ v qs, Ints W v qs → Own Z v → Own (fun k => Z k ∧ k < W.heap.size) v := fun v qs hv ho g hg => by
    obtain ⟨C, hC⟩ := owns_type hv hg
    exact ⟨ho g hg, hC.lt⟩
  have : ∀ (M : List St) (xs : List Value), IsM Z W M xs → IsM (fun k => Z k ∧ k < W.heap.size) W M xs := by
    intro M
    induction M with
    | nil => exact fun _ h => h
    | cons s M ih =>
      refine fun _ ⟨fv, nv, ys, e, h1, h2⟩ => ⟨fv, nv, ys, e, ?_, ih _ h2⟩
      rcases s with ⟨f, q⟩ | qs
      · exact ⟨h1.1, h1.2.1, hlt _ _ h1.2.1 h1.2.2⟩
      · exact ⟨h1.1, h1.2.1, hlt _ _ h1.2.1 h1.2.2⟩
  exact this M xs h3

set_option maxRecDepth 100000 in
set_option maxHeartbeats 2000000 in
theorem more_add (ss : List Ss) (hS : ∀ s ∈ ss, SeqAdd s) (B : Nat) (S Z : Nat → Prop) (W : World) (m : Nat) (st : Int) (M : List St) (v : Value) (q : Nat) (hm : Mach B Z m st M W) (hu : Node S W 2 v (fun xs => NsQ ss S W xs)) (hsz : M.length + szL ss + 1 ≤ 9000) (hq : q ≤ 9000) (hss : ss.length ≤ 9000) :
    Calls Try.prog 39 #[ptr m, v, .int .i64 q] W (AddPost B Z m st W ((addLs q ss M).2.length, (addLs q ss M).2 ++ [.ep (addLs q ss M).1])) := by
  obtain ⟨i0, hi, hz0, hz1, hz2⟩ := info_parts info_int
  have HI := Lib.hid hi
  have HZ0 := Lib.hid hz0
  have HZ1 := Lib.hid hz1
  have HZ2 := Lib.hid hz2
  clear hi hz0 hz1 hz2
  obtain ⟨b, sv, xs, _, rfl, hat, hpa, hns⟩ := hu
  have hlen := NsQ.len ss xs hns
  obtain ⟨sa, sn, sc, rfl⟩ := owns_slice hpa.1
  have hsn : sn = xs.length := by
    rcases hpa.1.2 with ⟨e, h0⟩ | ⟨g, cap, cur, e, _⟩
    · injection e with _ e _; omega
    · injection e with _ e _
  subst hsn
  have c0 : W.cell? ⟨b, 0, none⟩ = some (.int .i64 2) := hat.cell 0
  have c4 : W.cell? ⟨b, 4, none⟩ = some (.slice sa xs.length sc) := hat.cell 4
  have HM := Lib.hid hm
  have HAT := Lib.hid hat
  have HPA := Lib.hid hpa
  have HNS := Lib.hid hns
  have HLEN := Lib.hid hlen
  have HS := Lib.hid hS
  have hxl : xs.length ≤ 9000 := by omega
  clear hm hat hpa hns hlen hS
  unfold ptr at *
  go_enter Try.func39, Try.ntmps39
  go_wp2_with fail
  go_loopw [11, 104] (fun fv i wr => ∃ k : Nat, k ≤ xs.length ∧ i = .int .i64 k ∧ AlIn B (fun g => Z g ∧ g < W.heap.size) W m st fv (addLs q (ss.take k) M).1 (addLs q (ss.take k) M).2 wr) (fun _ i _ => xs.length - (intOf i).toNat)
  case atStart =>
    refine ⟨0, Nat.zero_le _, rfl, World.ownsRow_nil _ _ _ _, (fun g hg => by cases hg), ?_, Fr.refl _⟩
    exact HM.out.small.mono fun g hg => ⟨.inl hg, fun e => by cases e⟩
  case round =>
    obtain ⟨k, hk, rfl, hal⟩ := hrel
    obtain ⟨fa, fn, fc, rfl⟩ := owns_slice hal.ints
    have HAL := Lib.hid hal
    clear hal
    by_cases hlt : k < xs.length
    · have hj : k < ss.length := by rw [← HLEN.out]; exact hlt
      obtain ⟨d, x, h1, h2, h3⟩ := NsQ.get ss xs HNS.out k hj
      have h4 := HS.out d (List.mem_of_getElem? h1)
      have hptr : ∃ vb, x = ptr vb := by obtain ⟨b, _, _, _, e, _⟩ := h3; exact ⟨b, e⟩
      obtain ⟨vb, rfl⟩ := hptr
      have hsa : ∃ g, sa = some ⟨g, 0, none⟩ := by
        rcases HPA.out.1.2 with ⟨e, h0⟩ | ⟨g, cap, cur, e, _⟩
        · omega
        · injection e with e _ _; exact ⟨g, e⟩
      obtain ⟨g, rfl⟩ := hsa
      have hat := HAT.out.fr HAL.out.fr (fun h => h) rfl
      have hpa := HPA.out.fr HAL.out.fr rfl
      have d4 : wr.cell? ⟨b, 4, none⟩ = some (.slice (some ⟨g, 0, none⟩) xs.length sc) := hat.cell 4
      have d5 : wr.cell? ⟨g, k, none⟩ = some (.pointer (some ⟨vb, 0, none⟩)) := owns_cell hpa.1 rfl h2
      have hl1 := addLs_len q (ss.take k) M
      have hl2 := szL_take ss k d h1
      have hc := addLs_count q (ss.take k) M
      have hcl : (addLs q (ss.take k) M).1.length ≤ 9000 := by rw [hc, List.length_take]; omega
      have HTK : Hid (addLs q (ss.take (k + 1)) M = ((addLs q (ss.take k) M).1 ++ [(addS d (addLs q (ss.take k) M).2 q).1], (addS d (addLs q (ss.take k) M).2 q).2)) := Lib.hid (by
        rw [List.take_succ_eq_append_getElem hj, addLs_snoc]
        have : ss[k] = d := by rw [List.getElem?_eq_getElem hj] at h1; exact Option.some.inj h1
        rw [this])
      have HU := Lib.hid (h4 B S (fun g => ((Z g ∧ g < W.heap.size) ∨ Fresh W wr g) ∧ (Value.slice fa fn fc).ownBlock ≠ some g) wr m st (addLs q (ss.take k) M).2 _ q HAL.out.mach (h3.fr HAL.out.fr rfl rfl fun zs hz => IsSl.fr HAL.out.fr rfl rfl rfl d zs hz) (by omega) hq)
      clear hat hpa hl1 hl2 hc h1 h2 h3 h4
      generalize addLs q (ss.take k) M = R at *
      obtain ⟨fs, Mk⟩ := R
      generalize addS d Mk q = r at *
      obtain ⟨r, M2⟩ := r
      have HCL : Hid (fs.length ≤ 9000) := Lib.hid hcl
      have HAL2 : Hid (AlIn B (fun g => Z g ∧ g < W.heap.size) W m st (.slice fa fn fc) fs Mk wr) := HAL
      clear hcl HAL
      unfold ptr at *
      go_wp2_with fail
      refine (HU.out).mono ?_
      rintro e w2 ⟨rfl, hm2, hf2⟩
      have HA2 : Hid (AlIn B (fun g => Z g ∧ g < W.heap.size) W m st (.slice fa fn fc) fs M2 w2) := Lib.hid (HAL2.out.add hm2 hf2)
      clear hm2 hf2 HU
      go_wp2_with (at_builtin; (refine wpList_append_where _ rfl (.tmp 108) (.tmp 113) 68 rfl 3 i0 (.int .i64 0) 1 8 Try.underlying68 HI.out HZ0.out HZ1.out HZ2.out rfl (by decide) (.slice fa fn fc) fs.length (fs.map intV) rfl (HA2.out.ints.alloc _) ⟨w2.heap.size, 0, none⟩ 1 1 [.int .i64 r] rfl (by decide) rfl (new_one w2 _ _) (one_int _) (len_small9 HCL.out) (len_bytes9 HCL.out) ?_))
      intro fv' w3 hown hgrow hwhere
      have HA3 := Lib.hid (HA2.out.push (fun g hg => hg.2) hown rfl hgrow (by rw [alloc_size]; exact hwhere))
      obtain ⟨ta, tn, tc, rfl⟩ := owns_slice hown
      clear hown hgrow hwhere
      go_wp2_with fail
      go_roundw
      case rel => exact ⟨k + 1, by omega, by go_num, by rw [HTK.out]; exact HA3.out⟩
      case measure => simp [intOf]; omega
    · obtain rfl : k = xs.length := by omega
      have hall : ss.take xs.length = ss := List.take_of_length_le (by rw [HLEN.out]; exact Nat.le_refl _)
      rw [hall] at HAL
      clear hall
      have hl1 := addLs_len q ss M
      generalize addLs q ss M = R at *
      obtain ⟨fs, Mk⟩ := R
      have HAL2 : Hid (AlIn B (fun g => Z g ∧ g < W.heap.size) W m st (.slice fa fn fc) fs Mk wr) := HAL
      have hl2 : Mk.length ≤ 9000 := by simp only at hl1; omega
      clear HAL hl1
      have HP := Lib.hid (put_any (B := B) (fun g => Z g ∨ Fresh W wr g) m st Mk (.ep fs) .nilFunc (.slice fa fn fc) wr (by omega) (HAL2.out.mach.mono fun g hg => by
        rcases hg.1 with h | h
        · exact .inl h.1
        · exact .inr h) ⟨rfl, HAL2.out.ints, fun g hg => .inr (HAL2.out.row g hg)⟩)
      unfold ptr at *
      go_wp2_with fail
      refine (HP.out).mono ?_
      rintro e w2 ⟨rfl, hm2, hf2⟩
      have HM2 := Lib.hid hm2
      have HF2 := Lib.hid hf2
      clear hm2 hf2
      go_wp2_with fail
      go_ret
      exact ⟨rfl, HM2.out.mono (fun g hg => by
        rcases hg with h | h
        · exact .inl h
        · exact .inr ⟨h.1, Nat.lt_of_lt_of_le h.2 HF2.out.size⟩), HAL2.out.fr.trans HF2.out⟩

mutual
theorem add_ok : ∀ u : U, AddOK u
  | .byte c => add_byte c
  | .cls f => add_cls f
  | .star u => add_star u (add_ok u)
  | .plus u => add_plus u (add_ok u)
  | .opt u => add_opt u (add_ok u)
  | .grp (.one s) => by
    intro B S Z W m st M v q hm hu hsz hq
    unfold IsU IsA at hu
    simp only [szU, szA] at hsz
    exact seq_add s (add_allS s) B S Z W m st M v q hm hu (by omega) hq
  | .grp (.more s a) => by
    intro B S Z W m st M v q hm hu hsz hq
    unfold IsU IsA at hu
    simp only [szU, szA] at hsz
    have hze := szA_eq a
    have h1 := add_allA a
    have h2 : SeqAdd s := seq_add s (add_allS s)
    have := more_add (s :: toL a) (fun d hd => by
      rcases List.mem_cons.1 hd with e | e
      · rw [e]; exact h2
      · exact h1 d e) B S Z W m st M v q hm (hu.fr (Fr.refl (B := 0) (T := fun _ => false) W) rfl rfl fun xs ⟨x, ys, e, h3, h4⟩ => ⟨x, ys, e, h3, IsAl.ns a ys h4⟩) (by simp only [szL]; omega) hq (by simp only [List.length_cons]; omega)
    have e : addU (.grp (.more s a)) M q = ((addLs q (s :: toL a) M).2.length, (addLs q (s :: toL a) M).2 ++ [.ep (addLs q (s :: toL a) M).1]) := by
      simp only [addU, addA, addL_eq, addLs]
    rw [e]
    exact this
theorem add_allA : ∀ a : As, ∀ d ∈ toL a, SeqAdd d
  | .one s => by
    have hs := seq_add s (add_allS s)
    intro d hd
    unfold toL at hd
    rw [List.mem_singleton] at hd
    rw [hd]
    exact hs
  | .more s a => by
    have hs := seq_add s (add_allS s)
    have ha := add_allA a
    intro d hd
    unfold toL at hd
    rcases List.mem_cons.1 hd with e | e
    · rw [e]; exact hs
    · exact ha d e
theorem add_allS : ∀ s : Ss, AllS AddOK s
  | .nil => trivial
  | .cons u s => ⟨add_ok u, add_allS s⟩
end
end Go.Proofs.Ytheblleadjbndaa

namespace Go.Proofs.Ytheblleadjbndaa
open Go.RowKit Rx

theorem Fr.toBelow {B : Nat} {T : TypeId → Bool} {W W' : World} (h : Fr B T (fun _ => False) W W') (hB : B ≤ W.heap.size) : Below B W W' :=
  ⟨h.os, h.tape, h.output, h.size, fun k hk => h.block k (by omega) (fun h => h) (fun hB => by omega)⟩

theorem make_state (w : World) : (Instr.makeSlice 64 (.int .i64 1) (.int .i64 1)).run Try.prog w = .ok (.slice (some ⟨w.heap.size, 0, none⟩) 1 1) (w.alloc (.cells #[.nilFunc, .slice none 0 0] 74)) := by kernel_rfl
set_option maxRecDepth 100000 in
set_option maxHeartbeats 1000000 in
theorem build_any (a : As) (S : Nat → Prop) (W : World) (v : Value) (ha : IsA S W a v) (hsz : szA a ≤ 300) :
    Calls Try.prog 29 #[v] W fun e w' => ∃ m, e = .returned (ptr m) ∧ Mach W.heap.size (Fresh W w') m (addA a [.ep []] 0).1 (addA a [.ep []] 0).2 w' ∧ Below W.heap.size W w' := by
  obtain ⟨vb, rfl⟩ := IsA.ptr a v ha
  have h0 : Mach W.heap.size (fun _ => False) (W.heap.size + 1) 0 [.ep []] ((W.alloc (.cells #[.nilFunc, .slice none 0 0] 74)).alloc (.cells #[.slice (some ⟨W.heap.size, 0, none⟩) 1 1, .int .i64 0] 66)) := by
    have e := At.new (W.alloc (.cells #[.nilFunc, .slice none 0 0] 74)) #[.slice (some ⟨W.heap.size, 0, none⟩) 1 1, .int .i64 0] 66
    rw [alloc_size] at e
    refine ⟨_, [.nilFunc, .slice none 0 0], e, ⟨rfl, .inr ⟨W.heap.size, 1, #[.nilFunc, .slice none 0 0], rfl, Nat.zero_le _, ((At.new W #[.nilFunc, .slice none 0 0] 74).alloc _).out, Nat.le_refl _, by decide, rfl, rfl⟩⟩, ⟨.nilFunc, .slice none 0 0, [], rfl, ⟨rfl, World.ownsRow_nil _ _ _ _, fun g hg => by cases hg⟩, rfl⟩, by omega, fun g hg => ?_⟩
    injection hg with hg
    subst hg
    exact Nat.le_refl _
  have hb0 : Below W.heap.size W ((W.alloc (.cells #[.nilFunc, .slice none 0 0] 74)).alloc (.cells #[.slice (some ⟨W.heap.size, 0, none⟩) 1 1, .int .i64 0] 66)) := ((Below.refl _ _).alloc (Nat.le_refl _) _).alloc (by rw [alloc_size]; omega) _
  have hia : IsU S ((W.alloc (.cells #[.nilFunc, .slice none 0 0] 74)).alloc (.cells #[.slice (some ⟨W.heap.size, 0, none⟩) 1 1, .int .i64 0] 66)) (.grp a) (ptr vb) := by
    unfold IsU
    exact IsA.fr (B := 0) (T := fun _ => false) (Fr.below hb0) rfl rfl rfl a _ ha
  have HA := Lib.hid (add_ok (.grp a) W.heap.size S (fun _ => False) _ (W.heap.size + 1) 0 [.ep []] (ptr vb) 0 h0 hia (by simp [szU]; omega) (by omega))
  have HB0 := Lib.hid hb0
  clear h0 hb0 hia ha
  have e0 : addU (.grp a) [.ep []] 0 = addA a [.ep []] 0 := by simp only [addU]
  rw [e0] at HA
  clear e0
  have HLEN := Lib.hid (addA_len a [.ep []] 0)
  generalize addA a [.ep []] 0 = R at *
  obtain ⟨st, M⟩ := R
  unfold ptr at *
  have hmk := make_state W
  go_enter Try.func29, Try.ntmps29
  go_wp2_with fail
  refine (HA.out).mono ?_
  rintro e w2 ⟨rfl, hm2, hf2⟩
  have HF2 : Hid (Below W.heap.size W w2) := Lib.hid (HB0.out.trans (Fr.toBelow hf2 (by simp; omega)))
  have HFR := Lib.hid hf2
  obtain ⟨sv, xs, hat, hown, hism, h1, h2⟩ := hm2
  have c1 : w2.cell? ⟨W.heap.size + 1, 1, none⟩ = some (.int .i64 0) := hat.cell 1
  have c2 := hat.free 1
  have HM3 : Hid (Mach W.heap.size (Fresh W (w2.setCell ⟨W.heap.size + 1, 1, none⟩ (.int .i64 st))) (W.heap.size + 1) st M (w2.setCell ⟨W.heap.size + 1, 1, none⟩ (.int .i64 st))) := Lib.hid (by
    have hf3 : FrM W.heap.size w2 (w2.setCell ⟨W.heap.size + 1, 1, none⟩ (.int .i64 st)) := (Fr.refl _).set _ 1 _ (.inr (.inl ⟨h1, _, _, hat, rfl⟩))
    refine ⟨sv, xs, hat.set 1 _, ?_, (hism.frM hf3).mono fun g hg => ?_, h1, h2⟩
    · exact owns_same (S := fun k => k ≠ W.heap.size + 1) hown (fun g hg e => owns_ne hown hat (by decide) (by rw [hg, e])) (fun k hk => Below.heap_setCell w2 ⟨W.heap.size + 1, 1, none⟩ _ k hk)
    · rcases hg with h | h
      · exact h.elim
      · refine ⟨?_, by have := h.2; simpa using this⟩
        have := h.1
        simp at this
        omega)
  have HB3 : Hid (Below W.heap.size W (w2.setCell ⟨W.heap.size + 1, 1, none⟩ (.int .i64 st))) := Lib.hid (HF2.out.setCell (by show W.heap.size ≤ W.heap.size + 1; omega) _)
  clear hf2 hat hown hism h1 h2
  go_wp2_with fail
  go_ret
  exact ⟨_, rfl, HM3.out, HB3.out⟩
end Go.Proofs.Ytheblleadjbndaa

namespace Go.Proofs.Ytheblleadjbndaa
open Go.RowKit Rx
namespace Rx
theorem quoteR_len (l : List UInt8) : (quoteR l).length ≤ 2 * l.length := by
  unfold quoteR
  induction l with
  | nil => simp
  | cons c l ih =>
    rw [List.flatMap_cons, List.length_append, List.length_cons]
    split <;> simp only [List.length_cons, List.length_nil] <;> omega
theorem quoteR_snoc (l : List UInt8) (c : UInt8) : quoteR (l ++ [c]) = quoteR l ++ if special c then [92, c] else [c] := by simp [quoteR]
end Rx
def u8V (c : UInt8) : Value := .int .u8 c.toNat
/-- A row of bytes that grows. -/
structure QIn (W : World) (v : Value) (l : List UInt8) (w : World) : Prop where
  row : w.ownsRow 0 5 1 v l.length (l.map u8V)
  below : Below W.heap.size W w
  own : ∀ g, v.ownBlock = some g → W.heap.size ≤ g
theorem QIn.start (W : World) : QIn W (.slice none 0 0) [] W := ⟨World.ownsRow_nil _ _ _ _, Below.refl _ _, fun g h => by cases h⟩
/-- The string that a row of bytes is. -/
theorem QIn.str {W : World} {v : Value} {l : List UInt8} {w : World} (h : QIn W v l w) (n : Nat) : (convert 55 9 v).run Try.prog (w.drewN n) = .ok (.string ⟨l.toArray⟩) (w.drewN n) := by
  rcases h.row.2 with ⟨rfl, h0⟩ | ⟨g, cap, cur, rfl, _⟩
  · have : l = [] := List.length_eq_zero_iff.1 h0
    subst this
    rw [run_convert_bytes_string _ _ _ 5 _ _ _ Try.underlying55 Try.underlying5 Try.underlying9]
    rfl
  · refine run_convert_bytes_back _ _ _ 5 ⟨g, 0, none⟩ cap l Try.underlying55 Try.underlying5 Try.underlying9 fun j hj => ?_
    have := h.row.cells (g := g) rfl j (u8V l[j]) (by rw [List.getElem?_map, List.getElem?_eq_getElem hj]; rfl)
    exact this
theorem len_u8 {n : Nat} (h : n ≤ 100000) : n + 1 ≤ maxLen := by unfold maxLen; omega
theorem bytes_u8 {n : Nat} (h : n ≤ 100000) : (n + 1) * 1 ≤ 140737488355328 := by omega
theorem one_u8 (c : UInt8) : ∀ u ∈ [u8V c], u.oneCell' = true := by
  intro u hu
  simp at hu
  subst hu
  rfl
theorem info_u8 : (Try.prog.info? 5).map (fun i => (i.zero, i.size, i.bytes)) = some (some (.int .u8 0), 1, 1) := by kernel_rfl
theorem QIn.app {W : World} {v v' : Value} {l : List UInt8} {w w' : World} {o : Obj} {c : UInt8} (h : QIn W v l w) (h1 : w'.ownsRow 0 5 1 v' (l.length + 1) (l.map u8V ++ [u8V c])) (h2 : (w.alloc o).grownBy w' v.ownBlock) (h3 : v'.ownBlock = v.ownBlock ∨ v'.ownBlock = some (w.heap.size + 1)) : QIn W v' (l ++ [c]) w' := by
  refine ⟨?_, (h.below.alloc h.below.size o).grown h2 (Nat.le_trans h.below.size (by show w.heap.size ≤ (w.heap.push _).size; simp)) (fun k hk => h.own k hk), fun g hg => ?_⟩
  · rw [List.length_append, List.map_append]; exact h1
  · rcases h3 with h3 | h3
    · rw [h3] at hg; exact h.own g hg
    · rw [h3] at hg
      injection hg with hg
      have := h.below.size
      omega

set_option maxHeartbeats 2000000 in
theorem quote_any (s : ByteArray) (W : World) (hs : s.size ≤ 1000) : Calls Try.prog 24 #[.string s] W fun e w' => e = .returned (.string ⟨(quoteR (bs s)).toArray⟩) ∧ Below W.heap.size W w' := by
  obtain ⟨i0, hi, hz0, hz1, hz2⟩ := info_parts info_u8
  have HI := Lib.hid hi
  have HZ0 := Lib.hid hz0
  have HZ1 := Lib.hid hz1
  have HZ2 := Lib.hid hz2
  have HS := Lib.hid hs
  clear hi hz0 hz1 hz2 hs
  have hbl : (bs s).length = s.size := by simp [bs]
  have HBL := Lib.hid hbl
  clear hbl
  go_enter Try.func24, Try.ntmps24
  go_wp2_with fail
  go_loopg [3, 4] (s.size + 1) (fun g v i wr => ∃ j : Nat, g = s.size + 1 - j ∧ j ≤ s.size ∧ i = .int .i64 j ∧ QIn W v (quoteR ((bs s).take j)) wr)
  case atStart => exact ⟨0, rfl, Nat.zero_le _, rfl, QIn.start W⟩
  case round =>
    obtain ⟨j, hg, hj, rfl, hin⟩ := hrel
    obtain ⟨va, vn, vc, rfl⟩ := owns_slice hin.row
    have HIN := Lib.hid hin
    have hjl : (j : Int) ≤ 1000 := by have := HS.out; omega
    clear hin
    by_cases hlt : j < s.size
    · have hlti : (j : Int) < (s.size : Int) := by omega
      obtain ⟨c, hc⟩ : ∃ c, s[j] = c := ⟨_, rfl⟩
      have HQ : Hid (quoteR ((bs s).take (j + 1)) = quoteR ((bs s).take j) ++ if special c then [92, c] else [c]) := Lib.hid (by
        rw [List.take_succ_eq_append_getElem (by rw [HBL.out]; exact hlt), quoteR_snoc]
        have : (bs s)[j]'(by rw [HBL.out]; exact hlt) = c := hc
        rw [this])
      have hql : (quoteR ((bs s).take j)).length ≤ 2000 := by
        have h1 := quoteR_len ((bs s).take j)
        rw [List.length_take] at h1
        have := HS.out
        omega
      have hmo : s.size + 1 - (j + 1) < gk := by omega
      generalize quoteR ((bs s).take j) = l at *
      have HQL := Lib.hid hql
      have HMO := Lib.hid hmo
      clear hql hmo hg hj
      cases hsp : special c
      · have HI2 := Lib.hid (fun w => index_no c w hsp)
        have HQ2 : Hid (quoteR ((bs s).take (j + 1)) = l ++ [c]) := Lib.hid (by rw [HQ.out, hsp]; rfl)
        clear hsp HQ
        go_wp2_with fail
        refine (HI2.out _).mono ?_
        rintro e w' ⟨rfl, hww⟩
        obtain rfl : wr = w' := hww.symm
        clear hww
        go_wp2_with (at_builtin; (refine wpList_append_where _ rfl (.tmp 19) (.tmp 23) 55 rfl 5 i0 _ 1 1 Try.underlying55 HI.out HZ0.out HZ1.out HZ2.out rfl (by decide) (.slice va vn vc) l.length (l.map u8V) rfl (HIN.out.row.alloc _) ⟨wr.heap.size, 0, none⟩ 1 1 [u8V c] rfl (by decide) rfl (World.news_of_block (cs := #[u8V c]) (t := 5) (fr := (0, 0)) (heap_alloc_new _ _)) (one_u8 c) (len_u8 (by have := HQL.out; omega)) (bytes_u8 (by have := HQL.out; omega)) ?_))
        intro v' w4 hown hgrow hwhere
        have HA := Lib.hid (HIN.out.app hown hgrow hwhere)
        obtain ⟨xa, xn, xc, rfl⟩ := owns_slice hown
        clear hown hgrow hwhere
        go_wp2_with fail
        go_roundg (s.size + 1 - (j + 1))
        case measure => exact HMO.out
        case rel => exact ⟨j + 1, rfl, by omega, rfl, by rw [HQ2.out]; exact HA.out⟩
      · have HI2 := Lib.hid (fun w => index_yes c w hsp)
        have HQ2 : Hid (quoteR ((bs s).take (j + 1)) = (l ++ [92]) ++ [c]) := Lib.hid (by rw [HQ.out, hsp]; simp)
        clear hsp HQ
        go_wp2_with fail
        refine (HI2.out _).mono ?_
        rintro e w' ⟨⟨ni, rfl⟩, hww⟩
        obtain rfl : wr = w' := hww.symm
        have hni : (ni : Int) ≥ 0 := by omega
        clear hww
        go_wp2_with (at_builtin; (refine wpList_append_where _ rfl (.tmp 16) (.tmp 17) 55 rfl 5 i0 _ 1 1 Try.underlying55 HI.out HZ0.out HZ1.out HZ2.out rfl (by decide) (.slice va vn vc) l.length (l.map u8V) rfl (HIN.out.row.alloc _) ⟨wr.heap.size, 0, none⟩ 1 1 [u8V 92] rfl (by decide) rfl (World.news_of_block (cs := #[u8V 92]) (t := 5) (fr := (0, 0)) (heap_alloc_new _ _)) (one_u8 92) (len_u8 (by have := HQL.out; omega)) (bytes_u8 (by have := HQL.out; omega)) ?_))
        intro v1 w2 hown hgrow hwhere
        have HA1 := Lib.hid (HIN.out.app hown hgrow hwhere)
        obtain ⟨ya, yn, yc, rfl⟩ := owns_slice hown
        clear hown hgrow hwhere HIN
        go_wp2_with (at_builtin; (refine wpList_append_where _ rfl (.tmp 19) (.tmp 23) 55 rfl 5 i0 _ 1 1 Try.underlying55 HI.out HZ0.out HZ1.out HZ2.out rfl (by decide) (.slice ya yn yc) (l ++ [92]).length ((l ++ [92]).map u8V) rfl (HA1.out.row.alloc _) ⟨w2.heap.size, 0, none⟩ 1 1 [u8V c] rfl (by decide) rfl (World.news_of_block (cs := #[u8V c]) (t := 5) (fr := (0, 0)) (heap_alloc_new _ _)) (one_u8 c) (len_u8 (by have := HQL.out; simp; omega)) (bytes_u8 (by have := HQL.out; simp; omega)) ?_))
        intro v' w4 hown hgrow hwhere
        have HA := Lib.hid (HA1.out.app (c := c) (by simpa using hown) hgrow hwhere)
        obtain ⟨xa, xn, xc, rfl⟩ := owns_slice hown
        clear hown hgrow hwhere
        go_wp2_with fail
        go_roundg (s.size + 1 - (j + 1))
        case measure => exact HMO.out
        case rel => exact ⟨j + 1, rfl, by omega, rfl, by rw [HQ2.out]; exact HA.out⟩
    · obtain rfl : j = s.size := by omega
      have kc := HIN.out.str 0
      rw [List.take_of_length_le (by rw [HBL.out]; exact Nat.le_refl _)] at kc HIN
      have kc2 : (convert 55 9 (.slice va vn vc)).run Try.prog wr = .ok (.string ⟨(quoteR (bs s)).toArray⟩) wr := kc
      clear kc hlt hj hg
      go_wp2_with fail
      go_ret
      exact ⟨rfl, HIN.out.below⟩
end Go.Proofs.Ytheblleadjbndaa
