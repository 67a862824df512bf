/- Walks: small functions of both packages. Rows of structures that a call makes: how they grow. -/
import Derived.Test.YtoojpfcnekpboaaMAO
import Derived.Test.YtoojpfcnekpboaaMAQ
import Derived.Test.YtoojpfcnekpboaaMAR
import Derived.Test.YtoojpfcnekpboaaMAE
import Derived.Deep.MidRow
namespace Go.Proofs.Ytoojpfcnekpboaa
open Go.RowKit

theorem put_any (s : ByteArray) (n : Int) (w : World) (hs : s.size ≤ 1000000000) (h0 : 0 ≤ n) (h1 : n ≤ 1152921504606846976) :
    Calls Try.prog 47 #[.string s, .int .i64 n] w fun e w' => e = .returned (.string (s ++ str (vE n.toNat))) ∧ Below w.heap.size w w' := by
  have HP : Hid (pairV (appR s n) = .tuple #[.string (s ++ str (vE n.toNat)), .int .i64 0]) := Lib.hid (by unfold pairV appR; rw [if_neg (by unfold maxI; omega)])
  have HA := Lib.hid (append01_any s n w hs)
  clear hs h0 h1
  go_enter Try.func47, Try.ntmps47
  go_wp2_with fail
  refine HA.out.mono ?_
  rintro e w' ⟨rfl, hb⟩
  have HB := Lib.hid hb
  clear hb
  rw [HP.out]
  go_wp2_with fail
  go_ret
  exact ⟨rfl, HB.out⟩

theorem four_str (n : Int) : strOfNums [n % 256, n / 256 % 256, n / 65536 % 256, n / 16777216 % 256] = str (four4 n) := rfl
set_option maxRecDepth 100000 in
set_option maxHeartbeats 1000000 in
theorem fourR_any (n : Int) (w : World) (h0 : 0 ≤ n) (h1 : n < 4294967296) :
    Calls Try.prog 29 #[.int .i64 n] w fun e w' => e = .returned (.string (str (four4 n))) ∧ Below w.heap.size w w' := by
  have hcv := CR.conv4 (n % 256) (n / 256 % 256) (n / 65536 % 256) (n / 16777216 % 256) w
  rw [four_str, show n / 16777216 % 256 = n / 16777216 by omega] at hcv
  go_enter Try.func29, Try.ntmps29
  go_wp2_with fail
  go_ret
  exact ⟨rfl, (Below.refl _ _).alloc (Nat.le_refl _) _⟩
set_option maxRecDepth 100000 in
set_option maxHeartbeats 1000000 in
theorem four_any (n : Int) (w : World) (h0 : 0 ≤ n) (h1 : n < 4294967296) :
    Calls Try.prog 24 #[.int .i64 n] w fun e w' => e = .returned (.string (str (four4 n))) ∧ Below w.heap.size w w' := by
  have hcv := CR.conv4 (n % 256) (n / 256 % 256) (n / 65536 % 256) (n / 16777216 % 256) w
  rw [four_str, show n / 16777216 % 256 = n / 16777216 by omega] at hcv
  go_enter Try.func24, Try.ntmps24
  go_wp2_with fail
  go_ret
  exact ⟨rfl, (Below.refl _ _).alloc (Nat.le_refl _) _⟩

/-! ### Great -/
def bgreatAt (xs : List Chk) (k : Nat) : Bool := (xs.drop k).any (fun x => greatL x.labs || decide (600 < x.data.size)) || decide (8 < xs.length)
theorem bgreatAt_step {xs : List Chk} {k : Nat} (h : k < xs.length) : bgreatAt xs k = ((greatL (xs[k]).labs || decide (600 < (xs[k]).data.size)) || bgreatAt xs (k + 1)) := by
  unfold bgreatAt
  rw [List.drop_eq_getElem_cons h, List.any_cons, Bool.or_assoc]
theorem bgreatAt_end {xs : List Chk} {k : Nat} (h : xs.length ≤ k) : bgreatAt xs k = decide (8 < xs.length) := by
  unfold bgreatAt
  rw [List.drop_of_length_le h]
  rfl
theorem chunk_cells {w : World} {b o : Nat} {s : Int} {A : Option Addr} {n c : Nat} {z : Zn} {d : ByteArray} (h : w.rangeAt b o (chC s A n c z d).toList) :
    w.cell? ⟨b, o, none⟩ = some (.int .i64 s) ∧ w.cell? ⟨b, o + 1, none⟩ = some (.slice A n c) ∧ w.cell? ⟨b, o + 15, none⟩ = some (.string d) := ⟨h 0 _ rfl, h 1 _ rfl, h 15 _ rfl⟩
set_option maxRecDepth 100000 in
set_option maxHeartbeats 4000000 in
theorem greatB_any (b : Blk) (A : Option Addr) (c : Nat) (w : World) (hl : ChksIn w.heap.size w A b.chunks) (hc : b.chunks.length ≤ c) (hn : ∀ x ∈ b.chunks, x.labs.length ≤ 9223372036854775807) (hm : b.chunks.length ≤ 9223372036854775807) :
    Calls Try.prog 7 #[.agg (blC b A c)] w fun e w' => e = .returned (.bool (bgreat b)) ∧ Below w.heap.size w w' := by
  have hat := At.new w (blC b A c) 24
  have hb : Below w.heap.size w (w.alloc (.cells (blC b A c) 24)) := (Below.refl _ _).alloc (Nat.le_refl _) _
  have HB := Lib.hid hb
  have HAT := Lib.hid hat
  have HL : Hid (ChksIn w.heap.size (w.alloc (.cells (blC b A c) 24)) A b.chunks) := Lib.hid (hl.below hb)
  have HC := Lib.hid hc
  have HN := Lib.hid hn
  have HR0 : Hid (bgreat b = bgreatAt b.chunks 0) := Lib.hid rfl
  clear hat hl hc hb hn
  go_enter Try.func7, Try.ntmps7
  go_upto_region 1 with fail
  generalize w.alloc (.cells (blC b A c) 24) = w0 at *
  have c3 : w0.cell? ⟨w.heap.size, 3, none⟩ = some (.slice A b.chunks.length c) := HAT.out.cell 3
  go_wp2_with fail
  go_loopw [3] (fun i wr => ∃ k : Nat, k ≤ b.chunks.length ∧ i = .int .i64 k ∧ Hid (bgreat b = bgreatAt b.chunks k) ∧ wr = w0) (fun i _ => b.chunks.length - (intOf i).toNat)
  case atStart => exact ⟨0, Nat.zero_le _, rfl, HR0, rfl⟩
  case round =>
    obtain ⟨k, hk, rfl, HK, rfl⟩ := hrel
    by_cases hlt : k < b.chunks.length
    · obtain ⟨g, o, A', c', rfl, hg, HRG, HLB, HCL⟩ := HL.out.get k hlt
      have HNK := Lib.hid (HN.out _ (List.getElem_mem hlt))
      have HST := Lib.hid (bgreatAt_step hlt)
      obtain ⟨x, hx⟩ : ∃ x, b.chunks[k] = x := ⟨_, rfl⟩
      rw [hx] at HRG HLB HCL HNK HST
      obtain ⟨e0, e1, e2⟩ := chunk_cells HRG.out
      clear hx e0
      go_wp2_with fail
      refine (great05_any A' c' x.labs _ _ HLB.out HCL.out HNK.out).mono ?_
      rintro e w' ⟨rfl, rfl⟩
      rcases hg1 : greatL x.labs
      · by_cases h6 : 600 < x.data.size
        · have HR : Hid (bgreat b = true) := Lib.hid (by rw [HK.out, HST.out, decide_eq_true h6]; simp)
          clear hg1
          go_wp2_with fail
          go_ret
          exact ⟨ret_bool HR.out.symm, HB.out⟩
        · have HR : Hid (bgreat b = bgreatAt b.chunks (k + 1)) := Lib.hid (by rw [HK.out, HST.out, decide_eq_false h6, hg1]; rfl)
          clear hg1
          go_wp2_with fail
          go_roundw
          case rel => exact ⟨k + 1, hlt, by go_num, HR, trivial⟩
          case measure => simp [intOf]; omega
      · have HR : Hid (bgreat b = true) := Lib.hid (by rw [HK.out, HST.out, hg1]; simp)
        clear hg1
        go_wp2_with fail
        go_ret
        exact ⟨ret_bool HR.out.symm, HB.out⟩
    · have HR : Hid (decide ((8 : Int) < (b.chunks.length : Int)) = bgreat b) := Lib.hid (by rw [HK.out, bgreatAt_end (Nat.le_of_not_lt hlt)]; exact decide_eq_decide.2 (by omega))
      go_wp2_with fail
      go_ret
      exact ⟨ret_bool HR.out, HB.out⟩
end Go.Proofs.Ytoojpfcnekpboaa

namespace Go.Proofs.Ytoojpfcnekpboaa
open Go.RowKit

def flatS (xs : List (Array Value)) : List Value := xs.flatMap (·.toList)
theorem flatS_snoc (xs : List (Array Value)) (x : Array Value) : flatS (xs ++ [x]) = flatS xs ++ x.toList := by simp [flatS]
theorem flatS_len {s : Nat} : ∀ {xs : List (Array Value)}, (∀ x ∈ xs, x.size = s) → (flatS xs).length = xs.length * s
  | [], _ => by simp [flatS]
  | x :: xs, h => by
    have h1 := h x (by simp)
    have h2 := flatS_len (xs := xs) fun y hy => h y (by simp [hy])
    unfold flatS at h2 ⊢
    rw [List.flatMap_cons, List.length_append, List.length_cons, h2, Array.length_toList, h1, Nat.add_mul, Nat.one_mul, Nat.add_comm]
theorem flatS_get {s : Nat} : ∀ {xs : List (Array Value)}, (∀ x ∈ xs, x.size = s) → ∀ (i j : Nat) (x : Array Value), xs[i]? = some x → j < s → (flatS xs)[i * s + j]? = x[j]?
  | [], _, i, j, x, hx, _ => by simp at hx
  | y :: xs, h, 0, j, x, hx, hj => by
    simp at hx
    subst hx
    unfold flatS
    rw [List.flatMap_cons, Nat.zero_mul, Nat.zero_add, List.getElem?_append_left (by rw [Array.length_toList, h y (by simp)]; exact hj)]
    simp
  | y :: xs, h, i + 1, j, x, hx, hj => by
    have hs := h y (by simp)
    have ih := flatS_get (xs := xs) (fun z hz => h z (by simp [hz])) i j x (by simpa using hx) hj
    unfold flatS at ih ⊢
    have e : (i + 1) * s + j = s + (i * s + j) := by rw [Nat.add_mul, Nat.one_mul]; omega
    rw [List.flatMap_cons, e, List.getElem?_append_right (by rw [Array.length_toList, hs]; omega), Array.length_toList, hs, Nat.add_sub_cancel_left]
    exact ih
/-- A row of structures of the call's own. -/
structure SR (W : World) (E s : Nat) (A : Option Addr) (n c : Nat) (xs : List (Array Value)) (w : World) : Prop where
  len : xs.length = n
  size : ∀ x ∈ xs, x.size = s
  row : w.ownsRow W.heap.size E s (.slice A n c) n (flatS xs)
  below : Below W.heap.size W w
section
variable {W w : World} {E s : Nat} {A : Option Addr} {n c : Nat} {xs : List (Array Value)}
theorem SR.nil {W w : World} (E s : Nat) (h : Below W.heap.size W w) : SR W E s none 0 0 [] w := ⟨rfl, fun x hx => by simp at hx, World.ownsRow_nil _ _ _ _, h⟩
theorem SR.empty {W w : World} (E s : Nat) (h : Below W.heap.size W w) : SR W E s (some ⟨w.heap.size, 0, none⟩) 0 0 [] (w.alloc (.cells #[] E)) := by
  refine ⟨rfl, fun x hx => by simp at hx, ?_, h.alloc h.size _⟩
  have := World.ownsRow_lit (base := W.heap.size) (e := E) (size := s) w #[] 0 h.size (by unfold maxLen; omega) (by simp)
  exact this
theorem SR.lt (h : SR W E s A n c xs w) : ∀ k, A.map (·.block) = some k → W.heap.size ≤ k ∧ k < w.heap.size := fun k hk => h.row.lt k (by rw [own_slice]; exact hk)
theorem SR.le (h : SR W E s A n c xs w) : ∀ k, A.map (·.block) = some k → W.heap.size ≤ k := fun k hk => (h.lt k hk).1
theorem SR.later (h : SR W E s A n c xs w) {w' : World} (hb : Below w.heap.size w w') : SR W E s A n c xs w' := by
  refine ⟨h.len, h.size, ?_, h.below.trans (hb.mono h.below.size)⟩
  exact h.row.kept (row := none) ⟨hb.os, hb.tape, hb.output, hb.size, fun k hk _ => hb.block k hk⟩ (by
    rcases hq : (Value.slice A n c).ownBlock with _ | k
    · exact .inl rfl
    · exact .inr (by simp))
theorem SR.alloc (h : SR W E s A n c xs w) (o : Obj) : SR W E s A n c xs (w.alloc o) := h.later ((Below.refl _ _).alloc (Nat.le_refl _) _)
theorem SR.drewN (h : SR W E s A n c xs w) (k : Nat) : SR W E s A n c xs (w.drewN k) := h.later (bN (Below.refl _ _) k)
theorem SR.cap (h : SR W E s A n c xs w) : n ≤ c := by
  rcases h.row.2 with ⟨e, h0⟩ | ⟨g, cap, cur, e, _, _, hc, _⟩
  · injection e with _ _ e; omega
  · injection e with _ _ e; omega
/-- The row read. -/
theorem SR.rd (h : SR W E s A n c xs w) : RdIn w.heap.size w s A xs := by
  intro k hk
  rcases h.row.2 with ⟨_, h0⟩ | ⟨g, cap, cur, e, hg, hb, hnc, _, hcs, htk⟩
  · have := h.len; omega
  · injection e with e1 _ _
    refine ⟨g, 0, e1, (Array.getElem?_eq_some_iff.1 hb).1, fun j hj => ?_⟩
    rw [Nat.zero_add]
    have h3 := flatS_get h.size k j xs[k] (List.getElem?_eq_getElem hk) hj
    have h4 := h.row.cells (g := g) (by rw [own_slice, e1]; rfl) (k * s + j)
    rcases hx : (xs[k])[j]? with _ | u
    · rw [Array.getElem?_eq_none_iff, h.size _ (List.getElem_mem hk)] at hx
      omega
    · rw [hx] at h3
      have h5 := h4 u h3
      rw [Addr.add_mid] at h5
      simpa using h5
end
/-- append of one structure that was just laid. -/
theorem wpList_elem {ops : Array Oper} {rest : List Oper} {o : Oper} {a : Act} {Q : Exit → Act → World → Prop} {W w0 : World} {A : Option Addr} {n c : Nat} {xs : List (Array Value)} (hgd : o.guard = none) (y x : Operand)
    (T E : TypeId) (i0 : TypeInfo) (z : Value) (s bytes : Nat) (hT : Try.prog.underlying T = some (.slice E)) (hi : Try.prog.info? E = some i0) (hz0 : i0.zero = some z) (hz1 : i0.size = s) (hz2 : i0.bytes = bytes) (hz3 : z.cells.size = s) (hs0 : 0 < s)
    (ho : o.op = .call { callee := .builtin .append, args := #[y, x], argTypes := #[T, T] }) (h : SR W E s A n c xs w0) (v : Array Value) (hv : v.size = s) (hv1 : v.all (·.oneCell') = true)
    (hs : a.eval y = .slice A n c) (hx : a.eval x = .slice (some ⟨w0.heap.size, 0, none⟩) 1 1) (hl : n + 1 ≤ 1000000) (hby : bytes ≤ 100000)
    (K : ∀ A' n' c' l' w', Hid (l' = xs ++ [v]) → SR W E s A' n' c' l' w' → Gro w0 w' A A' → wpList Try.prog ops Q rest (a.put o.dst (.slice A' n' c')) w') :
    wpList Try.prog ops Q (o :: rest) a (w0.alloc (.cells v E)) := by
  have hB : W.heap.size ≤ (w0.alloc (.cells v E)).heap.size := by have := h.below.size; simp; omega
  have hb2 : (n + 1) * bytes ≤ 140737488355328 := by
    have := Nat.mul_le_mul hl hby
    omega
  refine wpList_append_own_at _ hgd y x T ho W.heap.size E i0 z s bytes hT hi hz0 hz1 hz2 hz3 hs0 (.slice A n c) n (flatS xs) hs (h.row.alloc _) ⟨w0.heap.size, 0, none⟩ 1 1 v.toList hx (by rw [Array.length_toList, hv, Nat.one_mul])
      (World.news_of_block (cs := v) (t := E) (fr := (0, 0)) (heap_alloc_new _ _)) (fun u hu => (Array.all_eq_true_iff_forall_mem.1 hv1) u (by simpa using hu)) (by unfold maxLen; omega) hb2 hB ?_
  intro v' w' hr hg _ hw
  rw [← flatS_snoc] at hr
  have hr0 := hr
  have hbl : Below W.heap.size W w' := (h.below.alloc h.below.size _).grown hg hB (fun k hk => h.le k (by rw [own_slice] at hk; exact hk))
  rcases hr.2 with ⟨_, h0⟩ | ⟨g, cap, cur, rfl, _⟩
  · omega
  · refine K (some ⟨g, 0, none⟩) (n + 1) cap _ w' (Lib.hid rfl) ⟨by rw [List.length_append, h.len]; rfl, fun q hq => ?_, hr0, hbl⟩ (Gro.ofAlloc ⟨by rw [own_slice] at hg; exact hg, ?_⟩)
    · rcases List.mem_append.1 hq with hq | hq
      · exact h.size q hq
      · rw [List.mem_singleton] at hq; rw [hq]; exact hv
    · rw [own_slice, own_slice] at hw
      rcases hw with hw | hw
      · exact .inl hw
      · exact .inr ⟨_, hw, Nat.le_refl _⟩
end Go.Proofs.Ytoojpfcnekpboaa
