/- Trees of the reference in memory. The reference's walks: escape. The reference's walks: escape, for a class. -/
import Derived.Test.YthckgmbadmilfaaGreatMBI
import Derived.Test.YthckgmbadmilfaaGreatMAA
import Derived.Great.BuildSlice
namespace Go.Proofs.YthckgmbadmilfaaGreat
open Go.RowKit Rx
/-- Cells of a node, whatever they hold. -/
structure NV (x : Array Value) : Prop where
  size : x.size = 259
  one : x.all (·.oneCell') = true
theorem NV.node (k : Int) (f : UInt8 → Bool) (s : Bool) (v : Value) (h : v.oneCell' = true) : NV (nodeC k f s v) := ⟨nodeC_size _ _ _ _, nodeC_one _ _ _ _ h⟩
theorem NV.info {x : Array Value} (h : NV x) : (Tryz.prog.info? 112).map (·.size) = some x.size := by rw [h.size]; exact size_node
/-- The cells of a row of nodes. -/
def flat (xs : List (Array Value)) : List Value := xs.flatMap (·.toList)
theorem flat_snoc (xs : List (Array Value)) (x : Array Value) : flat (xs ++ [x]) = flat xs ++ x.toList := by simp [flat]
theorem flat_len {xs : List (Array Value)} (h : ∀ x ∈ xs, NV x) : (flat xs).length = xs.length * 259 := by
  induction xs with
  | nil => rfl
  | cons x xs ih =>
    have h1 := (h x (by simp)).size
    have h2 := ih fun y hy => h y (by simp [hy])
    unfold flat at h2 ⊢
    rw [List.flatMap_cons, List.length_append, List.length_cons, h2, Array.length_toList, h1]
    omega
theorem flat_get : ∀ {xs : List (Array Value)}, (∀ x ∈ xs, NV x) → ∀ (i j : Nat) (x : Array Value), xs[i]? = some x → j < 259 → (flat xs)[i * 259 + j]? = x[j]?
  | [], _, i, j, x, hx, _ => by simp at hx
  | y :: xs, h, 0, j, x, hx, hj => by
    simp at hx
    subst hx
    unfold flat
    rw [List.flatMap_cons, Nat.zero_mul, Nat.zero_add, List.getElem?_append_left (by rw [Array.length_toList, (h y (by simp)).size]; exact hj)]
    simp
  | y :: xs, h, i + 1, j, x, hx, hj => by
    have hs := (h y (by simp)).size
    have ih := flat_get (xs := xs) (fun z hz => h z (by simp [hz])) i j x (by simpa using hx) hj
    unfold flat at ih ⊢
    rw [List.flatMap_cons, List.getElem?_append_right (by rw [Array.length_toList, hs]; omega), Array.length_toList, hs, show (i + 1) * 259 + j - 259 = i * 259 + j from by omega]
    exact ih
/-- A slice of nodes. -/
structure RRow (S : Nat → Prop) (W : World) (sv : Value) (xs : List (Array Value)) : Prop where
  row : W.ownsRow 0 112 259 sv xs.length (flat xs)
  nv : ∀ x ∈ xs, NV x
  own : ∀ g, sv.ownBlock = some g → S g
theorem RRow.one {S : Nat → Prop} {W : World} {sv : Value} {xs : List (Array Value)} (h : RRow S W sv xs) : sv.oneCell' = true := by
  rcases h.row.2 with ⟨rfl, _⟩ | ⟨g, cap, cur, rfl, _⟩ <;> rfl
theorem RRow.same {S S' : Nat → Prop} {W W' : World} {sv : Value} {xs : List (Array Value)} (h : RRow S W sv xs) (hs : Same S W W') (hc : ∀ k, S k → S' k) : RRow S' W' sv xs :=
  ⟨owns_same h.row h.own hs, h.nv, fun g hg => hc g (h.own g hg)⟩
theorem RRow.nil (S : Nat → Prop) (W : World) : RRow S W nilS [] := ⟨World.ownsRow_nil _ _ _ _, fun x hx => (by simp at hx), fun g h => (by cases h)⟩
set_option maxRecDepth 100000 in
/-- A slice literal of nodes. -/
theorem wpList_nodes {ops : Array Oper} {rest : List Oper} {o : Oper} {a : Act} {w : World} {Q : Exit → Act → World → Prop} (hg : o.guard = none) (len : Nat) (parts : Array (Nat × Operand)) (ho : o.op = .buildSlice 110 len parts)
    (xs : List (Array Value)) (hnv : ∀ x ∈ xs, NV x) (hl : xs.length = len) (hpos : 0 < len) (hsmall : len ≤ 1000)
    (hp : (parts.map fun (i, x) => (i, a.eval x)).toList = ((xs.map Value.agg).zipIdx 0).map fun x => (x.2, x.1))
    (h : ∀ w', Hid (w' = w.alloc (.cells (flat xs).toArray 112)) → wpList Tryz.prog ops Q rest (a.put o.dst (.slice (some ⟨w.heap.size, 0, none⟩) len len)) w') : wpList Tryz.prog ops Q (o :: rest) a w := by
  obtain ⟨ie, hie, hsz⟩ : ∃ ie, Tryz.prog.info? 112 = some ie ∧ ie.size = 259 := by
    have := size_node
    cases hq : Tryz.prog.info? 112 with
    | none => rw [hq] at this; simp at this
    | some ie => rw [hq] at this; exact ⟨ie, rfl, by simpa using this⟩
  obtain ⟨z, hz⟩ : ∃ z, ie.zero = some z := by
    have h0 : ((Tryz.prog.info? 112).bind (·.zero)).isSome = true := by kernel_rfl
    rw [hie] at h0
    exact Option.isSome_iff_exists.1 h0
  have hfill := Great.fill_whole (s := 259) (by omega) (xs.map Value.agg) ((Array.range (len * 259)).map (z.cells[· % z.cells.size]!)) (fun v hv => by
    obtain ⟨x, hx, rfl⟩ := List.mem_map.1 hv
    exact (hnv x hx).size) (by simp [hl])
  refine wpList_buildSlice hg 110 112 len parts ho _ ie z Tryz.underlying110 hie hz (by rw [hsz]; omega) (by rw [hsz]; omega) (by rw [hp, hsz]; exact hfill) ?_
  refine h _ (Lib.hid ?_)
  congr 2
  unfold flat
  rw [List.flatMap_map]
  rfl
mutual
/-- A factor's node. -/
def RnU (S : Nat → Prop) (W : World) : U → Array Value → Prop
  | .byte c, x => x = nodeC 1 (fun y => y == c) true nilS
  | .cls f, x => x = nodeC 1 f false nilS
  | .grp a, x => ∃ sv xs, x = nodeC 3 noF false sv ∧ RRow S W sv xs ∧ RnA S W a xs
  | .star u, x => ∃ sv y, x = nodeC 4 noF false sv ∧ RRow S W sv [y] ∧ RnU S W u y
  | .plus u, x => ∃ sv y, x = nodeC 5 noF false sv ∧ RRow S W sv [y] ∧ RnU S W u y
  | .opt u, x => ∃ sv y, x = nodeC 3 noF false sv ∧ RRow S W sv [nodeC 2 noF false nilS, y] ∧ RnU S W u y
/-- The nodes of alternatives. -/
def RnA (S : Nat → Prop) (W : World) : As → List (Array Value) → Prop
  | .one s, xs => ∃ x sv ys, xs = [x] ∧ x = nodeC 2 noF false sv ∧ RRow S W sv ys ∧ RnS S W s ys
  | .more s a, xs => ∃ x zs sv ys, xs = x :: zs ∧ x = nodeC 2 noF false sv ∧ RRow S W sv ys ∧ RnS S W s ys ∧ RnA S W a zs
/-- The nodes of a sequence's factors. -/
def RnS (S : Nat → Prop) (W : World) : Ss → List (Array Value) → Prop
  | .nil, xs => xs = []
  | .cons u s, xs => ∃ x ys, xs = x :: ys ∧ RnU S W u x ∧ RnS S W s ys
end
mutual
theorem RnU.same {S S' : Nat → Prop} {W W' : World} (hs : Same S W W') (hc : ∀ k, S k → S' k) : ∀ (u : U) (x : Array Value), RnU S W u x → RnU S' W' u x
  | .byte c, x, h => by unfold RnU at h ⊢; exact h
  | .cls f, x, h => by unfold RnU at h ⊢; exact h
  | .grp a, x, h => by
    unfold RnU at h ⊢
    obtain ⟨sv, xs, h1, h2, h3⟩ := h
    exact ⟨sv, xs, h1, h2.same hs hc, RnA.same hs hc a xs h3⟩
  | .star u, x, h => by
    unfold RnU at h ⊢
    obtain ⟨sv, y, h1, h2, h3⟩ := h
    exact ⟨sv, y, h1, h2.same hs hc, RnU.same hs hc u y h3⟩
  | .plus u, x, h => by
    unfold RnU at h ⊢
    obtain ⟨sv, y, h1, h2, h3⟩ := h
    exact ⟨sv, y, h1, h2.same hs hc, RnU.same hs hc u y h3⟩
  | .opt u, x, h => by
    unfold RnU at h ⊢
    obtain ⟨sv, y, h1, h2, h3⟩ := h
    exact ⟨sv, y, h1, h2.same hs hc, RnU.same hs hc u y h3⟩
theorem RnA.same {S S' : Nat → Prop} {W W' : World} (hs : Same S W W') (hc : ∀ k, S k → S' k) : ∀ (a : As) (xs : List (Array Value)), RnA S W a xs → RnA S' W' a xs
  | .one s, xs, h => by
    unfold RnA at h ⊢
    obtain ⟨x, sv, ys, h1, h2, h3, h4⟩ := h
    exact ⟨x, sv, ys, h1, h2, h3.same hs hc, RnS.same hs hc s ys h4⟩
  | .more s a, xs, h => by
    unfold RnA at h ⊢
    obtain ⟨x, zs, sv, ys, h1, h2, h3, h4, h5⟩ := h
    exact ⟨x, zs, sv, ys, h1, h2, h3.same hs hc, RnS.same hs hc s ys h4, RnA.same hs hc a zs h5⟩
theorem RnS.same {S S' : Nat → Prop} {W W' : World} (hs : Same S W W') (hc : ∀ k, S k → S' k) : ∀ (s : Ss) (xs : List (Array Value)), RnS S W s xs → RnS S' W' s xs
  | .nil, xs, h => by unfold RnS at h ⊢; exact h
  | .cons u s, xs, h => by
    unfold RnS at h ⊢
    obtain ⟨x, ys, h1, h2, h3⟩ := h
    exact ⟨x, ys, h1, RnU.same hs hc u x h2, RnS.same hs hc s ys h3⟩
end
theorem RnU.nv {S : Nat → Prop} {W : World} : ∀ (u : U) (x : Array Value), RnU S W u x → NV x
  | .byte c, x, h => by unfold RnU at h; subst h; exact .node _ _ _ _ rfl
  | .cls f, x, h => by unfold RnU at h; subst h; exact .node _ _ _ _ rfl
  | .grp a, x, h => by
    unfold RnU at h
    obtain ⟨sv, xs, rfl, h2, _⟩ := h
    exact .node _ _ _ _ h2.one
  | .star u, x, h => by
    unfold RnU at h
    obtain ⟨sv, xs, rfl, h2, _⟩ := h
    exact .node _ _ _ _ h2.one
  | .plus u, x, h => by
    unfold RnU at h
    obtain ⟨sv, xs, rfl, h2, _⟩ := h
    exact .node _ _ _ _ h2.one
  | .opt u, x, h => by
    unfold RnU at h
    obtain ⟨sv, xs, rfl, h2, _⟩ := h
    exact .node _ _ _ _ h2.one
/-- What a reader of a factor hands back: a node, an index, whether there is one. -/
def RUPost (s : ByteArray) (W : World) (res : Option (U × List UInt8)) (e : Ending) (w' : World) : Prop :=
  Below W.heap.size W w' ∧ match res with
  | none => ∃ x j, NV x ∧ e = .returned (.tuple #[.agg x, .int .i64 j, .bool false])
  | some (u, l') => ∃ (x : Array Value) (j : Nat), RnU (Fresh W w') w' u x ∧ (j + l'.length = s.size ∧ (bs s).drop j = l') ∧ e = .returned (.tuple #[.agg x, .int .i64 j, .bool true])
theorem RUPost.no {s : ByteArray} {W w' : World} {res : Option (U × List UInt8)} (x : Array Value) (j : Int) (hr : res = none) (hb : Below W.heap.size W w') (hx : NV x) : RUPost s W res (.returned (.tuple #[.agg x, .int .i64 j, .bool false])) w' := by
  subst hr; exact ⟨hb, x, j, hx, rfl⟩
theorem RUPost.yes {s : ByteArray} {W w' : World} {res : Option (U × List UInt8)} {u : U} {l' : List UInt8} (x : Array Value) (j : Nat) (hr : res = some (u, l')) (hb : Below W.heap.size W w') (hx : RnU (Fresh W w') w' u x) (hj : j + l'.length = s.size ∧ (bs s).drop j = l') : RUPost s W res (.returned (.tuple #[.agg x, .int .i64 j, .bool true])) w' := by
  subst hr; exact ⟨hb, x, j, hx, hj, rfl⟩
end Go.Proofs.YthckgmbadmilfaaGreat

namespace Go.Proofs.YthckgmbadmilfaaGreat
open Go.RowKit Rx
/-- What escape hands back. -/
def EscPost (d : UInt8) (W : World) (e : Ending) (w' : World) : Prop :=
  Below W.heap.size W w' ∧ match escU d with
  | none => ∃ x, NV x ∧ e = .returned (.tuple #[.agg x, .bool false])
  | some u => ∃ x, (∀ S W1, RnU S W1 u x) ∧ NV x ∧ e = .returned (.tuple #[.agg x, .bool true])
theorem EscPost.no {d : UInt8} {W w' : World} (x : Array Value) (hr : escU d = none) (hb : Below W.heap.size W w') (hx : NV x) : EscPost d W (.returned (.tuple #[.agg x, .bool false])) w' := ⟨hb, by rw [hr]; exact ⟨x, hx, rfl⟩⟩
theorem EscPost.yes {d : UInt8} {W w' : World} {u : U} (x : Array Value) (hr : escU d = some u) (hb : Below W.heap.size W w') (hx : ∀ S W1, RnU S W1 u x) (hn : NV x) : EscPost d W (.returned (.tuple #[.agg x, .bool true])) w' := ⟨hb, by rw [hr]; exact ⟨x, hx, hn, rfl⟩⟩
theorem built2 : Tryz.zeroCells112.setIfInBounds 0 (.int .i64 1) = nodeC 1 noF false nilS := by rw [zero_node, nodeC_setKind]
theorem results_node2 {fn : Func} {p q : Tmp} {P : Program} {ty : TypeId} (h : fn.results = #[.cell p ty, .tmp q]) (tmps : Array Value) (w : World) (g : Nat) (t : TypeId) (cs : Array Value) (d : TypeDesc)
    (hp : tmps.getD p undef = .pointer (some ⟨g, 0, none⟩)) (hg : At w g cs t)
    (hu : P.underlying ty = some d) (hd : (match d with | .struct _ | .array _ _ => true | _ => false) = true) (hi : (P.info? ty).map (·.size) = some cs.size) :
    (results fn tmps).run P w = .ok (.tuple #[.agg cs, tmps.getD q undef]) w := by
  have hp' : tmps[p]?.getD undef = .pointer (some ⟨g, 0, none⟩) := by simpa using hp
  simp [results, h, hp', asAddr, run_loadVar_row w g t ty cs (0, 0) d hg.out hu hd hi]
/-- The escape of a byte for one byte. -/
theorem esc_link {c : UInt8} (h1 : c ≠ 100) (h2 : c ≠ 119) : escU c = (escB c).map .byte := by
  unfold escU escB
  by_cases e1 : c = 110
  · subst e1; rfl
  by_cases e2 : c = 116
  · subst e2; rfl
  rw [if_neg e1, if_neg e2, if_neg h1, if_neg h2, if_neg e1, if_neg e2]
  split <;> rfl
theorem escV_byte (c : UInt8) : ∃ b : UInt8, escV c = b.toNat ∧ (∀ x, escB c = some x → x = b) := by
  unfold escV
  rcases h : escB c with _ | b
  · exact ⟨c, rfl, fun x hx => (by cases hx)⟩
  · exact ⟨b, rfl, fun x hx => by injection hx with hx; exact hx.symm⟩

set_option maxRecDepth 100000 in
set_option maxHeartbeats 1000000 in
theorem rescape_plain (c : UInt8) (W : World) (h1 : c ≠ 100) (h2 : c ≠ 119) : Calls Tryz.prog 165 #[.int .u8 c.toNat] W (EscPost c W) := by
  have HBU := Lib.hid built2
  have HZ := Lib.hid zero_node
  have HL := Lib.hid (esc_link h1 h2)
  have d0 : ((c.toNat : Int) != 100) = true := by rw [bne_iff_ne]; exact beq_eq_false_iff_ne.1 (u8_ne h1)
  have d1 : ((c.toNat : Int) != 119) = true := by rw [bne_iff_ne]; exact beq_eq_false_iff_ne.1 (u8_ne h2)
  have HE := Lib.hid (rescaped_any c)
  obtain ⟨b, hb1, hb2⟩ := escV_byte c
  have HS := Lib.hid (rsingle_any b)
  rw [hb1] at HE
  have HB2 := Lib.hid hb2
  clear h1 h2 hb1 hb2
  go_enter Tryz.func165, Tryz.ntmps165
  go_wp2_with (refine wpList_store_at6 rfl 112 (.tmp 4) (.tmp 9) rfl (W.heap.size + 1) _ rfl rfl 112 _ (at_two W _ _ _ _) (by rw [HBU.out]; exact size_nodeC _ _ _ _) (by rw [HBU.out, HZ.out, nodeC_size, nodeC_size]) (by rw [HBU.out]; exact nodeC_one _ _ _ _ rfl) ?_)
  intro w1 hw1
  have h2 : At w1 W.heap.size (nodeC 0 noF false nilS) 112 := by
    rw [hw1.out, ← zero_node]
    exact ((At.new W _ _).alloc _).rowOther (by omega)
  have h3 : Below W.heap.size W w1 := by
    rw [hw1.out]
    exact below_row6 (((Below.refl _ _).alloc (Nat.le_refl _) _).alloc (by show W.heap.size ≤ (W.heap.push _).size; simp) _) _ _ (by omega)
  have H2 := Lib.hid h2
  have H3 := Lib.hid h3
  clear hw1 h2 h3
  go_wp2_with fail
  refine (HE.out _).mono ?_
  rintro e w' ⟨rfl, rfl⟩
  go_wp2_with fail
  refine (HS.out _).mono ?_
  rintro e w2 ⟨rfl, hb⟩
  have H4 : Hid (At w2 W.heap.size (nodeC 0 noF false nilS) 112) := Lib.hid (H2.out.below hb)
  have H5 : Hid (Below W.heap.size W w2) := Lib.hid (H3.out.trans (hb.mono H3.out.size))
  clear hb
  go_wp2_with (refine wpList_store_at6 rfl 112 (.tmp 2) (.tmp 22) rfl W.heap.size _ rfl rfl 112 _ H4.out (size_nodeC _ _ _ _) (by rw [nodeC_size, nodeC_size]) (nodeC_one _ _ _ _ rfl) ?_)
  intro w3 hw3
  have H6 : Hid (At w3 W.heap.size (nodeC 1 (fun x => x == b) true nilS) 112) := Lib.hid (by rw [hw3.out]; exact H4.out.row)
  have H7 : Hid (Below W.heap.size W w3) := Lib.hid (by rw [hw3.out]; exact below_row6 H5.out _ _ (Nat.le_refl _))
  clear hw3
  go_wp2_with fail
  refine bodyPost_ret (results_node2 rfl _ _ W.heap.size 112 _ _ rfl H6.out Tryz.underlying112 rfl (size_nodeC _ _ _ _)) rfl ?_
  rcases he : escB c with _ | x
  · exact EscPost.no _ (by rw [HL.out, he]; rfl) H7.out (NV.node _ _ _ _ rfl)
  · obtain rfl := HB2.out x he
    exact EscPost.yes _ (u := .byte x) (by rw [HL.out, he]; rfl) H7.out (fun S W1 => by unfold RnU; rfl) (NV.node _ _ _ _ rfl)
end Go.Proofs.YthckgmbadmilfaaGreat

namespace Go.Proofs.YthckgmbadmilfaaGreat
open Go.RowKit Rx
/-- A set filled up to a byte. -/
def fillF (g : UInt8 → Bool) (j : Nat) : UInt8 → Bool := fun x => decide (x.toNat < j) && g x
theorem fill_zero (g : UInt8 → Bool) : fillF g 0 = noF := by funext x; simp [fillF, noF]
theorem fill_all (g : UInt8 → Bool) : fillF g 256 = g := by
  funext x
  have := x.toNat_lt
  simp [fillF, this]
theorem fill_set (g : UInt8 → Bool) (j : Nat) (x : UInt8) : fillF g (j + 1) x = if x.toNat = j then g (UInt8.ofNat j) else fillF g j x := by
  unfold fillF
  by_cases h : x.toNat = j
  · rw [if_pos h, ← h, decide_eq_true (by omega)]; simp
  · rw [if_neg h]
    by_cases h2 : x.toNat < j
    · rw [decide_eq_true h2, decide_eq_true (by omega)]
    · rw [decide_eq_false h2, decide_eq_false (by omega)]
theorem dig_of {j : Nat} (h : j < 256) : digB (UInt8.ofNat j) = (decide (48 ≤ j) && decide (j ≤ 57)) := by
  unfold digB
  rw [show (UInt8.ofNat j).toNat = j by rw [UInt8.toNat_ofNat']; omega]
theorem word_of (y : UInt8) : wordB y = ((letB y || digB y) || decide (y.toNat = 95)) := rfl

set_option maxRecDepth 100000 in
set_option maxHeartbeats 2000000 in
theorem rescape_d (W : World) : Calls Tryz.prog 165 #[.int .u8 100] W (EscPost 100 W) := by
  have HBU := Lib.hid built2
  have HZ := Lib.hid zero_node
  have HAN := Lib.hid ralnum_any
  go_enter Tryz.func165, Tryz.ntmps165
  go_wp2_with (refine wpList_store_at6 rfl 112 (.tmp 4) (.tmp 9) rfl (W.heap.size + 1) _ rfl rfl 112 _ (at_two W _ _ _ _) (by rw [HBU.out]; exact size_nodeC _ _ _ _) (by rw [HBU.out, HZ.out, nodeC_size, nodeC_size]) (by rw [HBU.out]; exact nodeC_one _ _ _ _ rfl) ?_)
  intro w1 hw1
  have h1 : At w1 (W.heap.size + 1) (nodeC 1 noF false nilS) 112 := by rw [hw1.out, HBU.out]; exact (at_two W _ _ _ _).row
  have h2 : At w1 W.heap.size (nodeC 0 noF false nilS) 112 := by
    rw [hw1.out, ← zero_node]
    exact ((At.new W _ _).alloc _).rowOther (by omega)
  have h3 : Below W.heap.size W w1 := by
    rw [hw1.out]
    exact below_row6 (((Below.refl _ _).alloc (Nat.le_refl _) _).alloc (by show W.heap.size ≤ (W.heap.push _).size; simp) _) _ _ (by omega)
  have H1 := Lib.hid h1
  have H2 := Lib.hid h2
  have H3 := Lib.hid h3
  clear hw1 h1 h2 h3
  go_wp2_with fail
  go_loopg [7] 257 (fun k i wr => ∃ j : Nat, k = 257 - j ∧ j ≤ 256 ∧ i = .int .i64 j ∧ At wr (W.heap.size + 1) (nodeC 1 (fillF digB j) false nilS) 112 ∧ At wr W.heap.size (nodeC 0 noF false nilS) 112 ∧ Below W.heap.size W wr)
  case atStart => exact ⟨0, rfl, by omega, rfl, by rw [fill_zero]; exact H1.out, H2.out, H3.out⟩
  case round =>
    obtain ⟨j, hk, hj, rfl, h1, h2, h3⟩ := hrel
    clear H1 H2 H3
    have H1 := Lib.hid h1
    have H2 := Lib.hid h2
    have H3 := Lib.hid h3
    clear h1 h2 h3
    have hjl : (j : Int) ≤ 256 := by omega
    by_cases hlt : j < 256
    · have hlti : (j : Int) < 256 := by omega
      have hjn : 0 ≤ (j : Int) := by omega
      have hmo : 257 - (j + 1) < gk := by omega
      have HMO := Lib.hid hmo
      have d0 : wr.cell? ⟨W.heap.size + 1, 1 + j, none⟩ = some (.bool (fillF digB j (UInt8.ofNat j))) := by rw [H1.out.cell, nodeC_bit _ _ _ _ _ hlt]
      have d1 : wr.frozen? ⟨W.heap.size + 1, 1 + j, none⟩ = false := H1.out.free _
      have HD := Lib.hid (dig_of hlt)
      have HY : Hid ((UInt8.ofNat j).toNat = j) := Lib.hid (by rw [UInt8.toNat_ofNat']; omega)
      have HLT := Lib.hid hlt
      have hnext : ∀ b : Bool, digB (UInt8.ofNat j) = b → At (wr.setCell ⟨W.heap.size + 1, 1 + j, none⟩ (.bool b)) (W.heap.size + 1) (nodeC 1 (fillF digB (j + 1)) false nilS) 112 ∧ At (wr.setCell ⟨W.heap.size + 1, 1 + j, none⟩ (.bool b)) W.heap.size (nodeC 0 noF false nilS) 112 ∧ Below W.heap.size W (wr.setCell ⟨W.heap.size + 1, 1 + j, none⟩ (.bool b)) := fun b hb => by
        subst hb
        refine ⟨?_, H2.out.other _ (by show W.heap.size ≠ W.heap.size + 1; omega), H3.out.setCell (by show W.heap.size ≤ W.heap.size + 1; omega) _⟩
        rw [← nodeC_setBit 1 (fillF digB j) (fillF digB (j + 1)) false nilS j _ hlt (fun x => fill_set digB j x)]
        exact H1.out.set _ _
      have HNX := Lib.hid hnext
      clear hmo hk hnext
      generalize fillF digB j (UInt8.ofNat j) = old at *
      by_cases g1 : j < 48
      · have g1i : ¬ (j : Int) ≥ 48 := by omega
        have hz := HNX.out false (by rw [HD.out]; simp; omega)
        have HZZ := Lib.hid hz
        clear hz
        go_wp2_with fail
        go_roundg (257 - (j + 1))
        case measure => exact HMO.out
        case rel => exact ⟨j + 1, rfl, by have := HLT.out; omega, rfl, HZZ.out⟩
      · have g1i : (j : Int) ≥ 48 := by omega
        by_cases g2 : 57 < j
        · have g2i : ¬ (j : Int) ≤ 57 := by omega
          have hz := HNX.out false (by rw [HD.out]; simp; omega)
          have HZZ := Lib.hid hz
          clear hz
          go_wp2_with fail
          go_roundg (257 - (j + 1))
          case measure => exact HMO.out
          case rel => exact ⟨j + 1, rfl, by have := HLT.out; omega, rfl, HZZ.out⟩
        · have g2i : (j : Int) ≤ 57 := by omega
          have hz := HNX.out true (by rw [HD.out]; simp; omega)
          have HZZ := Lib.hid hz
          clear hz
          go_wp2_with fail
          go_roundg (257 - (j + 1))
          case measure => exact HMO.out
          case rel => exact ⟨j + 1, rfl, by have := HLT.out; omega, rfl, HZZ.out⟩
    · have HJ : Hid (j = 256) := Lib.hid (by omega)
      have hlti : ¬ (j : Int) < 256 := by omega
      have H4 : Hid (At wr (W.heap.size + 1) (nodeC 1 digB false nilS) 112) := Lib.hid (by have := H1.out; rw [HJ.out, fill_all] at this; exact this)
      clear hk
      go_wp2_with (first | (refine wpList_load_at rfl 112 (.tmp 4) rfl (W.heap.size + 1) rfl 112 _ _ H4.out Tryz.underlying112 rfl (size_nodeC _ _ _ _) ?_) | (refine wpList_store_at6 rfl 112 (.tmp 2) (.tmp 51) rfl W.heap.size _ rfl rfl 112 _ H2.out (size_nodeC _ _ _ _) (by rw [nodeC_size, nodeC_size]) (nodeC_one _ _ _ _ rfl) ?_))
      intro w3 hw3
      have H6 : Hid (At w3 W.heap.size (nodeC 1 digB false nilS) 112) := Lib.hid (by rw [hw3.out]; exact H2.out.row)
      have H7 : Hid (Below W.heap.size W w3) := Lib.hid (by rw [hw3.out]; exact below_row6 H3.out _ _ (Nat.le_refl _))
      clear hw3
      go_wp2_with fail
      refine bodyPost_ret (results_node2 rfl _ _ W.heap.size 112 _ _ rfl H6.out Tryz.underlying112 rfl (size_nodeC _ _ _ _)) rfl ?_
      exact EscPost.yes _ (u := .cls digB) rfl H7.out (fun S W1 => by unfold RnU; rfl) (NV.node _ _ _ _ rfl)

set_option maxRecDepth 100000 in
set_option maxHeartbeats 2000000 in
theorem rescape_w (W : World) : Calls Tryz.prog 165 #[.int .u8 119] W (EscPost 119 W) := by
  have HBU := Lib.hid built2
  have HZ := Lib.hid zero_node
  have HAN := Lib.hid ralnum_any
  go_enter Tryz.func165, Tryz.ntmps165
  go_wp2_with (refine wpList_store_at6 rfl 112 (.tmp 4) (.tmp 9) rfl (W.heap.size + 1) _ rfl rfl 112 _ (at_two W _ _ _ _) (by rw [HBU.out]; exact size_nodeC _ _ _ _) (by rw [HBU.out, HZ.out, nodeC_size, nodeC_size]) (by rw [HBU.out]; exact nodeC_one _ _ _ _ rfl) ?_)
  intro w1 hw1
  have h1 : At w1 (W.heap.size + 1) (nodeC 1 noF false nilS) 112 := by rw [hw1.out, HBU.out]; exact (at_two W _ _ _ _).row
  have h2 : At w1 W.heap.size (nodeC 0 noF false nilS) 112 := by
    rw [hw1.out, ← zero_node]
    exact ((At.new W _ _).alloc _).rowOther (by omega)
  have h3 : Below W.heap.size W w1 := by
    rw [hw1.out]
    exact below_row6 (((Below.refl _ _).alloc (Nat.le_refl _) _).alloc (by show W.heap.size ≤ (W.heap.push _).size; simp) _) _ _ (by omega)
  have H1 := Lib.hid h1
  have H2 := Lib.hid h2
  have H3 := Lib.hid h3
  clear hw1 h1 h2 h3
  go_wp2_with fail
  go_loopg [7] 257 (fun k i wr => ∃ j : Nat, k = 257 - j ∧ j ≤ 256 ∧ i = .int .i64 j ∧ At wr (W.heap.size + 1) (nodeC 1 (fillF wordB j) false nilS) 112 ∧ At wr W.heap.size (nodeC 0 noF false nilS) 112 ∧ Below W.heap.size W wr)
  case atStart => exact ⟨0, rfl, by omega, rfl, by rw [fill_zero]; exact H1.out, H2.out, H3.out⟩
  case round =>
    obtain ⟨j, hk, hj, rfl, h1, h2, h3⟩ := hrel
    clear H1 H2 H3
    have H1 := Lib.hid h1
    have H2 := Lib.hid h2
    have H3 := Lib.hid h3
    clear h1 h2 h3
    have hjl : (j : Int) ≤ 256 := by omega
    by_cases hlt : j < 256
    · have hlti : (j : Int) < 256 := by omega
      have hjn : 0 ≤ (j : Int) := by omega
      have hmo : 257 - (j + 1) < gk := by omega
      have HMO := Lib.hid hmo
      have d0 : wr.cell? ⟨W.heap.size + 1, 1 + j, none⟩ = some (.bool (fillF wordB j (UInt8.ofNat j))) := by rw [H1.out.cell, nodeC_bit _ _ _ _ _ hlt]
      have d1 : wr.frozen? ⟨W.heap.size + 1, 1 + j, none⟩ = false := H1.out.free _
      have HD := Lib.hid (dig_of hlt)
      have HY : Hid ((UInt8.ofNat j).toNat = j) := Lib.hid (by rw [UInt8.toNat_ofNat']; omega)
      have HLT := Lib.hid hlt
      have hnext : ∀ b : Bool, wordB (UInt8.ofNat j) = b → At (wr.setCell ⟨W.heap.size + 1, 1 + j, none⟩ (.bool b)) (W.heap.size + 1) (nodeC 1 (fillF wordB (j + 1)) false nilS) 112 ∧ At (wr.setCell ⟨W.heap.size + 1, 1 + j, none⟩ (.bool b)) W.heap.size (nodeC 0 noF false nilS) 112 ∧ Below W.heap.size W (wr.setCell ⟨W.heap.size + 1, 1 + j, none⟩ (.bool b)) := fun b hb => by
        subst hb
        refine ⟨?_, H2.out.other _ (by show W.heap.size ≠ W.heap.size + 1; omega), H3.out.setCell (by show W.heap.size ≤ W.heap.size + 1; omega) _⟩
        rw [← nodeC_setBit 1 (fillF wordB j) (fillF wordB (j + 1)) false nilS j _ hlt (fun x => fill_set wordB j x)]
        exact H1.out.set _ _
      have HNX := Lib.hid hnext
      clear hmo hk hnext
      generalize fillF wordB j (UInt8.ofNat j) = old at *
      by_cases g1 : j < 48
      · have g1i : ¬ (j : Int) ≥ 48 := by omega
        obtain ⟨y, hy⟩ : ∃ y, UInt8.ofNat j = y := ⟨_, rfl⟩
        rw [hy] at HY HNX HD
        clear hy
        have HCA : Hid (∀ w, Calls Tryz.prog 172 #[.int .u8 (j : Int)] w fun e w' => e = .returned (.bool (letB y || digB y)) ∧ w = w') := Lib.hid (fun w => by have := HAN.out y w; rwa [HY.out] at this)
        go_wp2_with fail
        refine (HCA.out _).mono ?_
        rintro e w' ⟨rfl, rfl⟩
        rcases ha : letB y || digB y with _ | _
        · by_cases g3 : j = 95
          · have g3i : ((j : Int) == 95) = true := by rw [g3]; rfl
            have hz := HNX.out true (by rw [word_of, ha, HY.out, decide_eq_true g3]; rfl)
            have HZZ := Lib.hid hz
            clear hz ha g3
            go_wp2_with fail
            go_roundg (257 - (j + 1))
            case measure => exact HMO.out
            case rel => exact ⟨j + 1, rfl, by have := HLT.out; omega, rfl, HZZ.out⟩
          · have g3i : ((j : Int) == 95) = false := by rw [beq_eq_false_iff_ne]; omega
            have hz := HNX.out false (by rw [word_of, ha, HY.out, decide_eq_false g3]; rfl)
            have HZZ := Lib.hid hz
            clear hz ha g3
            go_wp2_with fail
            go_roundg (257 - (j + 1))
            case measure => exact HMO.out
            case rel => exact ⟨j + 1, rfl, by have := HLT.out; omega, rfl, HZZ.out⟩
        · have hz := HNX.out true (by rw [word_of, ha]; rfl)
          have HZZ := Lib.hid hz
          clear hz ha
          go_wp2_with fail
          go_roundg (257 - (j + 1))
          case measure => exact HMO.out
          case rel => exact ⟨j + 1, rfl, by have := HLT.out; omega, rfl, HZZ.out⟩
      · have g1i : (j : Int) ≥ 48 := by omega
        by_cases g2 : 57 < j
        · have g2i : ¬ (j : Int) ≤ 57 := by omega
          obtain ⟨y, hy⟩ : ∃ y, UInt8.ofNat j = y := ⟨_, rfl⟩
          rw [hy] at HY HNX HD
          clear hy
          have HCA : Hid (∀ w, Calls Tryz.prog 172 #[.int .u8 (j : Int)] w fun e w' => e = .returned (.bool (letB y || digB y)) ∧ w = w') := Lib.hid (fun w => by have := HAN.out y w; rwa [HY.out] at this)
          go_wp2_with fail
          refine (HCA.out _).mono ?_
          rintro e w' ⟨rfl, rfl⟩
          rcases ha : letB y || digB y with _ | _
          · by_cases g3 : j = 95
            · have g3i : ((j : Int) == 95) = true := by rw [g3]; rfl
              have hz := HNX.out true (by rw [word_of, ha, HY.out, decide_eq_true g3]; rfl)
              have HZZ := Lib.hid hz
              clear hz ha g3
              go_wp2_with fail
              go_roundg (257 - (j + 1))
              case measure => exact HMO.out
              case rel => exact ⟨j + 1, rfl, by have := HLT.out; omega, rfl, HZZ.out⟩
            · have g3i : ((j : Int) == 95) = false := by rw [beq_eq_false_iff_ne]; omega
              have hz := HNX.out false (by rw [word_of, ha, HY.out, decide_eq_false g3]; rfl)
              have HZZ := Lib.hid hz
              clear hz ha g3
              go_wp2_with fail
              go_roundg (257 - (j + 1))
              case measure => exact HMO.out
              case rel => exact ⟨j + 1, rfl, by have := HLT.out; omega, rfl, HZZ.out⟩
          · have hz := HNX.out true (by rw [word_of, ha]; rfl)
            have HZZ := Lib.hid hz
            clear hz ha
            go_wp2_with fail
            go_roundg (257 - (j + 1))
            case measure => exact HMO.out
            case rel => exact ⟨j + 1, rfl, by have := HLT.out; omega, rfl, HZZ.out⟩
        · have g2i : (j : Int) ≤ 57 := by omega
          have hz := HNX.out true (by rw [word_of, HD.out, show (decide (48 ≤ j) && decide (j ≤ 57)) = true from by simp; omega]; simp)
          have HZZ := Lib.hid hz
          clear hz
          go_wp2_with fail
          go_roundg (257 - (j + 1))
          case measure => exact HMO.out
          case rel => exact ⟨j + 1, rfl, by have := HLT.out; omega, rfl, HZZ.out⟩
    · have HJ : Hid (j = 256) := Lib.hid (by omega)
      have hlti : ¬ (j : Int) < 256 := by omega
      have H4 : Hid (At wr (W.heap.size + 1) (nodeC 1 wordB false nilS) 112) := Lib.hid (by have := H1.out; rw [HJ.out, fill_all] at this; exact this)
      clear hk
      go_wp2_with (first | (refine wpList_load_at rfl 112 (.tmp 4) rfl (W.heap.size + 1) rfl 112 _ _ H4.out Tryz.underlying112 rfl (size_nodeC _ _ _ _) ?_) | (refine wpList_store_at6 rfl 112 (.tmp 2) (.tmp 51) rfl W.heap.size _ rfl rfl 112 _ H2.out (size_nodeC _ _ _ _) (by rw [nodeC_size, nodeC_size]) (nodeC_one _ _ _ _ rfl) ?_))
      intro w3 hw3
      have H6 : Hid (At w3 W.heap.size (nodeC 1 wordB false nilS) 112) := Lib.hid (by rw [hw3.out]; exact H2.out.row)
      have H7 : Hid (Below W.heap.size W w3) := Lib.hid (by rw [hw3.out]; exact below_row6 H3.out _ _ (Nat.le_refl _))
      clear hw3
      go_wp2_with fail
      refine bodyPost_ret (results_node2 rfl _ _ W.heap.size 112 _ _ rfl H6.out Tryz.underlying112 rfl (size_nodeC _ _ _ _)) rfl ?_
      exact EscPost.yes _ (u := .cls wordB) rfl H7.out (fun S W1 => by unfold RnU; rfl) (NV.node _ _ _ _ rfl)

theorem rescape_any (c : UInt8) (W : World) : Calls Tryz.prog 165 #[.int .u8 c.toNat] W (EscPost c W) := by
  by_cases h1 : c = 100
  · subst h1; exact rescape_d W
  by_cases h2 : c = 119
  · subst h2; exact rescape_w W
  exact rescape_plain c W h1 h2
end Go.Proofs.YthckgmbadmilfaaGreat
