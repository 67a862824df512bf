/- Maps from names to slices that a call makes: what they hold, as a function. Walks: the set of a list of matchers (the program's newSet). Walks: the bytes of a name, a name (the program's and the reference's). Walks: a name (the program's and the reference's). Walks: the check of labels (the reference's), what is larger than the statements examine. Walks: the check of labels (the program's). -/
import Derived.Maps.OwnOps
import Derived.Maps.OwnSet
import Derived.Maps.Views
import Derived.StringKeys
import Derived.Test.YthckgmbadmilfaaGreatMAG
import Derived.Test.YthckgmbadmilfaaGreatMAH
import Derived.Carry
import Derived.Laws.Cover1
namespace Go.Proofs.YthckgmbadmilfaaGreat
open Go.RowKit
open Go.Maps (Keyed IsMap)

/-- An element is read as itself. -/
def hR (v : Value) : Option (DataW Value × List MemPlace) := some (.held v, [])
def nilSl : Value := .slice none 0 0
/-- Block b is a map of at most n entries that holds f. -/
def MapFn (w : World) (b n : Nat) (f : ByteArray → Value) : Prop :=
  ∃ D : DataW Value, w.ownsMap Tryz.prog 9 hR b n D ∧ ∀ s : ByteArray, D.atKey (.string s.data.toList) (.held nilSl) = .held (f s)
theorem keyS : Keyed Tryz.prog 9 := Maps.string_keyed Tryz.underlying9
theorem zero_sl (w : World) : (zeroValue 22).run Tryz.prog w = .ok nilSl w := by kernel_rfl
section
variable {w w' : World} {b n : Nat} {f : ByteArray → Value}
theorem MapFn.made (w : World) : MapFn (w.alloc (.map #[] 0)) w.heap.size 0 fun _ => nilSl :=
  ⟨.map [], World.ownsMap_made w _ _ _, fun s => WideAt.atKey_none _ fun p hp => by cases hp⟩
theorem MapFn.lt (h : MapFn w b n f) : b < w.heap.size := by
  obtain ⟨D, h1, _⟩ := h
  exact h1.lt
theorem MapFn.kept {row : Option Nat} (h : MapFn w b n f) (hg : w.grownBy w' row) (hne : some b ≠ row) : MapFn w' b n f := by
  obtain ⟨D, h1, h2⟩ := h
  exact ⟨D, h1.kept hg hne, h2⟩
theorem MapFn.same (h : MapFn w b n f) (hb : w'.heap[b]? = w.heap[b]?) : MapFn w' b n f := by
  obtain ⟨D, ⟨es, clock, h1, h2⟩, h3⟩ := h
  exact ⟨D, ⟨es, clock, hb.trans h1, h2⟩, h3⟩
theorem MapFn.below {B : Nat} (h : MapFn w b n f) (hb : Below B w w') (hlt : b < B) : MapFn w' b n f := h.same (hb.block b hlt)
theorem MapFn.drewN (h : MapFn w b n f) (k : Nat) : MapFn (w.drewN k) b n f := h.same rfl
theorem MapFn.drew (h : MapFn w b n f) : MapFn w.drew b n f := h.same rfl
theorem MapFn.alloc (h : MapFn w b n f) (o : Obj) : MapFn (w.alloc o) b n f := h.same (Below.heap_alloc w o b h.lt)
set_option maxRecDepth 100000 in
theorem MapFn.lookup (h : MapFn w b n f) (key : ByteArray) (hk : key.size ≤ maxLen) : (Instr.lookup 63 (.map (some b)) (.string key) false).run Tryz.prog w = .ok (f key) w := by
  obtain ⟨D, h1, h2⟩ := h
  obtain ⟨v, ps, hrun, hv⟩ := h1.lookup (t := 63) (e := 22) keyS Tryz.underlying63 (zero_sl w) (zd := .held nilSl) (zp := []) rfl (WideMaps.keyOf_string_mk Tryz.underlying9 hk)
  rw [h2 key] at hv
  have e : v = f key := by
    have e1 : (DataW.held v : DataW Value) = DataW.held (f key) := congrArg Prod.fst (Option.some.inj hv)
    injection e1
  rw [hrun, e]
theorem data_inj {a b : ByteArray} (h : (Lit.string a.data.toList) = Lit.string b.data.toList) : a = b := by
  injection h with h
  exact bs_inj h
set_option maxRecDepth 100000 in
theorem MapFn.update (h : MapFn w b n f) (hn : n < maxLen) (key : ByteArray) (hk : key.size ≤ maxLen) (v : Value) :
    ∃ w', (Instr.mapUpdate 63 (.map (some b)) (.string key) v).run Tryz.prog w = .ok () w' ∧ MapFn w' b (n + 1) (fun s => if s = key then v else f s) ∧ w.grownBy w' (some b) := by
  obtain ⟨D, h1, h2⟩ := h
  obtain ⟨w', hrun, h3, h4⟩ := h1.update (t := 63) (e := 22) keyS Tryz.underlying63 hn (WideMaps.keyOf_string_mk Tryz.underlying9 hk) (val := v) (d := .held v) (ps := []) rfl
  refine ⟨w', hrun, ⟨_, h3, fun s => ?_⟩, h4⟩
  by_cases hs : s = key
  · subst hs
    have e := Maps.atKey_put_same (k := .string s.data.toList) h1.isMap trivial (DataW.held v) (DataW.held nilSl)
    rw [e]
    simp only [if_pos]
  · have e := Maps.atKey_put_other (D := D) (fun e => hs (data_inj e)) (DataW.held v) (DataW.held nilSl)
    rw [e, h2]
    simp only [if_neg hs]
end
theorem wpList_lookupM {ops : Array Oper} {rest : List Oper} {o : Oper} {a : Act} {w : World} {Q : Exit → Act → World → Prop} {b n : Nat} {f : ByteArray → Value}
    (hg : o.guard = none) (m x : Operand) (hop : o.op = Op.lookup 63 m x false) (hm : a.eval m = .map (some b)) (h : MapFn w b n f) (key : ByteArray) (hx : a.eval x = .string key) (hk : key.size ≤ maxLen)
    (hK : wpList Tryz.prog ops Q rest (a.put o.dst (f key)) w) : wpList Tryz.prog ops Q (o :: rest) a w := by
  refine wpList_plain hg fun K' hK' => ?_
  unfold Oper.wp
  simp [execOp, hop, hm, hx, h.lookup key hk, Result.andThen]
  exact hK' _ _ hK
theorem wpList_updateM {ops : Array Oper} {rest : List Oper} {o : Oper} {a : Act} {w : World} {Q : Exit → Act → World → Prop} {b n : Nat} {f : ByteArray → Value}
    (hg : o.guard = none) (m x v : Operand) (hop : o.op = Op.mapUpdate 63 m x v) (hm : a.eval m = .map (some b)) (h : MapFn w b n f) (hn : n < maxLen) (key : ByteArray) (hx : a.eval x = .string key) (hk : key.size ≤ maxLen)
    (u : Value) (hv : a.eval v = u) (hK : ∀ w', MapFn w' b (n + 1) (fun s => if s = key then u else f s) → w.grownBy w' (some b) → wpList Tryz.prog ops Q rest (a.put o.dst undef) w') : wpList Tryz.prog ops Q (o :: rest) a w := by
  refine wpList_plain hg fun K' hK' => ?_
  obtain ⟨w', hrun, r1, r2⟩ := h.update hn key hk u
  unfold Oper.wp
  simp [execOp, hop, hm, hx, hv, hrun, Result.andThen]
  exact hK' _ _ (hK w' r1 r2)

/-! ### The matchers of each name -/
def grp (ms : List Mt) (n : ByteArray) : List Mt := ms.filter fun m => decide (m.name = n)
theorem grp_mem {ms : List Mt} {n : ByteArray} {m : Mt} : m ∈ grp ms n ↔ m ∈ ms ∧ m.name = n := by simp [grp]
/-- A set of matchers that is read: block b is the map, all lies below block B. -/
def SetIn (B : Nat) (w : World) (b : Nat) (ms : List Mt) : Prop :=
  b < B ∧ ∃ k f, MapFn w b k f ∧ ∀ n, ∃ A c, f n = .slice A (grp ms n).length c ∧ MtsIn B w A (grp ms n)
theorem SetIn.below {B : Nat} {w w' : World} {b : Nat} {ms : List Mt} (h : SetIn B w b ms) (hb : Below B w w') : SetIn B w' b ms := by
  obtain ⟨h1, k, f, h2, h3⟩ := h
  refine ⟨h1, k, f, h2.below hb h1, fun n => ?_⟩
  obtain ⟨A, c, h4, h5⟩ := h3 n
  exact ⟨A, c, h4, h5.below hb⟩
theorem SetIn.mono {B B' : Nat} {w : World} {b : Nat} {ms : List Mt} (h : SetIn B w b ms) (hB : B ≤ B') : SetIn B' w b ms := by
  obtain ⟨h1, k, f, h2, h3⟩ := h
  refine ⟨by omega, k, f, h2, fun n => ?_⟩
  obtain ⟨A, c, h4, h5⟩ := h3 n
  exact ⟨A, c, h4, h5.mono hB⟩
theorem SetIn.look {B : Nat} {w : World} {b : Nat} {ms : List Mt} (h : SetIn B w b ms) (n : ByteArray) (hn : n.size ≤ maxLen) : ∃ A c, (Instr.lookup 63 (.map (some b)) (.string n) false).run Tryz.prog w = .ok (.slice A (grp ms n).length c) w ∧ MtsIn B w A (grp ms n) := by
  obtain ⟨h1, k, f, h2, h3⟩ := h
  obtain ⟨A, c, h4, h5⟩ := h3 n
  exact ⟨A, c, by rw [h2.lookup n hn, h4], h5⟩
end Go.Proofs.YthckgmbadmilfaaGreat

namespace Go.Proofs.YthckgmbadmilfaaGreat
open Go.RowKit

theorem info_mt : (Tryz.prog.info? 39).map (fun i => (i.zero, i.size, i.bytes)) = some (some (.agg #[.int .i64 0, .string ⟨#[]⟩, .string ⟨#[]⟩]), 3, 40) := by kernel_rfl
theorem grp_snoc (ms : List Mt) (x : Mt) (n : ByteArray) : grp (ms ++ [x]) n = if n = x.name then grp ms n ++ [x] else grp ms n := by
  unfold grp
  rw [List.filter_append]
  by_cases h : n = x.name
  · rw [if_pos h]
    simp [h]
  · rw [if_neg h]
    have : ¬ x.name = n := fun e => h e.symm
    simp [this]
theorem grp_le (ms : List Mt) (n : ByteArray) : (grp ms n).length ≤ ms.length := List.length_filter_le _ _
/-- The map b holds the rows of the matchers of each name; the rows are apart. -/
structure GR (W : World) (b : Nat) (ms : List Mt) (w : World) : Prop where mk ::
  out : ∃ f : ByteArray → Option Addr × Nat, MapFn w b ms.length (fun n => .slice (f n).1 (grp ms n).length (f n).2) ∧ (∀ n, SR W 39 3 (f n).1 (grp ms n).length (f n).2 ((grp ms n).map Mt.cells) w) ∧
    (∀ n m k, n ≠ m → (f n).1.map (·.block) = some k → (f m).1.map (·.block) ≠ some k) ∧ (∀ n, (f n).1.map (·.block) ≠ some b)
theorem GR.later {W w w' : World} {b : Nat} {ms : List Mt} (h : GR W b ms w) (hb : Below w.heap.size w w') : GR W b ms w' := by
  obtain ⟨f, h1, h2, h3, h4⟩ := h.out
  exact ⟨⟨f, h1.below hb h1.lt, fun n => (h2 n).later hb, h3, h4⟩⟩
theorem GR.start (W w : World) (hb : Below W.heap.size W w) : GR W w.heap.size [] (w.alloc (.map #[] 0)) := by
  refine ⟨⟨fun _ => (none, 0), MapFn.made w, fun n => SR.nil _ _ (hb.alloc hb.size _), ?_, ?_⟩⟩
  · intro n m k _ h
    cases h
  · intro n h
    cases h
theorem GR.set {W w : World} {b : Nat} {ms : List Mt} (h : GR W b ms w) : SetIn w.heap.size w b ms := by
  obtain ⟨f, h1, h2, h3, h4⟩ := h.out
  exact ⟨h1.lt, _, _, h1, fun n => ⟨_, _, rfl, (h2 n).rd⟩⟩
theorem SR.by_ {W w w' : World} {E s : Nat} {A : Option Addr} {n c : Nat} {xs : List (Array Value)} {row : Option Nat} (h : SR W E s A n c xs w) (hg : w.grownBy w' row) (hne : A.map (·.block) = none ∨ A.map (·.block) ≠ row) (hb : Below W.heap.size W w') : SR W E s A n c xs w' :=
  ⟨h.len, h.size, h.row.kept hg (by rw [own_slice]; exact hne), hb⟩
theorem GR.store {W wd w2 w3 : World} {b : Nat} {ms : List Mt} {x : Mt} {f : ByteArray → Option Addr × Nat} {A' : Option Addr} {c' : Nat}
    (hm : MapFn wd b ms.length (fun n => .slice (f n).1 (grp ms n).length (f n).2)) (hs : ∀ n, SR W 39 3 (f n).1 (grp ms n).length (f n).2 ((grp ms n).map Mt.cells) wd)
    (hd : ∀ n m k, n ≠ m → (f n).1.map (·.block) = some k → (f m).1.map (·.block) ≠ some k) (hb : ∀ n, (f n).1.map (·.block) ≠ some b) (hW : W.heap.size ≤ b)
    (h2 : SR W 39 3 A' ((grp ms x.name).length + 1) c' ((grp ms x.name).map Mt.cells ++ [x.cells]) w2) (hg : Gro wd w2 (f x.name).1 A')
    (hm3 : MapFn w3 b (ms.length + 1) (fun s => if s = x.name then .slice A' ((grp ms x.name).length + 1) c' else .slice (f s).1 (grp ms s).length (f s).2)) (hg3 : w2.grownBy w3 (some b)) : GR W b (ms ++ [x]) w3 := by
  have hbl := hm.lt
  have hB3 : Below W.heap.size W w3 := h2.below.grown hg3 h2.below.size (fun k e => by cases e; exact hW)
  have hA' : A'.map (·.block) ≠ some b := by
    rcases hg.own with e | ⟨g, e, h⟩
    · rw [e]; exact hb _
    · rw [e]
      intro h3
      injection h3 with h3
      omega
  have hAm : ∀ m k, m ≠ x.name → A'.map (·.block) = some k → (f m).1.map (·.block) ≠ some k := by
    intro m k hne hk
    rcases hg.own with e | ⟨g, e, h⟩
    · rw [e] at hk
      exact hd x.name m k (fun e => hne e.symm) hk
    · rw [e] at hk
      injection hk with hk
      intro h3
      have := ((hs m).lt k h3).2
      omega
  refine ⟨⟨fun n => if n = x.name then (A', c') else f n, ?_, fun n => ?_, fun n m k hne hk => ?_, fun n => ?_⟩⟩
  · rw [List.length_append, List.length_singleton]
    have e : (fun s => if s = x.name then Value.slice A' ((grp ms x.name).length + 1) c' else .slice (f s).1 (grp ms s).length (f s).2) = (fun n => .slice (if n = x.name then (A', c') else f n).1 (grp (ms ++ [x]) n).length (if n = x.name then (A', c') else f n).2) := by
      funext n
      rw [grp_snoc]
      by_cases hn : n = x.name
      · rw [if_pos hn, if_pos hn, if_pos hn, hn]
        simp
      · rw [if_neg hn, if_neg hn, if_neg hn]
    rw [← e]
    exact hm3
  · rw [grp_snoc]
    by_cases hn : n = x.name
    · simp only [if_pos hn]
      rw [hn]
      have := h2.by_ hg3 (.inr hA') hB3
      rw [List.map_append, List.length_append]
      exact this
    · simp only [if_neg hn]
      have h5 : (f n).1.map (·.block) = none ∨ (f n).1.map (·.block) ≠ (f x.name).1.map (·.block) := by
        rcases he : (f n).1.map (·.block) with _ | k
        · exact .inl he
        · exact .inr fun h => hd n x.name k hn he (by rw [← h, he])
      exact ((hs n).by_ hg.grow h5 h2.below).by_ hg3 (.inr (hb n)) hB3
  · by_cases hn : n = x.name
    · simp only [if_pos hn] at hk
      have hm' : ¬ m = x.name := fun e => hne (hn.trans e.symm)
      simp only [if_neg hm']
      exact hAm m k hm' hk
    · simp only [if_neg hn] at hk
      by_cases hm' : m = x.name
      · simp only [if_pos hm']
        intro h
        exact hAm n k hn h hk
      · simp only [if_neg hm']
        exact hd n m k hne hk
  · by_cases hn : n = x.name
    · simp only [if_pos hn]; exact hA'
    · simp only [if_neg hn]; exact hb n
end Go.Proofs.YthckgmbadmilfaaGreat

namespace Go.Proofs.YthckgmbadmilfaaGreat
open Go.RowKit

theorem byte_cases (c : UInt8) : c.toNat ≤ 47 ∨ (48 ≤ c.toNat ∧ c.toNat ≤ 57) ∨ (58 ≤ c.toNat ∧ c.toNat ≤ 64) ∨ (65 ≤ c.toNat ∧ c.toNat ≤ 90) ∨ (91 ≤ c.toNat ∧ c.toNat ≤ 94) ∨ c.toNat = 95 ∨ c.toNat = 96 ∨ (97 ≤ c.toNat ∧ c.toNat ≤ 122) ∨ 123 ≤ c.toNat := by omega
set_option maxHeartbeats 1000000 in
theorem isNameByte_any (c : UInt8) (w : World) : Calls Tryz.prog 149 #[.int .u8 c.toNat] w fun e w' => e = .returned (.bool (letB5 c)) ∧ w' = w := by
  have HB : Hid (letB5 c = decide ((97 ≤ c.toNat ∧ c.toNat ≤ 122) ∨ (65 ≤ c.toNat ∧ c.toNat ≤ 90) ∨ (48 ≤ c.toNat ∧ c.toNat ≤ 57) ∨ c.toNat = 95)) := Lib.hid rfl
  have h := byte_cases c
  rcases h with h | ⟨h, h2⟩ | ⟨h, h2⟩ | ⟨h, h2⟩ | ⟨h, h2⟩ | h | h | ⟨h, h2⟩ | h
  all_goals
    go_enter Tryz.func149, Tryz.ntmps149
    go_wp2_with fail
    go_ret
    exact ⟨ret_bool (by rw [HB.out]; rw [Bool.eq_iff_iff]; first | (simp; done) | (simp; omega)), rfl⟩
set_option maxHeartbeats 1000000 in
theorem letter05_any (c : UInt8) (w : World) : Calls Tryz.prog 106 #[.int .u8 c.toNat] w fun e w' => e = .returned (.bool (letB5 c)) ∧ w' = w := by
  have HB : Hid (letB5 c = decide ((97 ≤ c.toNat ∧ c.toNat ≤ 122) ∨ (65 ≤ c.toNat ∧ c.toNat ≤ 90) ∨ (48 ≤ c.toNat ∧ c.toNat ≤ 57) ∨ c.toNat = 95)) := Lib.hid rfl
  have h := byte_cases c
  rcases h with h | ⟨h, h2⟩ | ⟨h, h2⟩ | ⟨h, h2⟩ | ⟨h, h2⟩ | h | h | ⟨h, h2⟩ | h
  all_goals
    go_enter Tryz.func106, Tryz.ntmps106
    go_wp2_with fail
    go_ret
    exact ⟨ret_bool (by rw [HB.out]; rw [Bool.eq_iff_iff]; first | (simp; done) | (simp; omega)), rfl⟩
end Go.Proofs.YthckgmbadmilfaaGreat

namespace Go.Proofs.YthckgmbadmilfaaGreat
open Go.RowKit

def digB5 (c : UInt8) : Bool := decide (48 ≤ c.toNat ∧ c.toNat ≤ 57)
theorem head_get (s : ByteArray) (h : 0 < s.size) : (bs s).head? = some s[0] := by
  have h1 : (bs s).head? = (bs s)[0]? := by rw [List.head?_eq_getElem?]
  rw [h1, List.getElem?_eq_getElem (l := bs s) h]
  rfl
theorem nameB_zero {s : ByteArray} (h : s.size < 1) : nameB s = false := by
  unfold nameB
  rw [decide_eq_false (show ¬ (0 < s.size ∧ s.size ≤ 60) by omega)]
  simp
theorem nameB_long {s : ByteArray} (h : 60 < s.size) : nameB s = false := by
  unfold nameB
  rw [decide_eq_false (show ¬ (0 < s.size ∧ s.size ≤ 60) by omega)]
  simp
theorem nameB_dig {s : ByteArray} (h : 0 < s.size) (h1 : 48 ≤ s[0].toNat) (h2 : s[0].toNat ≤ 57) : nameB s = false := by
  unfold nameB
  rw [head_get s h]
  simp [h1, h2]
theorem nameB_all {s : ByteArray} (h : 0 < s.size) (h6 : s.size ≤ 60) (h1 : s[0].toNat < 48 ∨ 57 < s[0].toNat) : nameB s = ((bs s).drop 0).all letB5 := by
  unfold nameB
  rw [head_get s h, decide_eq_true (show 0 < s.size ∧ s.size ≤ 60 by omega)]
  simp
  exact fun _ => h1
theorem drop_byte {s : ByteArray} {k : Nat} (h : k < s.size) : (bs s).drop k = s[k] :: (bs s).drop (k + 1) := List.drop_eq_getElem_cons (l := bs s) h
theorem drop_end {s : ByteArray} {k : Nat} (h : s.size ≤ k) : (bs s).drop k = [] := List.drop_eq_nil_of_le (by rw [bs_length]; exact h)

set_option maxHeartbeats 1000000 in
theorem isName_any (s : ByteArray) (w : World) : Calls Tryz.prog 127 #[.string s] w fun e w' => e = .returned (.bool (nameB s)) ∧ w' = w := by
  by_cases h0 : s.size < 1
  · have HB := Lib.hid (nameB_zero h0)
    go_enter Tryz.func127, Tryz.ntmps127
    go_wp2_with fail
    go_ret
    exact ⟨ret_bool HB.out.symm, rfl⟩
  by_cases h6 : 60 < s.size
  · have HB := Lib.hid (nameB_long h6)
    go_enter Tryz.func127, Tryz.ntmps127
    go_wp2_with fail
    go_ret
    exact ⟨ret_bool HB.out.symm, rfl⟩
  have hp : 0 < s.size := by omega
  have h6 : s.size ≤ 60 := by omega
  by_cases hd : 48 ≤ s[0].toNat ∧ s[0].toNat ≤ 57
  · obtain ⟨hd1, hd2⟩ := hd
    have HB := Lib.hid (nameB_dig hp hd1 hd2)
    go_enter Tryz.func127, Tryz.ntmps127
    go_wp2_with fail
    go_ret
    exact ⟨ret_bool HB.out.symm, rfl⟩
  · have hor : s[0].toNat < 48 ∨ 57 < s[0].toNat := by omega
    have HB := Lib.hid (nameB_all hp h6 hor)
    clear hd
    rcases hor with hor | hor
    all_goals
      go_enter Tryz.func127, Tryz.ntmps127
      go_wp2_with fail
      go_loop [3] (fun i => ∃ k : Nat, k ≤ s.size ∧ i = .int .i64 k ∧ Hid (nameB s = ((bs s).drop k).all letB5)) (fun i => s.size - (intOf i).toNat)
      case atStart => exact ⟨0, Nat.zero_le _, rfl, HB⟩
      case round =>
        obtain ⟨k, hk, rfl, HK⟩ := hrel
        clear HB
        by_cases hlt : k < s.size
        · have HD := Lib.hid (drop_byte hlt)
          rcases hl : letB5 s[k]
          · have HL := Lib.hid hl
            clear hl
            go_wp2_with fail
            refine (isNameByte_any _ _).mono ?_
            rintro e w' ⟨rfl, rfl⟩
            rw [HL.out]
            go_wp2_with fail
            go_ret
            exact ⟨ret_bool (by rw [HK.out, HD.out, List.all_cons, HL.out]; rfl), rfl⟩
          · have HL := Lib.hid hl
            clear hl
            go_wp2_with fail
            refine (isNameByte_any _ _).mono ?_
            rintro e w' ⟨rfl, rfl⟩
            rw [HL.out]
            go_wp2_with fail
            go_round
            case rel => exact ⟨k + 1, by omega, by go_num, Lib.hid (by rw [HK.out, HD.out, List.all_cons, HL.out]; rfl)⟩
            case measure => simp [intOf]; omega
        · have HD := Lib.hid (drop_end (Nat.le_of_not_lt hlt))
          go_wp2_with fail
          go_ret
          exact ⟨ret_bool (by rw [HK.out, HD.out]; rfl), rfl⟩

theorem nameB_bad {s : ByteArray} (h : (bs s).all letB5 = false) : nameB s = false := by
  unfold nameB
  rw [h]
  rfl
theorem nameB_good {s : ByteArray} (h : (bs s).all letB5 = true) (h0 : 0 < s.size) (h6 : s.size ≤ 60) (h1 : s[0].toNat < 48 ∨ 57 < s[0].toNat) : nameB s = true := by
  rw [nameB_all h0 h6 h1, List.drop_zero]
  exact h
set_option maxHeartbeats 1000000 in
theorem name05_any (s : ByteArray) (w : World) (hs : s.size ≤ 140737488351232) : Calls Tryz.prog 70 #[.string s] w fun e w' => e = .returned (.bool (nameB s)) ∧ w' = w := by
  go_enter Tryz.func70, Tryz.ntmps70
  go_wp2_with fail
  go_loop [3] (fun i => ∃ k : Nat, k ≤ s.size ∧ i = .int .i64 k ∧ Hid ((bs s).all letB5 = ((bs s).drop k).all letB5)) (fun i => s.size - (intOf i).toNat)
  case atStart => exact ⟨0, Nat.zero_le _, rfl, Lib.hid rfl⟩
  case round =>
    obtain ⟨k, hk, rfl, HK⟩ := hrel
    by_cases hlt : k < s.size
    · have HD := Lib.hid (drop_byte hlt)
      rcases hl : letB5 s[k]
      · have HL := Lib.hid hl
        clear hl
        go_wp2_with fail
        refine (letter05_any _ _).mono ?_
        rintro e w' ⟨rfl, rfl⟩
        rw [HL.out]
        go_wp2_with fail
        go_ret
        exact ⟨ret_bool (nameB_bad (by rw [HK.out, HD.out, List.all_cons, HL.out]; rfl)).symm, rfl⟩
      · have HL := Lib.hid hl
        clear hl
        go_wp2_with fail
        refine (letter05_any _ _).mono ?_
        rintro e w' ⟨rfl, rfl⟩
        rw [HL.out]
        go_wp2_with fail
        go_round
        case rel => exact ⟨k + 1, by omega, by go_num, Lib.hid (by rw [HK.out, HD.out, List.all_cons, HL.out]; rfl)⟩
        case measure => simp [intOf]; omega
    · have HG : Hid ((bs s).all letB5 = true) := Lib.hid (by rw [HK.out, drop_end (Nat.le_of_not_lt hlt)]; rfl)
      clear HK
      by_cases h0 : s.size < 1
      · have HB := Lib.hid (nameB_zero h0)
        go_wp2_with fail
        go_ret
        exact ⟨ret_bool HB.out.symm, rfl⟩
      by_cases h6 : 60 < s.size
      · have HB := Lib.hid (nameB_long h6)
        go_wp2_with fail
        go_ret
        exact ⟨ret_bool HB.out.symm, rfl⟩
      have hp : 0 < s.size := by omega
      have h6 : s.size ≤ 60 := by omega
      by_cases hd : 48 ≤ s[0].toNat ∧ s[0].toNat ≤ 57
      · obtain ⟨hd1, hd2⟩ := hd
        have HB := Lib.hid (nameB_dig hp hd1 hd2)
        go_wp2_with fail
        go_ret
        exact ⟨ret_bool (by first | exact HB.out.symm | (rw [HB.out, Bool.eq_iff_iff]; simp; done) | (rw [HB.out, Bool.eq_iff_iff]; simp; omega)), rfl⟩
      · have hor : s[0].toNat < 48 ∨ 57 < s[0].toNat := by omega
        have HB := Lib.hid (nameB_good HG.out hp h6 hor)
        clear hd
        rcases hor with hor | hor
        all_goals
          go_wp2_with fail
          go_ret
          exact ⟨ret_bool (by first | exact HB.out.symm | (rw [HB.out, Bool.eq_iff_iff]; simp; done) | (rw [HB.out, Bool.eq_iff_iff]; simp; omega)), rfl⟩
end Go.Proofs.YthckgmbadmilfaaGreat

namespace Go.Proofs.YthckgmbadmilfaaGreat
open Go.RowKit

theorem Drw.same {w w' : World} (h : w' = w) : Drw w w' := by subst h; exact Drw.refl _

/-- What is still to be checked from the label k on. -/
def chkAt (ls : List Lab) : Nat → Int
  | 0 => chkFrom none ls
  | k + 1 => chkFrom ((ls[k]?).map (·.name)) (ls.drop (k + 1))
theorem chkAt_end {ls : List Lab} {k : Nat} (h : ls.length ≤ k) : chkAt ls k = 0 := by
  cases k with
  | zero =>
    have : ls = [] := List.eq_nil_of_length_eq_zero (by omega)
    subst this
    rfl
  | succ k =>
    show chkFrom _ (ls.drop (k + 1)) = 0
    rw [List.drop_eq_nil_of_le h]
    rfl
/-- The name ahead of the label k stands in the way. -/
def badAt (ls : List Lab) : Nat → Bool
  | 0 => false
  | k + 1 => ((ls[k]?).map (·.name)).any fun p => ((ls[k + 1]?).map (·.name)).any fun x => leS x p
theorem chkAt_step {ls : List Lab} {k : Nat} (h : k < ls.length) : chkAt ls k = if nameB (ls[k]).name then (if (ls[k]).value.size = 0 then 1 else if 200 < (ls[k]).value.size then 4 else if badAt ls k then 9 else chkAt ls (k + 1)) else 5 := by
  cases k with
  | zero =>
    match ls, h with
    | x :: r, _ => rfl
  | succ k =>
    have e1 : ls[k + 1]? = some ls[k + 1] := List.getElem?_eq_getElem h
    have e2 : badAt ls (k + 1) = ((ls[k]?).map (·.name)).any fun p => leS (ls[k + 1]).name p := by
      show (((ls[k]?).map (·.name)).any fun p => ((ls[k + 1]?).map (·.name)).any fun x => leS x p) = _
      rw [e1]
      rfl
    have e3 : chkAt ls (k + 1 + 1) = chkFrom (some (ls[k + 1]).name) (ls.drop (k + 1 + 1)) := by
      show chkFrom ((ls[k + 1]?).map (·.name)) _ = _
      rw [e1]
      rfl
    rw [e2, e3]
    show chkFrom _ (ls.drop (k + 1)) = _
    rw [drop_cons h]
    rfl
theorem badAt_zero (ls : List Lab) : badAt ls 0 = false := rfl
theorem badAt_succ {ls : List Lab} {k : Nat} (h : k + 1 < ls.length) : badAt ls (k + 1) = leS (ls[k + 1]).name (ls[k]'(by omega)).name := by
  show (((ls[k]?).map (·.name)).any fun p => ((ls[k + 1]?).map (·.name)).any fun x => leS x p) = _
  rw [List.getElem?_eq_getElem h, List.getElem?_eq_getElem (show k < ls.length by omega)]
  rfl

end Go.Proofs.YthckgmbadmilfaaGreat

namespace Go.Proofs.YthckgmbadmilfaaGreat
open Go.RowKit

set_option maxRecDepth 100000 in
set_option maxHeartbeats 2000000 in
theorem checkL_any (A : Option Addr) (c : Nat) (ls : List Lab) (w : World) (hr : LabsIn w.heap.size w A ls) (hc : ls.length ≤ c) :
    Calls Tryz.prog 86 #[.slice A ls.length c] w fun e w' => e = .returned (.int .i64 (chkL ls)) ∧ Below w.heap.size w w' := by
  have HC := Lib.hid hc
  clear hc
  by_cases h16 : 16 < ls.length
  · have HR : Hid (chkL ls = 4) := Lib.hid (by unfold chkL; rw [if_pos h16])
    go_enter Tryz.func86, Tryz.ntmps86
    go_wp2_with fail
    go_ret
    exact ⟨ret_int HR.out.symm, Below.refl _ _⟩
  · have HR : Hid (chkL ls = chkAt ls 0) := Lib.hid (by unfold chkL; rw [if_neg h16]; rfl)
    have h16 : ls.length ≤ 16 := by omega
    have HRD := Lib.hid hr
    clear hr
    go_enter Tryz.func86, Tryz.ntmps86
    go_wp2_with fail
    go_loopw [10] (fun i wr => ∃ k : Nat, k ≤ ls.length ∧ i = .int .i64 k ∧ Hid (chkL ls = chkAt ls k) ∧ Below w.heap.size w wr) (fun i _ => ls.length - (intOf i).toNat)
    case atStart => exact ⟨0, Nat.zero_le _, rfl, HR, Below.refl _ _⟩
    case round =>
      obtain ⟨k, hk, rfl, HK, hD⟩ := hrel
      clear HR
      by_cases hlt : k < ls.length
      · have HST := Lib.hid (chkAt_step hlt)
        have HD := Lib.hid hD
        have hR := HRD.out.below hD
        obtain ⟨b, o, rfl, hb, c0, c1⟩ := hR.at_ k hlt
        have hb : b < wr.heap.size := Nat.lt_of_lt_of_le hb hD.size
        clear hR hD
        by_cases hnm : nameB (ls[k]).name
        · have HNM := Lib.hid hnm
          clear hnm
          by_cases hv0 : (ls[k]).value.size = 0
          · have d0 := str_eq hv0
            have HR : Hid (chkL ls = 1) := Lib.hid (by rw [HK.out, HST.out, if_pos HNM.out, if_pos hv0])
            clear hv0
            go_wp2_with fail
            refine (isName_any _ _).mono ?_
            rintro e w' ⟨rfl, rfl⟩
            rw [HNM.out]
            go_wp2_with fail
            go_ret
            exact ⟨ret_int HR.out.symm, HD.out.alloc HD.out.size _⟩
          · have d0 := str_ne hv0
            by_cases hv2 : 200 < (ls[k]).value.size
            · have HR : Hid (chkL ls = 4) := Lib.hid (by rw [HK.out, HST.out, if_pos HNM.out, if_neg hv0, if_pos hv2])
              clear hv0
              go_wp2_with fail
              refine (isName_any _ _).mono ?_
              rintro e w' ⟨rfl, rfl⟩
              rw [HNM.out]
              go_wp2_with fail
              go_ret
              exact ⟨ret_int HR.out.symm, HD.out.alloc HD.out.size _⟩
            · rcases k with _ | k
              · simp only [Nat.zero_mul, Nat.add_zero] at c0 c1
                have HR : Hid (chkL ls = chkAt ls 1) := Lib.hid (by rw [HK.out, HST.out, if_pos HNM.out, if_neg hv0, if_neg hv2, badAt_zero]; rfl)
                clear hv0
                go_wp2_with fail
                refine (isName_any _ _).mono ?_
                rintro e w' ⟨rfl, rfl⟩
                rw [HNM.out]
                go_wp2_with fail
                go_quiet (fail)
                go_wp2_with fail
                go_roundw
                case rel => exact ⟨1, by omega, by go_num, HR, below_round HD.out _ _⟩
                case measure => simp [intOf]; omega
              · have hlt' : k < ls.length := by omega
                obtain ⟨b', o', e1, _, p0, _⟩ := (HRD.out.below HD.out).at_ k hlt'
                cases e1
                have g1 : (0 : Int) ≤ ((k + 1 : Nat) : Int) - 1 := by omega
                have g2 : ((k + 1 : Nat) : Int) - 1 = (k : Int) := by omega
                have q0 := at_alloc p0 hb (.cells #[.string (ls[k + 1]).name, .string (ls[k + 1]).value] 51)
                have HBA := Lib.hid (badAt_succ hlt)
                rcases hba : leS (ls[k + 1]).name (ls[k]).name
                · have HR : Hid (chkL ls = chkAt ls (k + 1 + 1)) := Lib.hid (by rw [HK.out, HST.out, if_pos HNM.out, if_neg hv0, if_neg hv2, HBA.out, hba]; rfl)
                  have hba2 : (Op.bytesLess (ls[k + 1]).name.toList (ls[k]).name.toList || (ls[k + 1]).name.toList == (ls[k]).name.toList) = false := hba
                  clear hv0
                  go_wp2_with fail
                  refine (isName_any _ _).mono ?_
                  rintro e w' ⟨rfl, rfl⟩
                  rw [HNM.out]
                  go_wp2_with fail
                  go_quiet (fail)
                  go_wp2_with fail
                  go_roundw
                  case rel => exact ⟨k + 1 + 1, by omega, by go_num, HR, below_round HD.out _ _⟩
                  case measure => simp [intOf]; omega
                · have HR : Hid (chkL ls = 9) := Lib.hid (by rw [HK.out, HST.out, if_pos HNM.out, if_neg hv0, if_neg hv2, HBA.out, hba]; rfl)
                  have hba2 : (Op.bytesLess (ls[k + 1]).name.toList (ls[k]).name.toList || (ls[k + 1]).name.toList == (ls[k]).name.toList) = true := hba
                  clear hv0
                  go_wp2_with fail
                  refine (isName_any _ _).mono ?_
                  rintro e w' ⟨rfl, rfl⟩
                  rw [HNM.out]
                  go_wp2_with fail
                  go_quiet (fail)
                  go_wp2_with fail
                  go_ret
                  exact ⟨ret_int HR.out.symm, below_round HD.out _ _⟩
        · have HNM : Hid (nameB (ls[k]).name = false) := Lib.hid (by simpa using hnm)
          have HR : Hid (chkL ls = 5) := Lib.hid (by rw [HK.out, HST.out, if_neg hnm])
          clear hnm
          go_wp2_with fail
          refine (isName_any _ _).mono ?_
          rintro e w' ⟨rfl, rfl⟩
          rw [HNM.out]
          go_wp2_with fail
          go_ret
          exact ⟨ret_int HR.out.symm, HD.out.alloc HD.out.size _⟩
      · have HR : Hid (chkL ls = 0) := Lib.hid (by rw [HK.out, chkAt_end (Nat.le_of_not_lt hlt)])
        have HD := Lib.hid hD
        clear hD
        go_wp2_with fail
        go_ret
        exact ⟨ret_int HR.out.symm, HD.out⟩
end Go.Proofs.YthckgmbadmilfaaGreat
