/- A file that is decoded: plain Lean; a chunk that is written into its row. -/
import Derived.Test.YtoojpfcnekpboaaGreatZBM
namespace Go.Proofs.YtoojpfcnekpboaaGreat
open Go.RowKit Go.Shelf

theorem setL_size : ∀ (vs : List Value) (cs : Array Value) (o : Nat), (setL cs o vs).size = cs.size
  | [], _, _ => rfl
  | v :: r, cs, o => by
    unfold setL
    rw [setL_size r, Array.size_setIfInBounds]
theorem setL_get : ∀ (vs : List Value) (cs : Array Value) (o j : Nat), o + vs.length ≤ cs.size → (setL cs o vs)[j]? = if o ≤ j ∧ j < o + vs.length then vs[j - o]? else cs[j]?
  | [], cs, o, j, _ => by
    unfold setL
    rw [if_neg (by simp)]
  | v :: r, cs, o, j, h => by
    unfold setL
    simp only [List.length_cons] at h ⊢
    rw [setL_get r (cs.setIfInBounds o v) (o + 1) j (by rw [Array.size_setIfInBounds]; omega)]
    by_cases h1 : o + 1 ≤ j ∧ j < o + 1 + r.length
    · rw [if_pos h1, if_pos (by omega), show j - o = (j - (o + 1)) + 1 by omega, List.getElem?_cons_succ]
    · rw [if_neg h1]
      by_cases h2 : j = o
      · subst h2
        rw [if_pos (by omega), Nat.sub_self, List.getElem?_cons_zero, Array.getElem?_setIfInBounds_self_of_lt (by omega)]
      · rw [if_neg (by omega), Array.getElem?_setIfInBounds_ne (by omega)]
/-- A chunk is written into its row. -/
theorem ChRow.store {w : World} {A : Option Addr} {xs : List Chk} (h : ChRow w A xs) (k : Nat) (hk : k < xs.length) : ∃ g cur, A = some ⟨g, 0, none⟩ ∧ At w g cur 58 ∧ w.there g (k * 16) 16 ∧
    ∀ (v : Array Value) (y : Chk), v.size = 16 → ChT w v y → ChRow (w.setCells g (k * 16) v.toList) A (xs.set k y) := by
  obtain ⟨vs, a, b⟩ := h.out
  rcases b with rfl | ⟨g, cur, e1, e2, e3, e4⟩
  · simp at hk
  · have hkv : k < vs.length := by rw [a.1]; exact hk
    have hsz : k * 16 + 16 ≤ cur.size := by
      have h1 := e4 k hkv 15 (by decide)
      have h2 := e3 _ (List.getElem_mem hkv)
      rw [Array.getElem?_eq_getElem (by omega : 15 < (vs[k]).size)] at h1
      have h3 := (Array.getElem?_eq_some_iff.1 h1).1
      omega
    refine ⟨g, cur, e1, e2, e2.there _ _ hsz, fun v y hv hy => ?_⟩
    have hKL : KT 66 w (w.setCells g (k * 16) v.toList) := KT.keep (Keep.setCellsP v.toList (k * 16) w (Keep.refl g w)) e2 (by decide)
    have hvl : v.toList.length = 16 := by rw [Array.length_toList, hv]
    refine ⟨vs.set k v, ⟨by rw [List.length_set, List.length_set, a.1], fun i h1 h2 => ?_⟩, .inr ⟨g, _, e1, e2.setCells v.toList (k * 16), fun u hu => ?_, fun i h1 j hj => ?_⟩⟩
    · rw [List.length_set] at h1 h2
      by_cases hi : k = i
      · subst hi
        simp only [List.getElem_set_self]
        exact hy.kt hKL
      · rw [List.getElem_set_ne hi, List.getElem_set_ne hi]
        exact (a.2 i h1 h2).kt hKL
    · rcases List.mem_or_eq_of_mem_set hu with h3 | rfl
      · exact e3 u h3
      · exact hv
    · rw [List.length_set] at h1
      rw [setL_get _ _ _ _ (by rw [hvl]; exact hsz), hvl]
      by_cases hi : k = i
      · subst hi
        rw [if_pos (by omega), List.getElem_set_self, show k * 16 + j - k * 16 = j by omega]
        simp
      · rw [if_neg (by omega), List.getElem_set_ne hi]
        exact e4 i h1 j hj

/-! ### What Decode answers -/
def fullOf (s : ByteArray) (x : Itm) : Chk := ⟨x.sig, x.labs, x.zone, chD s x⟩
def itE (s : ByteArray) : List Itm → Int
  | [] => 0
  | x :: r => if chE s x = 0 then itE s r else chE s x
def decE (s : ByteArray) : Int := if opE s = 0 then itE s (opR s).items else opE s
def decR (s : ByteArray) : Blk := if decE s = 0 then ⟨(opR s).id, (opR s).width, (opR s).fr, (opR s).items.map (fullOf s)⟩ else ⟨0, 0, 0, []⟩
/-- The chunks behind k rounds. -/
def cksAt (s : ByteArray) (its : List Itm) (k : Nat) : List Chk := (its.take k).map (fullOf s) ++ (its.drop k).map chkOf
theorem cksAt_len (s : ByteArray) (its : List Itm) (k : Nat) : (cksAt s its k).length = its.length := by
  unfold cksAt
  rw [List.length_append, List.length_map, List.length_map, List.length_take, List.length_drop]
  omega
theorem cksAt_zero (s : ByteArray) (its : List Itm) : cksAt s its 0 = its.map chkOf := by unfold cksAt; simp
theorem cksAt_end (s : ByteArray) (its : List Itm) : cksAt s its its.length = its.map (fullOf s) := by unfold cksAt; simp
theorem cksAt_step (s : ByteArray) (its : List Itm) (k : Nat) (h : k < its.length) : (cksAt s its k).set k (fullOf s its[k]) = cksAt s its (k + 1) := by
  unfold cksAt
  have hl : ((its.take k).map (fullOf s)).length = k := by rw [List.length_map, List.length_take]; omega
  rw [List.set_append_right _ _ (by omega), hl, Nat.sub_self, List.drop_eq_getElem_cons h, List.map_cons, List.set_cons_zero, List.take_succ_eq_append_getElem h, List.map_append, List.append_assoc]
  rfl
theorem itE_skip (s : ByteArray) : ∀ (a b : List Itm), (∀ x ∈ a, chE s x = 0) → itE s (a ++ b) = itE s b
  | [], _, _ => rfl
  | x :: r, b, h => by
    rw [List.cons_append]
    unfold itE
    rw [if_pos (h x List.mem_cons_self)]
    rw [itE_skip s r b (fun y hy => h y (List.mem_cons_of_mem _ hy))]
    cases b <;> rfl
theorem itE_all (s : ByteArray) (a : List Itm) (h : ∀ x ∈ a, chE s x = 0) : itE s a = 0 := by
  have := itE_skip s a [] h
  rw [List.append_nil] at this
  rw [this]
  rfl
theorem itE_at (s : ByteArray) (its : List Itm) (k : Nat) (h : k < its.length) (ha : ∀ x ∈ its.take k, chE s x = 0) (hb : chE s its[k] ≠ 0) : itE s its = chE s its[k] := by
  have e : its = its.take k ++ its.drop k := (List.take_append_drop k its).symm
  have := itE_skip s (its.take k) (its.drop k) ha
  rw [List.take_append_drop, List.drop_eq_getElem_cons h] at this
  rw [this]
  show (if chE s its[k] = 0 then _ else _) = _
  rw [if_neg hb]
def DPost (s : ByteArray) (w : World) (e : Ending) (w' : World) : Prop := Below w.heap.size w w' ∧ ∃ A c, e = .returned (.tuple #[.agg (blC (decR s) A c), .int .i64 (decE s)]) ∧ ChksIn w'.heap.size w' A (decR s).chunks ∧ (decR s).chunks.length ≤ c
end Go.Proofs.YtoojpfcnekpboaaGreat
