/- The walk of xor: the exclusive or of three strings. -/
import Derived.Test.YthejhofnoolpcaaLwB
import Derived.Laws.IdiomStrings
import Derived.RegionTactic
import Derived.Outline
import Derived.ChangeAlike
namespace Go.Proofs.Ythejhofnoolpcaa
open Go.RowKit Crc

/-- Block b begins with these bytes, and they can be written. -/
def Buf (W : World) (b : Nat) (l : List UInt8) : Prop := ∃ C fr, W.heap[b]? = some (.cells C 5 fr) ∧ l.length ≤ fr.1 ∧ ∀ j (h : j < l.length), C[j]? = some (.int .u8 l[j].toNat)
theorem Buf.cell {W : World} {b : Nat} {l : List UInt8} (h : Buf W b l) (j : Nat) (hj : j < l.length) : W.cell? ⟨b, j, none⟩ = some (.int .u8 l[j].toNat) := by
  obtain ⟨C, fr, h1, h2, h3⟩ := h
  rw [cell_of_row W b j C 5 fr h1, h3 j hj]
theorem Buf.free {W : World} {b : Nat} {l : List UInt8} (h : Buf W b l) (j : Nat) (hj : j < l.length) : W.frozen? ⟨b, j, none⟩ = false := by
  obtain ⟨C, fr, h1, h2, h3⟩ := h
  simp [World.frozen?, h1]
  omega
theorem Buf.set {W : World} {b : Nat} {l : List UInt8} (h : Buf W b l) (i : Nat) (hi : i < l.length) (c : UInt8) : Buf (W.setCell ⟨b, i, none⟩ (.int .u8 c.toNat)) b (l.set i c) := by
  obtain ⟨C, fr, h1, h2, h3⟩ := h
  refine ⟨C.setIfInBounds i (.int .u8 c.toNat), fr, ?_, by simpa using h2, ?_⟩
  · simp [World.setCell, Array.getElem?_modify, h1]
  · intro j hj
    have hj' : j < l.length := by simpa using hj
    rw [Array.getElem?_setIfInBounds, List.getElem_set]
    have hC : i < C.size := by
      have := h3 i hi
      exact (Array.getElem?_eq_some_iff.1 this).1
    by_cases e : i = j
    · subst e; rw [if_pos rfl, if_pos rfl, if_pos hC]
    · rw [if_neg e, if_neg e, h3 j hj']
theorem Buf.new (w : World) (s : ByteArray) : Buf (w.alloc (.cells (bytesRow s (grownCap w s.size 0 5)) 5 ((bytesRow s (grownCap w s.size 0 5)).size, (bytesRow s (grownCap w s.size 0 5)).size + 1))) w.heap.size (bs s) := by
  have hl : (bs s).length ≤ (bytesRow s (grownCap w s.size 0 5)).size := by
    unfold bytesRow; rw [bs_length, Array.size_append, Array.size_map]; exact Nat.le_add_right _ _
  refine ⟨_, _, heap_alloc_new _ _, hl, ?_⟩
  intro j hj
  unfold bytesRow
  have hj2 : j < s.data.size := hj
  rw [Array.getElem?_append_left (by simpa using hj2), Array.getElem?_map, Array.getElem?_eq_getElem hj2]
  rfl
theorem below_drew {B : Nat} {w W : World} (h : Below B w W) : Below B w W.drew := ⟨h.os, h.tape, h.output, h.size, h.block⟩
theorem Buf.drew {W : World} {b : Nat} {l : List UInt8} (h : Buf W b l) : Buf W.drew b l := h
theorem Buf.lt {W : World} {b : Nat} {l : List UInt8} (h : Buf W b l) : b < W.heap.size := by
  obtain ⟨C, fr, h1, _⟩ := h
  exact (Array.getElem?_eq_some_iff.1 h1).1
/-- What the bytes are as a string. -/
theorem Buf.str {W : World} {b : Nat} {l : List UInt8} (h : Buf W b l) (cap : Nat) : (convert 42 9 (.slice (some ⟨b, 0, none⟩) l.length cap)).run Try.prog W = .ok (.string (str l)) W := by
  refine run_convert_bytes_back W 42 9 5 ⟨b, 0, none⟩ cap l Try.underlying42 Try.underlying5 Try.underlying9 (fun j hj => ?_)
  have : (⟨b, 0, none⟩ : Addr).add j = ⟨b, j, none⟩ := by unfold Addr.add; simp; omega
  rw [this]
  exact h.cell j hj

theorem b_xor (x y : UInt8) : Go.bits .xor .u8 (x.toNat : Int) (y.toNat : Int) = ((x ^^^ y).toNat : Int) := by
  unfold Go.bits
  show IntKind.u8.wrap (((BitVec.ofInt 8 (x.toNat : Int) ^^^ BitVec.ofInt 8 (y.toNat : Int) : BitVec 8).toNat : Nat) : Int) = _
  have e : ∀ z : UInt8, BitVec.ofInt 8 (z.toNat : Int) = z.toBitVec := fun z => by
    apply BitVec.eq_of_toNat_eq
    simp
  rw [e, e]
  rw [← UInt8.toBitVec_xor]
  have := (x ^^^ y).toNat_lt
  show IntKind.u8.wrap ((x ^^^ y).toNat : Int) = _
  rw [IntKind.wrap_u8]
  omega

/-- The exclusive or of three. -/
def mix3 (a b c : List UInt8) : List UInt8 := List.zipWith (· ^^^ ·) a (List.zipWith (· ^^^ ·) b c)
theorem mix3_length (a b c : List UInt8) (hb : b.length = a.length) (hc : c.length = a.length) : (mix3 a b c).length = a.length := by
  unfold mix3; simp [hb, hc]
theorem part_set (m a : List UInt8) (h : m.length = a.length) (k : Nat) (hk : k < m.length) : (m.take k ++ a.drop k).set k m[k] = m.take (k + 1) ++ a.drop (k + 1) := by
  apply List.ext_getElem
  · simp; omega
  · intro i h1 h2
    simp only [List.getElem_set, List.getElem_append, List.getElem_take, List.getElem_drop, List.length_take]
    have hi : i < a.length := by simp at h1; omega
    by_cases e : k = i
    · subst e
      rw [if_pos rfl, dif_pos (by omega)]
    · rw [if_neg e]
      by_cases e2 : i < k
      · rw [dif_pos (by omega), dif_pos (by omega)]
      · rw [dif_neg (by omega), dif_neg (by omega)]
        congr 1
        omega
theorem part_get (m a : List UInt8) (h : m.length = a.length) (k : Nat) (hk : k < m.length) (h1 : k < (m.take k ++ a.drop k).length) : (m.take k ++ a.drop k)[k] = a[k] := by
  rw [List.getElem_append_right (by simp; omega)]
  simp only [List.length_take, List.getElem_drop]
  congr 1
  omega

set_option maxHeartbeats 400000 in
theorem xor_any (a b c : ByteArray) (ha : a.size ≤ 300) (hb : b.size = a.size) (hc : c.size = a.size) (w : World) :
    Calls Try.prog 23 #[.string a, .string b, .string c] w fun e w' => e = .returned (.string (str (mix3 (bs a) (bs b) (bs c)))) ∧ Below w.heap.size w w' := by
  have hcv := fun w => run_bytes_of_string (P := Try.prog) w 9 42 5 a Try.underlying9 Try.underlying42 Try.underlying5
  have HB := Lib.hid hb
  have HC := Lib.hid hc
  have hl := mix3_length (bs a) (bs b) (bs c) hb hc
  rw [bs_length] at hl
  generalize hM : mix3 (bs a) (bs b) (bs c) = M at *
  have HL := Lib.hid hl
  have HM := Lib.hid hM
  clear hM hl hb hc
  go_enter Try.func23, Try.ntmps23
  go_wp2_with fail
  generalize hcap : grownCap w a.size 0 5 = cap
  go_loopw [13] (fun i wr => ∃ k : Nat, k ≤ a.size ∧ i = .int .i64 k ∧ Buf wr w.heap.size (M.take k ++ (bs a).drop k) ∧ Below w.heap.size w wr) (fun i _ => a.size - (intOf i).toNat)
  case atStart =>
    refine ⟨0, Nat.zero_le _, rfl, ?_, ?_⟩
    · rw [← hcap]
      exact (Buf.new w a).drew
    · exact below_drew ((Below.refl _ _).alloc (Nat.le_refl _) _)
  case round =>
    obtain ⟨k, hk, rfl, hbuf, hbl⟩ := hrel
    by_cases hlt : k < a.size
    · have q1 : k < b.size := by have := HB.out; omega
      have q2 : k < c.size := by have := HC.out; omega
      have q0 : k < M.length := by have := HL.out; omega
      have q3 : k < (M.take k ++ (bs a).drop k).length := by simp [bs_length]; have := HL.out; omega
      have g0 : wr.cell? ⟨w.heap.size, k, none⟩ = some (.int .u8 ((bs a)[k]'hlt).toNat) := by
        have := hbuf.cell k q3
        rw [part_get M (bs a) HL.out k q0 q3] at this
        exact this
      have g1 := hbuf.free k q3
      have HS := Lib.hid (part_set M (bs a) HL.out k q0)
      have HW := Lib.hid (hbuf.set k q3 M[k])
      have x1 := b_xor b[k] c[k]
      have x2 := b_xor ((bs a)[k]'hlt) (b[k] ^^^ c[k])
      have hz : (bs a)[k]'hlt ^^^ (b[k] ^^^ c[k]) = M[k] := by
        have := HM.out
        subst this
        simp [mix3]
        rfl
      rw [hz] at x2
      generalize b[k] ^^^ c[k] = y at *
      generalize M[k] = z at *
      clear hz
      go_wp2_with fail
      go_region
      go_wp2_with fail
      go_roundw
      case rel => exact ⟨k + 1, by omega, by go_num, by rw [← HS.out]; exact HW.out.drew, below_drew (hbl.setCell (Nat.le_refl _) _)⟩
      case measure => simp [intOf]; omega
    · obtain rfl : k = a.size := by omega
      have hf : M.take a.size ++ (bs a).drop a.size = M := by
        rw [List.take_of_length_le (by rw [HL.out]; exact Nat.le_refl _), List.drop_of_length_le (by rw [bs_length]; exact Nat.le_refl _), List.append_nil]
      rw [hf] at hbuf
      have hst := hbuf.str cap
      rw [HL.out] at hst
      clear hf
      go_wp2_with fail
      go_ret
      exact ⟨rfl, hbl⟩
end Go.Proofs.Ythejhofnoolpcaa
