/- The walks of the other laws as the rows hand their arguments over. -/
import Derived.Test.YthejhofnoolpcaaLwH
import Derived.Test.YthejhofnoolpcaaLwE
namespace Go.Proofs.Ythejhofnoolpcaa
open Go.RowKit Crc

/-- What the row knows of a slice of whole numbers. -/
def IsRow (k : IntKind) (w : World) (a : Option Addr) (len cap : Nat) (zs : List Int) : Prop :=
  (a = none ∧ len = 0 ∧ cap = 0 ∧ zs = []) ∨
  ∃ x, a = some x ∧ len ≤ cap ∧ cap ≤ maxLen ∧ zs.length = cap ∧ (∀ i, i < zs.length → w.cell? (x.add i) = some (.int k (zs.getD i 0))) ∧ ∀ n ∈ zs, (Lit.int k n).wf = true

theorem wkConcat (s t : ByteArray) (W : World) (hs : s.size ≤ 140737488351232) (ht : t.size ≤ 140737488351232) :
    Calls Try.prog 6 #[.string s, .string t] W fun e w' => e = .returned (.bool true) ∧ Below W.heap.size W w' := lawConcat s t hs ht W
theorem wkSeals (s : ByteArray) (W : World) (hs : s.size ≤ 140737488351232) :
    Calls Try.prog 10 #[.string s] W fun e w' => e = .returned (.bool true) ∧ Below W.heap.size W w' := lawSeals s hs W
theorem wkAssoc (a b c n m : Int) (W : World) (h : (Lit.int .u32 a).wf = true) (h2 : (Lit.int .u32 b).wf = true) (h3 : (Lit.int .u32 c).wf = true) (h4 : (Lit.int .i64 n).wf = true) (h5 : (Lit.int .i64 m).wf = true) :
    Calls Try.prog 11 #[.int .u32 a, .int .u32 b, .int .u32 c, .int .i64 n, .int .i64 m] W fun e w' => e = .returned (.bool true) ∧ Below W.heap.size W w' := by
  obtain ⟨x, rfl⟩ := wf32 h
  obtain ⟨y, rfl⟩ := wf32 h2
  obtain ⟨z, rfl⟩ := wf32 h3
  exact lawAssoc x y z n m (wf64 h4).1 (wf64 h4).2 (wf64 h5).1 (wf64 h5).2 W
theorem wf16 {a : Int} (h : (Lit.int .u16 a).wf = true) : 0 ≤ a ∧ a < 65536 := by
  have h := wfb h
  rw [show IntKind.u16.min = 0 from rfl, show IntKind.u16.max = 65535 from rfl] at h
  omega
theorem wkBurst (s : ByteArray) (a b : Int) (W : World) (hs : s.size ≤ 140737488351232) (h : (Lit.int .u32 a).wf = true) (h2 : (Lit.int .u16 b).wf = true) :
    Calls Try.prog 8 #[.string s, .int .u32 a, .int .u16 b] W fun e w' => e = .returned (.bool true) ∧ Below W.heap.size W w' := by
  obtain ⟨x, rfl⟩ := wf32 h
  have h2 := wf16 h2
  obtain ⟨n, rfl⟩ : ∃ n : Nat, b = (n : Int) := ⟨b.toNat, by omega⟩
  exact lawBurst s x n (by omega) W hs
theorem wkOdd (s : ByteArray) (a : Option Addr) (len cap : Nat) (zs : List Int) (W : World) (hs : s.size ≤ 140737488351232) (h : IsRow .u16 W a len cap zs) :
    Calls Try.prog 9 #[.string s, .slice a len cap] W fun e w' => e = .returned (.bool true) ∧ Below W.heap.size W w' := by
  rcases h with ⟨rfl, rfl, rfl, rfl⟩ | ⟨x, rfl, hl, hm, hz, hc, hw⟩
  · exact lawOdd_nil s none 0 W hs
  · unfold maxLen at hm
    obtain ⟨b, off, spot⟩ := x
    rcases Nat.eq_zero_or_pos len with h0 | h0
    · subst h0
      exact lawOdd_nil s _ cap W hs
    · have hc0 := hc 0 (by omega)
      have hsp : spot = none := by
        rcases spot with _ | p
        · rfl
        · exfalso
          have e : (⟨b, off, some p⟩ : Addr).add 0 = ⟨b, off, some p⟩ := rfl
          rw [e] at hc0
          unfold World.cell? at hc0
          split at hc0 <;> simp at hc0
      subst hsp
      have hadd : ∀ i, (⟨b, off, none⟩ : Addr).add i = ⟨b, off + i, none⟩ := fun i => by unfold Addr.add; split <;> simp_all
      refine lawOdd s b off len cap zs W (fun _ => ?_) hs (by omega) (fun i hi => ?_) (fun i hi => ?_)
      · rw [hadd] at hc0
        unfold World.cell? at hc0
        rcases Nat.lt_or_ge b W.heap.size with h | h
        · exact h
        · rw [Array.getElem?_eq_none h] at hc0
          cases hc0
      · rw [← hadd]; exact hc i (by omega)
      · refine wf16 (hw _ ?_)
        rw [List.getD_eq_getElem?_getD, List.getElem?_eq_getElem (by omega)]
        exact List.getElem_mem _
theorem wkLinear (a b c : ByteArray) (W : World) (h1 : a.size ≤ 140737488351232) (h2 : b.size ≤ 140737488351232) (h3 : c.size ≤ 140737488351232) :
    Calls Try.prog 7 #[.string a, .string b, .string c] W fun e w' => e = .returned (.bool true) ∧ Below W.heap.size W w' := lawLinear a b c W h1 h2 h3
end Go.Proofs.Ythejhofnoolpcaa
