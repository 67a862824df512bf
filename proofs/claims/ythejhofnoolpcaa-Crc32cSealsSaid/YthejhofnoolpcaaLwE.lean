/- The walks of the laws Sum, Combine, Open as the rows hand their arguments over. -/
import Derived.Test.YthejhofnoolpcaaLwA
namespace Go.Proofs.Ythejhofnoolpcaa
open Go.RowKit Crc

theorem wfb {k : IntKind} {a : Int} (h : (Lit.int k a).wf = true) : k.min ≤ a ∧ a ≤ k.max := by
  unfold Lit.wf at h
  simpa using h
theorem wf32 {a : Int} (h : (Lit.int .u32 a).wf = true) : ∃ x, a = u x := by
  have h := wfb h
  rw [show IntKind.u32.min = 0 from rfl, show IntKind.u32.max = 4294967295 from rfl] at h
  exact u_of h.1 (by omega)
theorem wf64 {a : Int} (h : (Lit.int .i64 a).wf = true) : -9223372036854775808 ≤ a ∧ a ≤ 9223372036854775807 := by
  have h := wfb h
  rw [show IntKind.i64.min = -9223372036854775808 from rfl, show IntKind.i64.max = 9223372036854775807 from rfl] at h
  exact h
theorem wkSum (a : Int) (s : ByteArray) (W : World) (h : (Lit.int .u32 a).wf = true) (hs : s.size ≤ 140737488351232) :
    Calls Try.prog 3 #[.int .u32 a, .string s] W fun e w' => e = .returned (.bool true) ∧ Below W.heap.size W w' := by
  obtain ⟨x, rfl⟩ := wf32 h
  exact lawSum x s hs W
theorem wkCombine (a b n : Int) (W : World) (h : (Lit.int .u32 a).wf = true) (h2 : (Lit.int .u32 b).wf = true) (h3 : (Lit.int .i64 n).wf = true) :
    Calls Try.prog 4 #[.int .u32 a, .int .u32 b, .int .i64 n] W fun e w' => e = .returned (.bool true) ∧ Below W.heap.size W w' := by
  obtain ⟨x, rfl⟩ := wf32 h
  obtain ⟨y, rfl⟩ := wf32 h2
  exact lawCombine x y n (wf64 h3).1 (wf64 h3).2 W
theorem wkOpen (s : ByteArray) (W : World) (hs : s.size ≤ 140737488351232) :
    Calls Try.prog 5 #[.string s] W fun e w' => e = .returned (.bool true) ∧ Below W.heap.size W w' := lawOpen s hs W
end Go.Proofs.Ythejhofnoolpcaa
