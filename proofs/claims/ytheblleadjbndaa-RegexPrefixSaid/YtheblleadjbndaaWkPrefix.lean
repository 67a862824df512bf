/- RegexPrefix's walk, as the row asks for it. -/
import Derived.Test.YtheblleadjbndaaWPrefix
namespace Go.Proofs.Ytheblleadjbndaa
open Go.RowKit in
theorem wkPrefix (p s : ByteArray) (W : World) (_ : p.size ≤ 140737488351232) (_ : s.size ≤ 140737488351232) : Calls Try.prog 9 #[.string p, .string s] W fun e w' => e = .returned (.bool true) ∧ Below W.heap.size W w' := prefix_walk p s W
end Go.Proofs.Ytheblleadjbndaa
