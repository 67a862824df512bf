/- RegexLeftmost's walk, as the row asks for it. -/
import Derived.Test.YtheblleadjbndaaWLeft
namespace Go.Proofs.Ytheblleadjbndaa
open Go.RowKit in
theorem wkLeftmost (p s : ByteArray) (W : World) (_ : p.size ≤ 140737488351232) (_ : s.size ≤ 140737488351232) : Calls Try.prog 8 #[.string p, .string s] W fun e w' => e = .returned (.bool true) ∧ Below W.heap.size W w' := leftmost_walk p s W
end Go.Proofs.Ytheblleadjbndaa
