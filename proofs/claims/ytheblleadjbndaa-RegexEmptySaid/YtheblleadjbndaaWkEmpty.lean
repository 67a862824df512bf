/- RegexEmpty's walk, as the row asks for it. -/
import Derived.Test.YtheblleadjbndaaWEmpty
namespace Go.Proofs.Ytheblleadjbndaa
open Go.RowKit in
theorem wkEmpty (p q s : ByteArray) (W : World) (_ : p.size ≤ 140737488351232) (_ : q.size ≤ 140737488351232) (_ : s.size ≤ 140737488351232) : Calls Try.prog 12 #[.string p, .string q, .string s] W fun e w' => e = .returned (.bool true) ∧ Below W.heap.size W w' := empty_walk p q s W
end Go.Proofs.Ytheblleadjbndaa
