/- RegexStar's walk, as the row asks for it. -/
import Derived.Test.YtheblleadjbndaaWStar
namespace Go.Proofs.Ytheblleadjbndaa
open Go.RowKit in
theorem wkStar (p s : ByteArray) (W : World) (hp : p.size ≤ 140737488351232) (_ : s.size ≤ 140737488351232) : Calls Try.prog 7 #[.string p, .string s] W fun e w' => e = .returned (.bool true) ∧ Below W.heap.size W w' := star_walk p s W hp
end Go.Proofs.Ytheblleadjbndaa
