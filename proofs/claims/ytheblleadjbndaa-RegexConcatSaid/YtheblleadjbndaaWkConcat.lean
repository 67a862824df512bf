/- RegexConcat's walk, as the row asks for it. -/
import Derived.Test.YtheblleadjbndaaWConcat
namespace Go.Proofs.Ytheblleadjbndaa
open Go.RowKit in
theorem wkConcat (p q s : ByteArray) (W : World) (hp : p.size ≤ 140737488351232) (hq : q.size ≤ 140737488351232) (_ : s.size ≤ 140737488351232) : Calls Try.prog 6 #[.string p, .string q, .string s] W fun e w' => e = .returned (.bool true) ∧ Below W.heap.size W w' := concat_walk p q s W hp hq
end Go.Proofs.Ytheblleadjbndaa
