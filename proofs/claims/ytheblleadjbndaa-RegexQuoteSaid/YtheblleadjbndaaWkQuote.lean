/- RegexQuote's walk, as the row asks for it. -/
import Derived.Test.YtheblleadjbndaaWQuote
namespace Go.Proofs.Ytheblleadjbndaa
open Go.RowKit in
theorem wkQuote (s t : ByteArray) (W : World) (_ : s.size ≤ 140737488351232) (_ : t.size ≤ 140737488351232) : Calls Try.prog 11 #[.string s, .string t] W fun e w' => e = .returned (.bool true) ∧ Below W.heap.size W w' := quote_walk s t W
end Go.Proofs.Ytheblleadjbndaa
