/-
  No cell of these rows narrows 'for every input' (looked for: loops, veiled, ifaces, maps, wideKeys, modest, calm, conditions, laid).
  DERIVED. THE GIVEN ROWS OF THIS SEAT. 10 by the template 'for every input the law returns true; each argument reads behind the call as it read before'; 0 by the template 'total and deterministic' (their statements: YtheblleadjbndaaTotals.lean).
  GIVEN WITH THE SEED: the statements are not yours to turn. If you find one false, say at which input.
  Laid BY PROGRAM, IN A SANDBOX (cutbox-rows.mjs): the forced cells as the released guide's own fill.sh prints them over the translation b516c19b364514d0… (all of the seat's roots in one cut). By AI agents, Wed Nov 11 2026. No macro, syntax, notation, axiom, sorry.
-/
import Derived.Test.YtheblleadjbndaaChecked
import GoSem.Claim
import GoSem.ClaimJoined
import GoSem.ClaimMapViews
import Derived.JoinedTies
import Derived.KernelRfl
namespace Go.Proofs.Ytheblleadjbndaa
/- THE CELL 'sum', in the pinned program and in every row, IS THE sha256 OF THE DUMP (.gsa) THAT YtheblleadjbndaaProg.lean LOADS. Nothing in Lean hashes anything: it is a label: what it is worth is what the hold of that sum in a sandbox is worth. -/
noncomputable def Try.pinned : Pinned := { name := "ytheblleadjbndaa", sum := "b516c19b364514d0ee0799efb2e034252e61a69845310bc231d303f89ff105da", checked := Try.checked }
namespace Rows
def none {H : Type} : Left H := { results := [], args := [] }

/-- 'lookoutlaw06.RegexMatch': WHATEVER THE INPUT: true; the input reads as it did. -/
def regexMatchSpec : ChangeSpec := { name := "regexMatch", fn := fun _ => fun
  | [d1, d2] => { results := [.lit (.bool true)], args := [d1, d2] }
  | _ => none }
def regexMatchRow : OpenClaim := { program := "ytheblleadjbndaa", sum := "b516c19b364514d0ee0799efb2e034252e61a69845310bc231d303f89ff105da", func := "lookout/lookoutlaw06.RegexMatch", spec := "regexMatch", inPlace := ["internal/bytealg.IndexByteString"], unfollowed := true, recurses := true, apart := false }
def RegexMatchSaid : Prop := regexMatchRow.holds Try.pinned (OpenSpec.ofChange regexMatchSpec)

/-- ITS FALSE NEIGHBOUR: 'it returns false'. Refute it at one input. -/
def regexMatchWrong : ChangeSpec := { name := "regexMatch", fn := fun _ => fun
  | [d1, d2] => { results := [.lit (.bool false)], args := [d1, d2] }
  | _ => none }
def RegexMatchWrongFalsely : Prop := regexMatchRow.holds Try.pinned (OpenSpec.ofChange regexMatchWrong)

/-- 'lookoutlaw06.RegexFind': WHATEVER THE INPUT: true; the input reads as it did. -/
def regexFindSpec : ChangeSpec := { name := "regexFind", fn := fun _ => fun
  | [d1, d2] => { results := [.lit (.bool true)], args := [d1, d2] }
  | _ => none }
def regexFindRow : OpenClaim := { program := "ytheblleadjbndaa", sum := "b516c19b364514d0ee0799efb2e034252e61a69845310bc231d303f89ff105da", func := "lookout/lookoutlaw06.RegexFind", spec := "regexFind", inPlace := ["internal/bytealg.IndexByteString"], unfollowed := true, recurses := true, apart := false }
def RegexFindSaid : Prop := regexFindRow.holds Try.pinned (OpenSpec.ofChange regexFindSpec)

/-- ITS FALSE NEIGHBOUR: 'it returns false'. Refute it at one input. -/
def regexFindWrong : ChangeSpec := { name := "regexFind", fn := fun _ => fun
  | [d1, d2] => { results := [.lit (.bool false)], args := [d1, d2] }
  | _ => none }
def RegexFindWrongFalsely : Prop := regexFindRow.holds Try.pinned (OpenSpec.ofChange regexFindWrong)

/-- 'lookoutlaw06.RegexEither': WHATEVER THE INPUT: true; the input reads as it did. -/
def regexEitherSpec : ChangeSpec := { name := "regexEither", fn := fun _ => fun
  | [d1, d2, d3] => { results := [.lit (.bool true)], args := [d1, d2, d3] }
  | _ => none }
def regexEitherRow : OpenClaim := { program := "ytheblleadjbndaa", sum := "b516c19b364514d0ee0799efb2e034252e61a69845310bc231d303f89ff105da", func := "lookout/lookoutlaw06.RegexEither", spec := "regexEither", inPlace := ["internal/bytealg.IndexByteString"], unfollowed := true, recurses := true, apart := false }
def RegexEitherSaid : Prop := regexEitherRow.holds Try.pinned (OpenSpec.ofChange regexEitherSpec)

/-- ITS FALSE NEIGHBOUR: 'it returns false'. Refute it at one input. -/
def regexEitherWrong : ChangeSpec := { name := "regexEither", fn := fun _ => fun
  | [d1, d2, d3] => { results := [.lit (.bool false)], args := [d1, d2, d3] }
  | _ => none }
def RegexEitherWrongFalsely : Prop := regexEitherRow.holds Try.pinned (OpenSpec.ofChange regexEitherWrong)

/-- 'lookoutlaw06.RegexConcat': WHATEVER THE INPUT: true; the input reads as it did. -/
def regexConcatSpec : ChangeSpec := { name := "regexConcat", fn := fun _ => fun
  | [d1, d2, d3] => { results := [.lit (.bool true)], args := [d1, d2, d3] }
  | _ => none }
def regexConcatRow : OpenClaim := { program := "ytheblleadjbndaa", sum := "b516c19b364514d0ee0799efb2e034252e61a69845310bc231d303f89ff105da", func := "lookout/lookoutlaw06.RegexConcat", spec := "regexConcat", inPlace := ["internal/bytealg.IndexByteString"], unfollowed := true, recurses := true, apart := false }
def RegexConcatSaid : Prop := regexConcatRow.holds Try.pinned (OpenSpec.ofChange regexConcatSpec)

/-- ITS FALSE NEIGHBOUR: 'it returns false'. Refute it at one input. -/
def regexConcatWrong : ChangeSpec := { name := "regexConcat", fn := fun _ => fun
  | [d1, d2, d3] => { results := [.lit (.bool false)], args := [d1, d2, d3] }
  | _ => none }
def RegexConcatWrongFalsely : Prop := regexConcatRow.holds Try.pinned (OpenSpec.ofChange regexConcatWrong)

/-- 'lookoutlaw06.RegexStar': WHATEVER THE INPUT: true; the input reads as it did. -/
def regexStarSpec : ChangeSpec := { name := "regexStar", fn := fun _ => fun
  | [d1, d2] => { results := [.lit (.bool true)], args := [d1, d2] }
  | _ => none }
def regexStarRow : OpenClaim := { program := "ytheblleadjbndaa", sum := "b516c19b364514d0ee0799efb2e034252e61a69845310bc231d303f89ff105da", func := "lookout/lookoutlaw06.RegexStar", spec := "regexStar", inPlace := ["internal/bytealg.IndexByteString"], unfollowed := true, recurses := true, apart := false }
def RegexStarSaid : Prop := regexStarRow.holds Try.pinned (OpenSpec.ofChange regexStarSpec)

/-- ITS FALSE NEIGHBOUR: 'it returns false'. Refute it at one input. -/
def regexStarWrong : ChangeSpec := { name := "regexStar", fn := fun _ => fun
  | [d1, d2] => { results := [.lit (.bool false)], args := [d1, d2] }
  | _ => none }
def RegexStarWrongFalsely : Prop := regexStarRow.holds Try.pinned (OpenSpec.ofChange regexStarWrong)

/-- 'lookoutlaw06.RegexLeftmost': WHATEVER THE INPUT: true; the input reads as it did. -/
def regexLeftmostSpec : ChangeSpec := { name := "regexLeftmost", fn := fun _ => fun
  | [d1, d2] => { results := [.lit (.bool true)], args := [d1, d2] }
  | _ => none }
def regexLeftmostRow : OpenClaim := { program := "ytheblleadjbndaa", sum := "b516c19b364514d0ee0799efb2e034252e61a69845310bc231d303f89ff105da", func := "lookout/lookoutlaw06.RegexLeftmost", spec := "regexLeftmost", inPlace := ["internal/bytealg.IndexByteString"], unfollowed := true, recurses := true, apart := false }
def RegexLeftmostSaid : Prop := regexLeftmostRow.holds Try.pinned (OpenSpec.ofChange regexLeftmostSpec)

/-- ITS FALSE NEIGHBOUR: 'it returns false'. Refute it at one input. -/
def regexLeftmostWrong : ChangeSpec := { name := "regexLeftmost", fn := fun _ => fun
  | [d1, d2] => { results := [.lit (.bool false)], args := [d1, d2] }
  | _ => none }
def RegexLeftmostWrongFalsely : Prop := regexLeftmostRow.holds Try.pinned (OpenSpec.ofChange regexLeftmostWrong)

/-- 'lookoutlaw06.RegexPrefix': WHATEVER THE INPUT: true; the input reads as it did. -/
def regexPrefixSpec : ChangeSpec := { name := "regexPrefix", fn := fun _ => fun
  | [d1, d2] => { results := [.lit (.bool true)], args := [d1, d2] }
  | _ => none }
def regexPrefixRow : OpenClaim := { program := "ytheblleadjbndaa", sum := "b516c19b364514d0ee0799efb2e034252e61a69845310bc231d303f89ff105da", func := "lookout/lookoutlaw06.RegexPrefix", spec := "regexPrefix", inPlace := ["internal/bytealg.IndexByteString"], unfollowed := true, recurses := true, apart := false }
def RegexPrefixSaid : Prop := regexPrefixRow.holds Try.pinned (OpenSpec.ofChange regexPrefixSpec)

/-- ITS FALSE NEIGHBOUR: 'it returns false'. Refute it at one input. -/
def regexPrefixWrong : ChangeSpec := { name := "regexPrefix", fn := fun _ => fun
  | [d1, d2] => { results := [.lit (.bool false)], args := [d1, d2] }
  | _ => none }
def RegexPrefixWrongFalsely : Prop := regexPrefixRow.holds Try.pinned (OpenSpec.ofChange regexPrefixWrong)

/-- 'lookoutlaw06.RegexCheck': WHATEVER THE INPUT: true; the input reads as it did. -/
def regexCheckSpec : ChangeSpec := { name := "regexCheck", fn := fun _ => fun
  | [d] => { results := [.lit (.bool true)], args := [d] }
  | _ => none }
def regexCheckRow : OpenClaim := { program := "ytheblleadjbndaa", sum := "b516c19b364514d0ee0799efb2e034252e61a69845310bc231d303f89ff105da", func := "lookout/lookoutlaw06.RegexCheck", spec := "regexCheck", inPlace := ["internal/bytealg.IndexByteString"], unfollowed := true, recurses := true, apart := false }
def RegexCheckSaid : Prop := regexCheckRow.holds Try.pinned (OpenSpec.ofChange regexCheckSpec)

/-- ITS FALSE NEIGHBOUR: 'it returns false'. Refute it at one input. -/
def regexCheckWrong : ChangeSpec := { name := "regexCheck", fn := fun _ => fun
  | [d] => { results := [.lit (.bool false)], args := [d] }
  | _ => none }
def RegexCheckWrongFalsely : Prop := regexCheckRow.holds Try.pinned (OpenSpec.ofChange regexCheckWrong)

/-- 'lookoutlaw06.RegexQuote': WHATEVER THE INPUT: true; the input reads as it did. -/
def regexQuoteSpec : ChangeSpec := { name := "regexQuote", fn := fun _ => fun
  | [d1, d2] => { results := [.lit (.bool true)], args := [d1, d2] }
  | _ => none }
def regexQuoteRow : OpenClaim := { program := "ytheblleadjbndaa", sum := "b516c19b364514d0ee0799efb2e034252e61a69845310bc231d303f89ff105da", func := "lookout/lookoutlaw06.RegexQuote", spec := "regexQuote", inPlace := ["internal/bytealg.IndexByteString"], unfollowed := true, recurses := true, apart := false }
def RegexQuoteSaid : Prop := regexQuoteRow.holds Try.pinned (OpenSpec.ofChange regexQuoteSpec)

/-- ITS FALSE NEIGHBOUR: 'it returns false'. Refute it at one input. -/
def regexQuoteWrong : ChangeSpec := { name := "regexQuote", fn := fun _ => fun
  | [d1, d2] => { results := [.lit (.bool false)], args := [d1, d2] }
  | _ => none }
def RegexQuoteWrongFalsely : Prop := regexQuoteRow.holds Try.pinned (OpenSpec.ofChange regexQuoteWrong)

/-- 'lookoutlaw06.RegexEmpty': WHATEVER THE INPUT: true; the input reads as it did. -/
def regexEmptySpec : ChangeSpec := { name := "regexEmpty", fn := fun _ => fun
  | [d1, d2, d3] => { results := [.lit (.bool true)], args := [d1, d2, d3] }
  | _ => none }
def regexEmptyRow : OpenClaim := { program := "ytheblleadjbndaa", sum := "b516c19b364514d0ee0799efb2e034252e61a69845310bc231d303f89ff105da", func := "lookout/lookoutlaw06.RegexEmpty", spec := "regexEmpty", inPlace := ["internal/bytealg.IndexByteString"], unfollowed := true, recurses := true, apart := false }
def RegexEmptySaid : Prop := regexEmptyRow.holds Try.pinned (OpenSpec.ofChange regexEmptySpec)

/-- ITS FALSE NEIGHBOUR: 'it returns false'. Refute it at one input. -/
def regexEmptyWrong : ChangeSpec := { name := "regexEmpty", fn := fun _ => fun
  | [d1, d2, d3] => { results := [.lit (.bool false)], args := [d1, d2, d3] }
  | _ => none }
def RegexEmptyWrongFalsely : Prop := regexEmptyRow.holds Try.pinned (OpenSpec.ofChange regexEmptyWrong)

/- THE SECOND FORM. 'bulk': how many values and letters a reading holds, each counted each time it is reached (what is shared counts as often as it is met; a slice's spare places count too). A statement '..UptoSaid' is the law's where the arguments, and the package variables that the reading takes, are together of bulk at most 1048576: NARROWER than '..Said'. Prove '..Said' where nothing that the law and all that it calls make is longer than what came in: it says more and counts as full. Else prove '..UptoSaid'. A law counts once. -/
mutual
def uptoBulk {H : Type} : DataW H → Nat
  | .lit (.string bytes) => bytes.length + 1
  | .lit _ => 1
  | .nil => 1
  | .ptr d => uptoBulk d + 1
  | .slice elems spare => uptoBulkAll elems + uptoBulkAll spare + 1
  | .agg parts => uptoBulkAll parts + 1
  | .iface _ d => uptoBulk d + 1
  | .map entries => uptoBulkEntries entries + 1
  | .held _ => 1
def uptoBulkAll {H : Type} : List (DataW H) → Nat
  | [] => 0
  | d :: r => uptoBulk d + uptoBulkAll r
def uptoBulkEntries {H : Type} : List (Lit × DataW H) → Nat
  | [] => 0
  | x :: r => uptoBulkEntry x + uptoBulkEntries r
def uptoBulkEntry {H : Type} : Lit × DataW H → Nat
  | (.string bytes, d) => bytes.length + uptoBulk d + 1
  | (_, d) => uptoBulk d + 1
 end
def uptoSmall : (H : Type) → List (DataW H) → Bool := fun _ ds => decide (uptoBulkAll ds ≤ 1048576)
def OpenSpec.upto (s : _root_.Go.ChangeSpec) : _root_.Go.OpenSpec := { _root_.Go.OpenSpec.ofChange s with cond := some uptoSmall }

/-- 'lookoutlaw06.RegexMatch', WHERE WHAT IT READS IS OF BULK AT MOST 1048576: true; the input reads as it did. -/
def regexMatchUptoRow : OpenClaim := { program := "ytheblleadjbndaa", sum := "b516c19b364514d0ee0799efb2e034252e61a69845310bc231d303f89ff105da", func := "lookout/lookoutlaw06.RegexMatch", spec := "regexMatch", inPlace := ["internal/bytealg.IndexByteString"], unfollowed := true, recurses := true, apart := false, narrowed := true }
def RegexMatchUptoSaid : Prop := regexMatchUptoRow.holds Try.pinned (OpenSpec.upto regexMatchSpec)

/-- 'lookoutlaw06.RegexFind', WHERE WHAT IT READS IS OF BULK AT MOST 1048576: true; the input reads as it did. -/
def regexFindUptoRow : OpenClaim := { program := "ytheblleadjbndaa", sum := "b516c19b364514d0ee0799efb2e034252e61a69845310bc231d303f89ff105da", func := "lookout/lookoutlaw06.RegexFind", spec := "regexFind", inPlace := ["internal/bytealg.IndexByteString"], unfollowed := true, recurses := true, apart := false, narrowed := true }
def RegexFindUptoSaid : Prop := regexFindUptoRow.holds Try.pinned (OpenSpec.upto regexFindSpec)

/-- 'lookoutlaw06.RegexEither', WHERE WHAT IT READS IS OF BULK AT MOST 1048576: true; the input reads as it did. -/
def regexEitherUptoRow : OpenClaim := { program := "ytheblleadjbndaa", sum := "b516c19b364514d0ee0799efb2e034252e61a69845310bc231d303f89ff105da", func := "lookout/lookoutlaw06.RegexEither", spec := "regexEither", inPlace := ["internal/bytealg.IndexByteString"], unfollowed := true, recurses := true, apart := false, narrowed := true }
def RegexEitherUptoSaid : Prop := regexEitherUptoRow.holds Try.pinned (OpenSpec.upto regexEitherSpec)

/-- 'lookoutlaw06.RegexConcat', WHERE WHAT IT READS IS OF BULK AT MOST 1048576: true; the input reads as it did. -/
def regexConcatUptoRow : OpenClaim := { program := "ytheblleadjbndaa", sum := "b516c19b364514d0ee0799efb2e034252e61a69845310bc231d303f89ff105da", func := "lookout/lookoutlaw06.RegexConcat", spec := "regexConcat", inPlace := ["internal/bytealg.IndexByteString"], unfollowed := true, recurses := true, apart := false, narrowed := true }
def RegexConcatUptoSaid : Prop := regexConcatUptoRow.holds Try.pinned (OpenSpec.upto regexConcatSpec)

/-- 'lookoutlaw06.RegexStar', WHERE WHAT IT READS IS OF BULK AT MOST 1048576: true; the input reads as it did. -/
def regexStarUptoRow : OpenClaim := { program := "ytheblleadjbndaa", sum := "b516c19b364514d0ee0799efb2e034252e61a69845310bc231d303f89ff105da", func := "lookout/lookoutlaw06.RegexStar", spec := "regexStar", inPlace := ["internal/bytealg.IndexByteString"], unfollowed := true, recurses := true, apart := false, narrowed := true }
def RegexStarUptoSaid : Prop := regexStarUptoRow.holds Try.pinned (OpenSpec.upto regexStarSpec)

/-- 'lookoutlaw06.RegexLeftmost', WHERE WHAT IT READS IS OF BULK AT MOST 1048576: true; the input reads as it did. -/
def regexLeftmostUptoRow : OpenClaim := { program := "ytheblleadjbndaa", sum := "b516c19b364514d0ee0799efb2e034252e61a69845310bc231d303f89ff105da", func := "lookout/lookoutlaw06.RegexLeftmost", spec := "regexLeftmost", inPlace := ["internal/bytealg.IndexByteString"], unfollowed := true, recurses := true, apart := false, narrowed := true }
def RegexLeftmostUptoSaid : Prop := regexLeftmostUptoRow.holds Try.pinned (OpenSpec.upto regexLeftmostSpec)

/-- 'lookoutlaw06.RegexPrefix', WHERE WHAT IT READS IS OF BULK AT MOST 1048576: true; the input reads as it did. -/
def regexPrefixUptoRow : OpenClaim := { program := "ytheblleadjbndaa", sum := "b516c19b364514d0ee0799efb2e034252e61a69845310bc231d303f89ff105da", func := "lookout/lookoutlaw06.RegexPrefix", spec := "regexPrefix", inPlace := ["internal/bytealg.IndexByteString"], unfollowed := true, recurses := true, apart := false, narrowed := true }
def RegexPrefixUptoSaid : Prop := regexPrefixUptoRow.holds Try.pinned (OpenSpec.upto regexPrefixSpec)

/-- 'lookoutlaw06.RegexCheck', WHERE WHAT IT READS IS OF BULK AT MOST 1048576: true; the input reads as it did. -/
def regexCheckUptoRow : OpenClaim := { program := "ytheblleadjbndaa", sum := "b516c19b364514d0ee0799efb2e034252e61a69845310bc231d303f89ff105da", func := "lookout/lookoutlaw06.RegexCheck", spec := "regexCheck", inPlace := ["internal/bytealg.IndexByteString"], unfollowed := true, recurses := true, apart := false, narrowed := true }
def RegexCheckUptoSaid : Prop := regexCheckUptoRow.holds Try.pinned (OpenSpec.upto regexCheckSpec)

/-- 'lookoutlaw06.RegexQuote', WHERE WHAT IT READS IS OF BULK AT MOST 1048576: true; the input reads as it did. -/
def regexQuoteUptoRow : OpenClaim := { program := "ytheblleadjbndaa", sum := "b516c19b364514d0ee0799efb2e034252e61a69845310bc231d303f89ff105da", func := "lookout/lookoutlaw06.RegexQuote", spec := "regexQuote", inPlace := ["internal/bytealg.IndexByteString"], unfollowed := true, recurses := true, apart := false, narrowed := true }
def RegexQuoteUptoSaid : Prop := regexQuoteUptoRow.holds Try.pinned (OpenSpec.upto regexQuoteSpec)

/-- 'lookoutlaw06.RegexEmpty', WHERE WHAT IT READS IS OF BULK AT MOST 1048576: true; the input reads as it did. -/
def regexEmptyUptoRow : OpenClaim := { program := "ytheblleadjbndaa", sum := "b516c19b364514d0ee0799efb2e034252e61a69845310bc231d303f89ff105da", func := "lookout/lookoutlaw06.RegexEmpty", spec := "regexEmpty", inPlace := ["internal/bytealg.IndexByteString"], unfollowed := true, recurses := true, apart := false, narrowed := true }
def RegexEmptyUptoSaid : Prop := regexEmptyUptoRow.holds Try.pinned (OpenSpec.upto regexEmptySpec)

end Rows
end Go.Proofs.Ytheblleadjbndaa
