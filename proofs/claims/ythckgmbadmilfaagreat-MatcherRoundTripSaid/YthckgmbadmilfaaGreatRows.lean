/-
  No cell of these rows narrows 'for every input' (looked for: loops, veiled, ifaces, maps, wideKeys, modest, calm, conditions, laid).
  DERIVED. THE GIVEN ROWS OF THIS SEAT. 9 by the template 'for every input the law returns true; each argument reads behind the call as it read before'; 0 by the template 'total and deterministic' (their statements: YthckgmbadmilfaaGreatTotals.lean).
  GIVEN WITH THE SEED: the statements are not yours to turn. If you find one false, say at which input.
  Laid BY PROGRAM, IN A SANDBOX (cutbox-rows.mjs): the forced cells as the released guide's own fill.sh prints them over the translation 00362265698cb1ca… (all of the seat's roots in one cut). By AI agents, Wed Nov 11 2026. No macro, syntax, notation, axiom, sorry.
-/
import Derived.Test.YthckgmbadmilfaaGreatChecked
import GoSem.Claim
import GoSem.ClaimJoined
import GoSem.ClaimMapViews
import Derived.JoinedTies
import Derived.KernelRfl
namespace Go.Proofs.YthckgmbadmilfaaGreat
/- THE CELL 'sum', in the pinned program and in every row, IS THE sha256 OF THE DUMP (.gsa) THAT YthckgmbadmilfaaGreatProg.lean LOADS. Nothing in Lean hashes anything: it is a label: what it is worth is what the hold of that sum in a sandbox is worth. -/
noncomputable def Tryz.pinned : Pinned := { name := "ythckgmbadmilfaagreat", sum := "00362265698cb1ca6291f466b9f051f992165cde8d11e5286ea1779b2632f192", checked := Tryz.checked }
namespace Rows
def none {H : Type} : Left H := { results := [], args := [] }

/-- 'lookoutlaw07.MatcherText': WHATEVER THE INPUT: true; the input reads as it did. -/
def matcherTextSpec : ChangeSpec := { name := "matcherText", fn := fun _ => fun
  | [d1, d2] => { results := [.lit (.bool true)], args := [d1, d2] }
  | _ => none }
def matcherTextRow : OpenClaim := { program := "ythckgmbadmilfaagreat", sum := "00362265698cb1ca6291f466b9f051f992165cde8d11e5286ea1779b2632f192", func := "lookout/lookoutlaw07.MatcherText", spec := "matcherText", inPlace := ["internal/bytealg.IndexByteString"], unfollowed := true, recurses := true, apart := false }
def MatcherTextSaid : Prop := matcherTextRow.holds Tryz.pinned (OpenSpec.ofChange matcherTextSpec)

/-- ITS FALSE NEIGHBOUR: 'it returns false'. Refute it at one input. -/
def matcherTextWrong : ChangeSpec := { name := "matcherText", fn := fun _ => fun
  | [d1, d2] => { results := [.lit (.bool false)], args := [d1, d2] }
  | _ => none }
def MatcherTextWrongFalsely : Prop := matcherTextRow.holds Tryz.pinned (OpenSpec.ofChange matcherTextWrong)

/-- 'lookoutlaw07.MatcherSame': WHATEVER THE INPUT: true; the input reads as it did. -/
def matcherSameSpec : ChangeSpec := { name := "matcherSame", fn := fun _ => fun
  | [d1, d2] => { results := [.lit (.bool true)], args := [d1, d2] }
  | _ => none }
def matcherSameRow : OpenClaim := { program := "ythckgmbadmilfaagreat", sum := "00362265698cb1ca6291f466b9f051f992165cde8d11e5286ea1779b2632f192", func := "lookout/lookoutlaw07.MatcherSame", spec := "matcherSame", inPlace := ["internal/bytealg.IndexByteString"], unfollowed := true, recurses := true, apart := false }
def MatcherSameSaid : Prop := matcherSameRow.holds Tryz.pinned (OpenSpec.ofChange matcherSameSpec)

/-- ITS FALSE NEIGHBOUR: 'it returns false'. Refute it at one input. -/
def matcherSameWrong : ChangeSpec := { name := "matcherSame", fn := fun _ => fun
  | [d1, d2] => { results := [.lit (.bool false)], args := [d1, d2] }
  | _ => none }
def MatcherSameWrongFalsely : Prop := matcherSameRow.holds Tryz.pinned (OpenSpec.ofChange matcherSameWrong)

/-- 'lookoutlaw07.MatcherRoundTrip': WHATEVER THE INPUT: true; the input reads as it did. -/
def matcherRoundTripSpec : ChangeSpec := { name := "matcherRoundTrip", fn := fun _ => fun
  | [d1, d2] => { results := [.lit (.bool true)], args := [d1, d2] }
  | _ => none }
def matcherRoundTripRow : OpenClaim := { program := "ythckgmbadmilfaagreat", sum := "00362265698cb1ca6291f466b9f051f992165cde8d11e5286ea1779b2632f192", func := "lookout/lookoutlaw07.MatcherRoundTrip", spec := "matcherRoundTrip", inPlace := ["internal/bytealg.IndexByteString"], unfollowed := true, recurses := true, apart := false }
def MatcherRoundTripSaid : Prop := matcherRoundTripRow.holds Tryz.pinned (OpenSpec.ofChange matcherRoundTripSpec)

/-- ITS FALSE NEIGHBOUR: 'it returns false'. Refute it at one input. -/
def matcherRoundTripWrong : ChangeSpec := { name := "matcherRoundTrip", fn := fun _ => fun
  | [d1, d2] => { results := [.lit (.bool false)], args := [d1, d2] }
  | _ => none }
def MatcherRoundTripWrongFalsely : Prop := matcherRoundTripRow.holds Tryz.pinned (OpenSpec.ofChange matcherRoundTripWrong)

/-- 'lookoutlaw07.MatcherOrder': WHATEVER THE INPUT: true; the input reads as it did. -/
def matcherOrderSpec : ChangeSpec := { name := "matcherOrder", fn := fun _ => fun
  | [d1, d2, d3] => { results := [.lit (.bool true)], args := [d1, d2, d3] }
  | _ => none }
def matcherOrderRow : OpenClaim := { program := "ythckgmbadmilfaagreat", sum := "00362265698cb1ca6291f466b9f051f992165cde8d11e5286ea1779b2632f192", func := "lookout/lookoutlaw07.MatcherOrder", spec := "matcherOrder", inPlace := ["internal/bytealg.IndexByteString"], unfollowed := true, recurses := true, apart := false }
def MatcherOrderSaid : Prop := matcherOrderRow.holds Tryz.pinned (OpenSpec.ofChange matcherOrderSpec)

/-- ITS FALSE NEIGHBOUR: 'it returns false'. Refute it at one input. -/
def matcherOrderWrong : ChangeSpec := { name := "matcherOrder", fn := fun _ => fun
  | [d1, d2, d3] => { results := [.lit (.bool false)], args := [d1, d2, d3] }
  | _ => none }
def MatcherOrderWrongFalsely : Prop := matcherOrderRow.holds Tryz.pinned (OpenSpec.ofChange matcherOrderWrong)

/-- 'lookoutlaw07.MatcherMatches': WHATEVER THE INPUT: true; the input reads as it did. -/
def matcherMatchesSpec : ChangeSpec := { name := "matcherMatches", fn := fun _ => fun
  | [d1, d2, d3] => { results := [.lit (.bool true)], args := [d1, d2, d3] }
  | _ => none }
def matcherMatchesRow : OpenClaim := { program := "ythckgmbadmilfaagreat", sum := "00362265698cb1ca6291f466b9f051f992165cde8d11e5286ea1779b2632f192", func := "lookout/lookoutlaw07.MatcherMatches", spec := "matcherMatches", inPlace := ["internal/bytealg.IndexByteString"], unfollowed := true, recurses := true, apart := false }
def MatcherMatchesSaid : Prop := matcherMatchesRow.holds Tryz.pinned (OpenSpec.ofChange matcherMatchesSpec)

/-- ITS FALSE NEIGHBOUR: 'it returns false'. Refute it at one input. -/
def matcherMatchesWrong : ChangeSpec := { name := "matcherMatches", fn := fun _ => fun
  | [d1, d2, d3] => { results := [.lit (.bool false)], args := [d1, d2, d3] }
  | _ => none }
def MatcherMatchesWrongFalsely : Prop := matcherMatchesRow.holds Tryz.pinned (OpenSpec.ofChange matcherMatchesWrong)

/-- 'lookoutlaw07.MatcherNegate': WHATEVER THE INPUT: true; the input reads as it did. -/
def matcherNegateSpec : ChangeSpec := { name := "matcherNegate", fn := fun _ => fun
  | [d1, d2] => { results := [.lit (.bool true)], args := [d1, d2] }
  | _ => none }
def matcherNegateRow : OpenClaim := { program := "ythckgmbadmilfaagreat", sum := "00362265698cb1ca6291f466b9f051f992165cde8d11e5286ea1779b2632f192", func := "lookout/lookoutlaw07.MatcherNegate", spec := "matcherNegate", inPlace := ["internal/bytealg.IndexByteString"], unfollowed := true, recurses := true, apart := false }
def MatcherNegateSaid : Prop := matcherNegateRow.holds Tryz.pinned (OpenSpec.ofChange matcherNegateSpec)

/-- ITS FALSE NEIGHBOUR: 'it returns false'. Refute it at one input. -/
def matcherNegateWrong : ChangeSpec := { name := "matcherNegate", fn := fun _ => fun
  | [d1, d2] => { results := [.lit (.bool false)], args := [d1, d2] }
  | _ => none }
def MatcherNegateWrongFalsely : Prop := matcherNegateRow.holds Tryz.pinned (OpenSpec.ofChange matcherNegateWrong)

/-- 'lookoutlaw07.MatcherSimplify': WHATEVER THE INPUT: true; the input reads as it did. -/
def matcherSimplifySpec : ChangeSpec := { name := "matcherSimplify", fn := fun _ => fun
  | [d1, d2] => { results := [.lit (.bool true)], args := [d1, d2] }
  | _ => none }
def matcherSimplifyRow : OpenClaim := { program := "ythckgmbadmilfaagreat", sum := "00362265698cb1ca6291f466b9f051f992165cde8d11e5286ea1779b2632f192", func := "lookout/lookoutlaw07.MatcherSimplify", spec := "matcherSimplify", inPlace := ["internal/bytealg.IndexByteString"], unfollowed := true, recurses := true, apart := false }
def MatcherSimplifySaid : Prop := matcherSimplifyRow.holds Tryz.pinned (OpenSpec.ofChange matcherSimplifySpec)

/-- ITS FALSE NEIGHBOUR: 'it returns false'. Refute it at one input. -/
def matcherSimplifyWrong : ChangeSpec := { name := "matcherSimplify", fn := fun _ => fun
  | [d1, d2] => { results := [.lit (.bool false)], args := [d1, d2] }
  | _ => none }
def MatcherSimplifyWrongFalsely : Prop := matcherSimplifyRow.holds Tryz.pinned (OpenSpec.ofChange matcherSimplifyWrong)

/-- 'lookoutlaw07.MatcherImplies': WHATEVER THE INPUT: true; the input reads as it did. -/
def matcherImpliesSpec : ChangeSpec := { name := "matcherImplies", fn := fun _ => fun
  | [d1, d2, d3] => { results := [.lit (.bool true)], args := [d1, d2, d3] }
  | _ => none }
def matcherImpliesRow : OpenClaim := { program := "ythckgmbadmilfaagreat", sum := "00362265698cb1ca6291f466b9f051f992165cde8d11e5286ea1779b2632f192", func := "lookout/lookoutlaw07.MatcherImplies", spec := "matcherImplies", inPlace := ["internal/bytealg.IndexByteString"], unfollowed := true, recurses := true, apart := false }
def MatcherImpliesSaid : Prop := matcherImpliesRow.holds Tryz.pinned (OpenSpec.ofChange matcherImpliesSpec)

/-- ITS FALSE NEIGHBOUR: 'it returns false'. Refute it at one input. -/
def matcherImpliesWrong : ChangeSpec := { name := "matcherImplies", fn := fun _ => fun
  | [d1, d2, d3] => { results := [.lit (.bool false)], args := [d1, d2, d3] }
  | _ => none }
def MatcherImpliesWrongFalsely : Prop := matcherImpliesRow.holds Tryz.pinned (OpenSpec.ofChange matcherImpliesWrong)

/-- 'lookoutlaw07.MatcherDecides': WHATEVER THE INPUT: true; the input reads as it did. -/
def matcherDecidesSpec : ChangeSpec := { name := "matcherDecides", fn := fun _ => fun
  | [d1, d2] => { results := [.lit (.bool true)], args := [d1, d2] }
  | _ => none }
def matcherDecidesRow : OpenClaim := { program := "ythckgmbadmilfaagreat", sum := "00362265698cb1ca6291f466b9f051f992165cde8d11e5286ea1779b2632f192", func := "lookout/lookoutlaw07.MatcherDecides", spec := "matcherDecides", inPlace := ["internal/bytealg.IndexByteString"], unfollowed := true, recurses := true, apart := false }
def MatcherDecidesSaid : Prop := matcherDecidesRow.holds Tryz.pinned (OpenSpec.ofChange matcherDecidesSpec)

/-- ITS FALSE NEIGHBOUR: 'it returns false'. Refute it at one input. -/
def matcherDecidesWrong : ChangeSpec := { name := "matcherDecides", fn := fun _ => fun
  | [d1, d2] => { results := [.lit (.bool false)], args := [d1, d2] }
  | _ => none }
def MatcherDecidesWrongFalsely : Prop := matcherDecidesRow.holds Tryz.pinned (OpenSpec.ofChange matcherDecidesWrong)

/- THE SECOND FORM. 'bulk': how many values and letters a reading holds, each counted each time it is reached (what is shared counts as often as it is met; a slice's spare places count too). A statement '..UptoSaid' is the law's where the arguments, and the package variables that the reading takes, are together of bulk at most 1048576: NARROWER than '..Said'. Prove '..Said' where nothing that the law and all that it calls make is longer than what came in: it says more and counts as full. Else prove '..UptoSaid'. A law counts once. -/
mutual
def uptoBulk {H : Type} : DataW H → Nat
  | .lit (.string bytes) => bytes.length + 1
  | .lit _ => 1
  | .nil => 1
  | .ptr d => uptoBulk d + 1
  | .slice elems spare => uptoBulkAll elems + uptoBulkAll spare + 1
  | .agg parts => uptoBulkAll parts + 1
  | .iface _ d => uptoBulk d + 1
  | .map entries => uptoBulkEntries entries + 1
  | .held _ => 1
def uptoBulkAll {H : Type} : List (DataW H) → Nat
  | [] => 0
  | d :: r => uptoBulk d + uptoBulkAll r
def uptoBulkEntries {H : Type} : List (Lit × DataW H) → Nat
  | [] => 0
  | x :: r => uptoBulkEntry x + uptoBulkEntries r
def uptoBulkEntry {H : Type} : Lit × DataW H → Nat
  | (.string bytes, d) => bytes.length + uptoBulk d + 1
  | (_, d) => uptoBulk d + 1
 end
def uptoSmall : (H : Type) → List (DataW H) → Bool := fun _ ds => decide (uptoBulkAll ds ≤ 1048576)
def OpenSpec.upto (s : _root_.Go.ChangeSpec) : _root_.Go.OpenSpec := { _root_.Go.OpenSpec.ofChange s with cond := some uptoSmall }

/-- 'lookoutlaw07.MatcherText', WHERE WHAT IT READS IS OF BULK AT MOST 1048576: true; the input reads as it did. -/
def matcherTextUptoRow : OpenClaim := { program := "ythckgmbadmilfaagreat", sum := "00362265698cb1ca6291f466b9f051f992165cde8d11e5286ea1779b2632f192", func := "lookout/lookoutlaw07.MatcherText", spec := "matcherText", inPlace := ["internal/bytealg.IndexByteString"], unfollowed := true, recurses := true, apart := false, narrowed := true }
def MatcherTextUptoSaid : Prop := matcherTextUptoRow.holds Tryz.pinned (OpenSpec.upto matcherTextSpec)

/-- 'lookoutlaw07.MatcherSame', WHERE WHAT IT READS IS OF BULK AT MOST 1048576: true; the input reads as it did. -/
def matcherSameUptoRow : OpenClaim := { program := "ythckgmbadmilfaagreat", sum := "00362265698cb1ca6291f466b9f051f992165cde8d11e5286ea1779b2632f192", func := "lookout/lookoutlaw07.MatcherSame", spec := "matcherSame", inPlace := ["internal/bytealg.IndexByteString"], unfollowed := true, recurses := true, apart := false, narrowed := true }
def MatcherSameUptoSaid : Prop := matcherSameUptoRow.holds Tryz.pinned (OpenSpec.upto matcherSameSpec)

/-- 'lookoutlaw07.MatcherRoundTrip', WHERE WHAT IT READS IS OF BULK AT MOST 1048576: true; the input reads as it did. -/
def matcherRoundTripUptoRow : OpenClaim := { program := "ythckgmbadmilfaagreat", sum := "00362265698cb1ca6291f466b9f051f992165cde8d11e5286ea1779b2632f192", func := "lookout/lookoutlaw07.MatcherRoundTrip", spec := "matcherRoundTrip", inPlace := ["internal/bytealg.IndexByteString"], unfollowed := true, recurses := true, apart := false, narrowed := true }
def MatcherRoundTripUptoSaid : Prop := matcherRoundTripUptoRow.holds Tryz.pinned (OpenSpec.upto matcherRoundTripSpec)

/-- 'lookoutlaw07.MatcherOrder', WHERE WHAT IT READS IS OF BULK AT MOST 1048576: true; the input reads as it did. -/
def matcherOrderUptoRow : OpenClaim := { program := "ythckgmbadmilfaagreat", sum := "00362265698cb1ca6291f466b9f051f992165cde8d11e5286ea1779b2632f192", func := "lookout/lookoutlaw07.MatcherOrder", spec := "matcherOrder", inPlace := ["internal/bytealg.IndexByteString"], unfollowed := true, recurses := true, apart := false, narrowed := true }
def MatcherOrderUptoSaid : Prop := matcherOrderUptoRow.holds Tryz.pinned (OpenSpec.upto matcherOrderSpec)

/-- 'lookoutlaw07.MatcherMatches', WHERE WHAT IT READS IS OF BULK AT MOST 1048576: true; the input reads as it did. -/
def matcherMatchesUptoRow : OpenClaim := { program := "ythckgmbadmilfaagreat", sum := "00362265698cb1ca6291f466b9f051f992165cde8d11e5286ea1779b2632f192", func := "lookout/lookoutlaw07.MatcherMatches", spec := "matcherMatches", inPlace := ["internal/bytealg.IndexByteString"], unfollowed := true, recurses := true, apart := false, narrowed := true }
def MatcherMatchesUptoSaid : Prop := matcherMatchesUptoRow.holds Tryz.pinned (OpenSpec.upto matcherMatchesSpec)

/-- 'lookoutlaw07.MatcherNegate', WHERE WHAT IT READS IS OF BULK AT MOST 1048576: true; the input reads as it did. -/
def matcherNegateUptoRow : OpenClaim := { program := "ythckgmbadmilfaagreat", sum := "00362265698cb1ca6291f466b9f051f992165cde8d11e5286ea1779b2632f192", func := "lookout/lookoutlaw07.MatcherNegate", spec := "matcherNegate", inPlace := ["internal/bytealg.IndexByteString"], unfollowed := true, recurses := true, apart := false, narrowed := true }
def MatcherNegateUptoSaid : Prop := matcherNegateUptoRow.holds Tryz.pinned (OpenSpec.upto matcherNegateSpec)

/-- 'lookoutlaw07.MatcherSimplify', WHERE WHAT IT READS IS OF BULK AT MOST 1048576: true; the input reads as it did. -/
def matcherSimplifyUptoRow : OpenClaim := { program := "ythckgmbadmilfaagreat", sum := "00362265698cb1ca6291f466b9f051f992165cde8d11e5286ea1779b2632f192", func := "lookout/lookoutlaw07.MatcherSimplify", spec := "matcherSimplify", inPlace := ["internal/bytealg.IndexByteString"], unfollowed := true, recurses := true, apart := false, narrowed := true }
def MatcherSimplifyUptoSaid : Prop := matcherSimplifyUptoRow.holds Tryz.pinned (OpenSpec.upto matcherSimplifySpec)

/-- 'lookoutlaw07.MatcherImplies', WHERE WHAT IT READS IS OF BULK AT MOST 1048576: true; the input reads as it did. -/
def matcherImpliesUptoRow : OpenClaim := { program := "ythckgmbadmilfaagreat", sum := "00362265698cb1ca6291f466b9f051f992165cde8d11e5286ea1779b2632f192", func := "lookout/lookoutlaw07.MatcherImplies", spec := "matcherImplies", inPlace := ["internal/bytealg.IndexByteString"], unfollowed := true, recurses := true, apart := false, narrowed := true }
def MatcherImpliesUptoSaid : Prop := matcherImpliesUptoRow.holds Tryz.pinned (OpenSpec.upto matcherImpliesSpec)

/-- 'lookoutlaw07.MatcherDecides', WHERE WHAT IT READS IS OF BULK AT MOST 1048576: true; the input reads as it did. -/
def matcherDecidesUptoRow : OpenClaim := { program := "ythckgmbadmilfaagreat", sum := "00362265698cb1ca6291f466b9f051f992165cde8d11e5286ea1779b2632f192", func := "lookout/lookoutlaw07.MatcherDecides", spec := "matcherDecides", inPlace := ["internal/bytealg.IndexByteString"], unfollowed := true, recurses := true, apart := false, narrowed := true }
def MatcherDecidesUptoSaid : Prop := matcherDecidesUptoRow.holds Tryz.pinned (OpenSpec.upto matcherDecidesSpec)

end Rows
end Go.Proofs.YthckgmbadmilfaaGreat
