/-
  No cell of these rows narrows 'for every input' (looked for: loops, veiled, ifaces, maps, wideKeys, modest, calm, conditions, laid).
  DERIVED. THE GIVEN ROWS OF THIS SEAT. 9 by the template 'for every input the law returns true; each argument reads behind the call as it read before'; 0 by the template 'total and deterministic' (their statements: YthejhofnoolpcaaTotals.lean).
  GIVEN WITH THE SEED: the statements are not yours to turn. If you find one false, say at which input.
  Laid BY PROGRAM, IN A SANDBOX (cutbox-rows.mjs): the forced cells as the released guide's own fill.sh prints them over the translation 77fbedddabb5f5a3… (all of the seat's roots in one cut). By AI agents, Wed Nov 11 2026. No macro, syntax, notation, axiom, sorry.
-/
import Derived.Test.YthejhofnoolpcaaChecked
import GoSem.Claim
import GoSem.ClaimJoined
import GoSem.ClaimMapViews
import Derived.JoinedTies
import Derived.KernelRfl
namespace Go.Proofs.Ythejhofnoolpcaa
/- THE CELL 'sum', in the pinned program and in every row, IS THE sha256 OF THE DUMP (.gsa) THAT YthejhofnoolpcaaProg.lean LOADS. Nothing in Lean hashes anything: it is a label: what it is worth is what the hold of that sum in a sandbox is worth. -/
noncomputable def Try.pinned : Pinned := { name := "ythejhofnoolpcaa", sum := "77fbedddabb5f5a3c8f2a0a258d3cca08a9747a7e8aa56177ff333cfe4012832", checked := Try.checked }
namespace Rows
def none {H : Type} : Left H := { results := [], args := [] }

/-- 'lookoutlaw02.Crc32cSum': WHATEVER THE INPUT: true; the input reads as it did. -/
def crc32cSumSpec : ChangeSpec := { name := "crc32cSum", fn := fun _ => fun
  | [d1, d2] => { results := [.lit (.bool true)], args := [d1, d2] }
  | _ => none }
def crc32cSumRow : OpenClaim := { program := "ythejhofnoolpcaa", sum := "77fbedddabb5f5a3c8f2a0a258d3cca08a9747a7e8aa56177ff333cfe4012832", func := "lookout/lookoutlaw02.Crc32cSum", spec := "crc32cSum", apart := false }
def Crc32cSumSaid : Prop := crc32cSumRow.holds Try.pinned (OpenSpec.ofChange crc32cSumSpec)

/-- ITS FALSE NEIGHBOUR: 'it returns false'. Refute it at one input. -/
def crc32cSumWrong : ChangeSpec := { name := "crc32cSum", fn := fun _ => fun
  | [d1, d2] => { results := [.lit (.bool false)], args := [d1, d2] }
  | _ => none }
def Crc32cSumWrongFalsely : Prop := crc32cSumRow.holds Try.pinned (OpenSpec.ofChange crc32cSumWrong)

/-- 'lookoutlaw02.Crc32cCombine': WHATEVER THE INPUT: true; the input reads as it did. -/
def crc32cCombineSpec : ChangeSpec := { name := "crc32cCombine", fn := fun _ => fun
  | [d1, d2, d3] => { results := [.lit (.bool true)], args := [d1, d2, d3] }
  | _ => none }
def crc32cCombineRow : OpenClaim := { program := "ythejhofnoolpcaa", sum := "77fbedddabb5f5a3c8f2a0a258d3cca08a9747a7e8aa56177ff333cfe4012832", func := "lookout/lookoutlaw02.Crc32cCombine", spec := "crc32cCombine", apart := false }
def Crc32cCombineSaid : Prop := crc32cCombineRow.holds Try.pinned (OpenSpec.ofChange crc32cCombineSpec)

/-- ITS FALSE NEIGHBOUR: 'it returns false'. Refute it at one input. -/
def crc32cCombineWrong : ChangeSpec := { name := "crc32cCombine", fn := fun _ => fun
  | [d1, d2, d3] => { results := [.lit (.bool false)], args := [d1, d2, d3] }
  | _ => none }
def Crc32cCombineWrongFalsely : Prop := crc32cCombineRow.holds Try.pinned (OpenSpec.ofChange crc32cCombineWrong)

/-- 'lookoutlaw02.Crc32cOpen': WHATEVER THE INPUT: true; the input reads as it did. -/
def crc32cOpenSpec : ChangeSpec := { name := "crc32cOpen", fn := fun _ => fun
  | [d] => { results := [.lit (.bool true)], args := [d] }
  | _ => none }
def crc32cOpenRow : OpenClaim := { program := "ythejhofnoolpcaa", sum := "77fbedddabb5f5a3c8f2a0a258d3cca08a9747a7e8aa56177ff333cfe4012832", func := "lookout/lookoutlaw02.Crc32cOpen", spec := "crc32cOpen", apart := false }
def Crc32cOpenSaid : Prop := crc32cOpenRow.holds Try.pinned (OpenSpec.ofChange crc32cOpenSpec)

/-- ITS FALSE NEIGHBOUR: 'it returns false'. Refute it at one input. -/
def crc32cOpenWrong : ChangeSpec := { name := "crc32cOpen", fn := fun _ => fun
  | [d] => { results := [.lit (.bool false)], args := [d] }
  | _ => none }
def Crc32cOpenWrongFalsely : Prop := crc32cOpenRow.holds Try.pinned (OpenSpec.ofChange crc32cOpenWrong)

/-- 'lookoutlaw02.Crc32cConcat': WHATEVER THE INPUT: true; the input reads as it did. -/
def crc32cConcatSpec : ChangeSpec := { name := "crc32cConcat", fn := fun _ => fun
  | [d1, d2] => { results := [.lit (.bool true)], args := [d1, d2] }
  | _ => none }
def crc32cConcatRow : OpenClaim := { program := "ythejhofnoolpcaa", sum := "77fbedddabb5f5a3c8f2a0a258d3cca08a9747a7e8aa56177ff333cfe4012832", func := "lookout/lookoutlaw02.Crc32cConcat", spec := "crc32cConcat", apart := false }
def Crc32cConcatSaid : Prop := crc32cConcatRow.holds Try.pinned (OpenSpec.ofChange crc32cConcatSpec)

/-- ITS FALSE NEIGHBOUR: 'it returns false'. Refute it at one input. -/
def crc32cConcatWrong : ChangeSpec := { name := "crc32cConcat", fn := fun _ => fun
  | [d1, d2] => { results := [.lit (.bool false)], args := [d1, d2] }
  | _ => none }
def Crc32cConcatWrongFalsely : Prop := crc32cConcatRow.holds Try.pinned (OpenSpec.ofChange crc32cConcatWrong)

/-- 'lookoutlaw02.Crc32cLinear': WHATEVER THE INPUT: true; the input reads as it did. -/
def crc32cLinearSpec : ChangeSpec := { name := "crc32cLinear", fn := fun _ => fun
  | [d1, d2, d3] => { results := [.lit (.bool true)], args := [d1, d2, d3] }
  | _ => none }
def crc32cLinearRow : OpenClaim := { program := "ythejhofnoolpcaa", sum := "77fbedddabb5f5a3c8f2a0a258d3cca08a9747a7e8aa56177ff333cfe4012832", func := "lookout/lookoutlaw02.Crc32cLinear", spec := "crc32cLinear", apart := false }
def Crc32cLinearSaid : Prop := crc32cLinearRow.holds Try.pinned (OpenSpec.ofChange crc32cLinearSpec)

/-- ITS FALSE NEIGHBOUR: 'it returns false'. Refute it at one input. -/
def crc32cLinearWrong : ChangeSpec := { name := "crc32cLinear", fn := fun _ => fun
  | [d1, d2, d3] => { results := [.lit (.bool false)], args := [d1, d2, d3] }
  | _ => none }
def Crc32cLinearWrongFalsely : Prop := crc32cLinearRow.holds Try.pinned (OpenSpec.ofChange crc32cLinearWrong)

/-- 'lookoutlaw02.Crc32cBurst': WHATEVER THE INPUT: true; the input reads as it did. -/
def crc32cBurstSpec : ChangeSpec := { name := "crc32cBurst", fn := fun _ => fun
  | [d1, d2, d3] => { results := [.lit (.bool true)], args := [d1, d2, d3] }
  | _ => none }
def crc32cBurstRow : OpenClaim := { program := "ythejhofnoolpcaa", sum := "77fbedddabb5f5a3c8f2a0a258d3cca08a9747a7e8aa56177ff333cfe4012832", func := "lookout/lookoutlaw02.Crc32cBurst", spec := "crc32cBurst", apart := false }
def Crc32cBurstSaid : Prop := crc32cBurstRow.holds Try.pinned (OpenSpec.ofChange crc32cBurstSpec)

/-- ITS FALSE NEIGHBOUR: 'it returns false'. Refute it at one input. -/
def crc32cBurstWrong : ChangeSpec := { name := "crc32cBurst", fn := fun _ => fun
  | [d1, d2, d3] => { results := [.lit (.bool false)], args := [d1, d2, d3] }
  | _ => none }
def Crc32cBurstWrongFalsely : Prop := crc32cBurstRow.holds Try.pinned (OpenSpec.ofChange crc32cBurstWrong)

/-- 'lookoutlaw02.Crc32cOdd': WHATEVER THE INPUT: true; the input reads as it did. -/
def crc32cOddSpec : ChangeSpec := { name := "crc32cOdd", fn := fun _ => fun
  | [d1, d2] => { results := [.lit (.bool true)], args := [d1, d2] }
  | _ => none }
def crc32cOddRow : OpenClaim := { program := "ythejhofnoolpcaa", sum := "77fbedddabb5f5a3c8f2a0a258d3cca08a9747a7e8aa56177ff333cfe4012832", func := "lookout/lookoutlaw02.Crc32cOdd", spec := "crc32cOdd", apart := false }
def Crc32cOddSaid : Prop := crc32cOddRow.holds Try.pinned (OpenSpec.ofChange crc32cOddSpec)

/-- ITS FALSE NEIGHBOUR: 'it returns false'. Refute it at one input. -/
def crc32cOddWrong : ChangeSpec := { name := "crc32cOdd", fn := fun _ => fun
  | [d1, d2] => { results := [.lit (.bool false)], args := [d1, d2] }
  | _ => none }
def Crc32cOddWrongFalsely : Prop := crc32cOddRow.holds Try.pinned (OpenSpec.ofChange crc32cOddWrong)

/-- 'lookoutlaw02.Crc32cSeals': WHATEVER THE INPUT: true; the input reads as it did. -/
def crc32cSealsSpec : ChangeSpec := { name := "crc32cSeals", fn := fun _ => fun
  | [d] => { results := [.lit (.bool true)], args := [d] }
  | _ => none }
def crc32cSealsRow : OpenClaim := { program := "ythejhofnoolpcaa", sum := "77fbedddabb5f5a3c8f2a0a258d3cca08a9747a7e8aa56177ff333cfe4012832", func := "lookout/lookoutlaw02.Crc32cSeals", spec := "crc32cSeals", apart := false }
def Crc32cSealsSaid : Prop := crc32cSealsRow.holds Try.pinned (OpenSpec.ofChange crc32cSealsSpec)

/-- ITS FALSE NEIGHBOUR: 'it returns false'. Refute it at one input. -/
def crc32cSealsWrong : ChangeSpec := { name := "crc32cSeals", fn := fun _ => fun
  | [d] => { results := [.lit (.bool false)], args := [d] }
  | _ => none }
def Crc32cSealsWrongFalsely : Prop := crc32cSealsRow.holds Try.pinned (OpenSpec.ofChange crc32cSealsWrong)

/-- 'lookoutlaw02.Crc32cAssociative': WHATEVER THE INPUT: true; the input reads as it did. -/
def crc32cAssociativeSpec : ChangeSpec := { name := "crc32cAssociative", fn := fun _ => fun
  | [d1, d2, d3, d4, d5] => { results := [.lit (.bool true)], args := [d1, d2, d3, d4, d5] }
  | _ => none }
def crc32cAssociativeRow : OpenClaim := { program := "ythejhofnoolpcaa", sum := "77fbedddabb5f5a3c8f2a0a258d3cca08a9747a7e8aa56177ff333cfe4012832", func := "lookout/lookoutlaw02.Crc32cAssociative", spec := "crc32cAssociative", apart := false }
def Crc32cAssociativeSaid : Prop := crc32cAssociativeRow.holds Try.pinned (OpenSpec.ofChange crc32cAssociativeSpec)

/-- ITS FALSE NEIGHBOUR: 'it returns false'. Refute it at one input. -/
def crc32cAssociativeWrong : ChangeSpec := { name := "crc32cAssociative", fn := fun _ => fun
  | [d1, d2, d3, d4, d5] => { results := [.lit (.bool false)], args := [d1, d2, d3, d4, d5] }
  | _ => none }
def Crc32cAssociativeWrongFalsely : Prop := crc32cAssociativeRow.holds Try.pinned (OpenSpec.ofChange crc32cAssociativeWrong)

/- THE SECOND FORM. 'bulk': how many values and letters a reading holds, each counted each time it is reached (what is shared counts as often as it is met; a slice's spare places count too). A statement '..UptoSaid' is the law's where the arguments, and the package variables that the reading takes, are together of bulk at most 1048576: NARROWER than '..Said'. Prove '..Said' where nothing that the law and all that it calls make is longer than what came in: it says more and counts as full. Else prove '..UptoSaid'. A law counts once. -/
mutual
def uptoBulk {H : Type} : DataW H → Nat
  | .lit (.string bytes) => bytes.length + 1
  | .lit _ => 1
  | .nil => 1
  | .ptr d => uptoBulk d + 1
  | .slice elems spare => uptoBulkAll elems + uptoBulkAll spare + 1
  | .agg parts => uptoBulkAll parts + 1
  | .iface _ d => uptoBulk d + 1
  | .map entries => uptoBulkEntries entries + 1
  | .held _ => 1
def uptoBulkAll {H : Type} : List (DataW H) → Nat
  | [] => 0
  | d :: r => uptoBulk d + uptoBulkAll r
def uptoBulkEntries {H : Type} : List (Lit × DataW H) → Nat
  | [] => 0
  | x :: r => uptoBulkEntry x + uptoBulkEntries r
def uptoBulkEntry {H : Type} : Lit × DataW H → Nat
  | (.string bytes, d) => bytes.length + uptoBulk d + 1
  | (_, d) => uptoBulk d + 1
 end
def uptoSmall : (H : Type) → List (DataW H) → Bool := fun _ ds => decide (uptoBulkAll ds ≤ 1048576)
def OpenSpec.upto (s : _root_.Go.ChangeSpec) : _root_.Go.OpenSpec := { _root_.Go.OpenSpec.ofChange s with cond := some uptoSmall }

/-- 'lookoutlaw02.Crc32cSum', WHERE WHAT IT READS IS OF BULK AT MOST 1048576: true; the input reads as it did. -/
def crc32cSumUptoRow : OpenClaim := { program := "ythejhofnoolpcaa", sum := "77fbedddabb5f5a3c8f2a0a258d3cca08a9747a7e8aa56177ff333cfe4012832", func := "lookout/lookoutlaw02.Crc32cSum", spec := "crc32cSum", apart := false, narrowed := true }
def Crc32cSumUptoSaid : Prop := crc32cSumUptoRow.holds Try.pinned (OpenSpec.upto crc32cSumSpec)

/-- 'lookoutlaw02.Crc32cCombine', WHERE WHAT IT READS IS OF BULK AT MOST 1048576: true; the input reads as it did. -/
def crc32cCombineUptoRow : OpenClaim := { program := "ythejhofnoolpcaa", sum := "77fbedddabb5f5a3c8f2a0a258d3cca08a9747a7e8aa56177ff333cfe4012832", func := "lookout/lookoutlaw02.Crc32cCombine", spec := "crc32cCombine", apart := false, narrowed := true }
def Crc32cCombineUptoSaid : Prop := crc32cCombineUptoRow.holds Try.pinned (OpenSpec.upto crc32cCombineSpec)

/-- 'lookoutlaw02.Crc32cOpen', WHERE WHAT IT READS IS OF BULK AT MOST 1048576: true; the input reads as it did. -/
def crc32cOpenUptoRow : OpenClaim := { program := "ythejhofnoolpcaa", sum := "77fbedddabb5f5a3c8f2a0a258d3cca08a9747a7e8aa56177ff333cfe4012832", func := "lookout/lookoutlaw02.Crc32cOpen", spec := "crc32cOpen", apart := false, narrowed := true }
def Crc32cOpenUptoSaid : Prop := crc32cOpenUptoRow.holds Try.pinned (OpenSpec.upto crc32cOpenSpec)

/-- 'lookoutlaw02.Crc32cConcat', WHERE WHAT IT READS IS OF BULK AT MOST 1048576: true; the input reads as it did. -/
def crc32cConcatUptoRow : OpenClaim := { program := "ythejhofnoolpcaa", sum := "77fbedddabb5f5a3c8f2a0a258d3cca08a9747a7e8aa56177ff333cfe4012832", func := "lookout/lookoutlaw02.Crc32cConcat", spec := "crc32cConcat", apart := false, narrowed := true }
def Crc32cConcatUptoSaid : Prop := crc32cConcatUptoRow.holds Try.pinned (OpenSpec.upto crc32cConcatSpec)

/-- 'lookoutlaw02.Crc32cLinear', WHERE WHAT IT READS IS OF BULK AT MOST 1048576: true; the input reads as it did. -/
def crc32cLinearUptoRow : OpenClaim := { program := "ythejhofnoolpcaa", sum := "77fbedddabb5f5a3c8f2a0a258d3cca08a9747a7e8aa56177ff333cfe4012832", func := "lookout/lookoutlaw02.Crc32cLinear", spec := "crc32cLinear", apart := false, narrowed := true }
def Crc32cLinearUptoSaid : Prop := crc32cLinearUptoRow.holds Try.pinned (OpenSpec.upto crc32cLinearSpec)

/-- 'lookoutlaw02.Crc32cBurst', WHERE WHAT IT READS IS OF BULK AT MOST 1048576: true; the input reads as it did. -/
def crc32cBurstUptoRow : OpenClaim := { program := "ythejhofnoolpcaa", sum := "77fbedddabb5f5a3c8f2a0a258d3cca08a9747a7e8aa56177ff333cfe4012832", func := "lookout/lookoutlaw02.Crc32cBurst", spec := "crc32cBurst", apart := false, narrowed := true }
def Crc32cBurstUptoSaid : Prop := crc32cBurstUptoRow.holds Try.pinned (OpenSpec.upto crc32cBurstSpec)

/-- 'lookoutlaw02.Crc32cOdd', WHERE WHAT IT READS IS OF BULK AT MOST 1048576: true; the input reads as it did. -/
def crc32cOddUptoRow : OpenClaim := { program := "ythejhofnoolpcaa", sum := "77fbedddabb5f5a3c8f2a0a258d3cca08a9747a7e8aa56177ff333cfe4012832", func := "lookout/lookoutlaw02.Crc32cOdd", spec := "crc32cOdd", apart := false, narrowed := true }
def Crc32cOddUptoSaid : Prop := crc32cOddUptoRow.holds Try.pinned (OpenSpec.upto crc32cOddSpec)

/-- 'lookoutlaw02.Crc32cSeals', WHERE WHAT IT READS IS OF BULK AT MOST 1048576: true; the input reads as it did. -/
def crc32cSealsUptoRow : OpenClaim := { program := "ythejhofnoolpcaa", sum := "77fbedddabb5f5a3c8f2a0a258d3cca08a9747a7e8aa56177ff333cfe4012832", func := "lookout/lookoutlaw02.Crc32cSeals", spec := "crc32cSeals", apart := false, narrowed := true }
def Crc32cSealsUptoSaid : Prop := crc32cSealsUptoRow.holds Try.pinned (OpenSpec.upto crc32cSealsSpec)

/-- 'lookoutlaw02.Crc32cAssociative', WHERE WHAT IT READS IS OF BULK AT MOST 1048576: true; the input reads as it did. -/
def crc32cAssociativeUptoRow : OpenClaim := { program := "ythejhofnoolpcaa", sum := "77fbedddabb5f5a3c8f2a0a258d3cca08a9747a7e8aa56177ff333cfe4012832", func := "lookout/lookoutlaw02.Crc32cAssociative", spec := "crc32cAssociative", apart := false, narrowed := true }
def Crc32cAssociativeUptoSaid : Prop := crc32cAssociativeUptoRow.holds Try.pinned (OpenSpec.upto crc32cAssociativeSpec)

end Rows
end Go.Proofs.Ythejhofnoolpcaa
