/-
  No cell of these rows narrows 'for every input' (looked for: loops, veiled, ifaces, maps, wideKeys, modest, calm, conditions, laid).
  DERIVED. THE GIVEN ROWS OF THIS SEAT. 4 by the template 'for every input the law returns true; each argument reads behind the call as it read before'; 0 by the template 'total and deterministic' (their statements: YtoojpfcnekpboaaGreatTotals.lean).
  GIVEN WITH THE SEED: the statements are not yours to turn. If you find one false, say at which input.
  Laid BY PROGRAM, IN A SANDBOX (cutbox-rows.mjs): the forced cells as the released guide's own fill.sh prints them over the translation e3138e870108422d… (all of the seat's roots in one cut). By AI agents, Wed Nov 11 2026. No macro, syntax, notation, axiom, sorry.
-/
import Derived.Test.YtoojpfcnekpboaaGreatChecked
import GoSem.Claim
import GoSem.ClaimJoined
import GoSem.ClaimMapViews
import Derived.JoinedTies
import Derived.KernelRfl
namespace Go.Proofs.YtoojpfcnekpboaaGreat
/- THE CELL 'sum', in the pinned program and in every row, IS THE sha256 OF THE DUMP (.gsa) THAT YtoojpfcnekpboaaGreatProg.lean LOADS. Nothing in Lean hashes anything: it is a label: what it is worth is what the hold of that sum in a sandbox is worth. -/
noncomputable def Tryz.pinned : Pinned := { name := "ytoojpfcnekpboaagreat", sum := "e3138e870108422d1db0153221e5d3db3249896e9913d1279b2c0d07ced67340", checked := Tryz.checked }
namespace Rows
def none {H : Type} : Left H := { results := [], args := [] }

/-- 'lookoutlaw21.BlockDecode': WHATEVER THE INPUT: true; the input reads as it did. -/
def blockDecodeSpec : ChangeSpec := { name := "blockDecode", fn := fun _ => fun
  | [d] => { results := [.lit (.bool true)], args := [d] }
  | _ => none }
def blockDecodeRow : OpenClaim := { program := "ytoojpfcnekpboaagreat", sum := "e3138e870108422d1db0153221e5d3db3249896e9913d1279b2c0d07ced67340", func := "lookout/lookoutlaw21.BlockDecode", spec := "blockDecode", inPlace := ["internal/abi.NoEscape"], unfollowed := true, recurses := true, apart := false }
def BlockDecodeSaid : Prop := blockDecodeRow.holds Tryz.pinned (OpenSpec.ofChange blockDecodeSpec)

/-- ITS FALSE NEIGHBOUR: 'it returns false'. Refute it at one input. -/
def blockDecodeWrong : ChangeSpec := { name := "blockDecode", fn := fun _ => fun
  | [d] => { results := [.lit (.bool false)], args := [d] }
  | _ => none }
def BlockDecodeWrongFalsely : Prop := blockDecodeRow.holds Tryz.pinned (OpenSpec.ofChange blockDecodeWrong)

/-- 'lookoutlaw21.BlockFound': WHATEVER THE INPUT: true; the input reads as it did. -/
def blockFoundSpec : ChangeSpec := { name := "blockFound", fn := fun _ => fun
  | [d1, d2] => { results := [.lit (.bool true)], args := [d1, d2] }
  | _ => none }
def blockFoundRow : OpenClaim := { program := "ytoojpfcnekpboaagreat", sum := "e3138e870108422d1db0153221e5d3db3249896e9913d1279b2c0d07ced67340", func := "lookout/lookoutlaw21.BlockFound", spec := "blockFound", inPlace := ["internal/abi.NoEscape", "internal/bytealg.IndexByteString"], unfollowed := true, recurses := true, apart := false }
def BlockFoundSaid : Prop := blockFoundRow.holds Tryz.pinned (OpenSpec.ofChange blockFoundSpec)

/-- ITS FALSE NEIGHBOUR: 'it returns false'. Refute it at one input. -/
def blockFoundWrong : ChangeSpec := { name := "blockFound", fn := fun _ => fun
  | [d1, d2] => { results := [.lit (.bool false)], args := [d1, d2] }
  | _ => none }
def BlockFoundWrongFalsely : Prop := blockFoundRow.holds Tryz.pinned (OpenSpec.ofChange blockFoundWrong)

/-- 'lookoutlaw21.BlockSelect': WHATEVER THE INPUT: true; the input reads as it did. -/
def blockSelectSpec : ChangeSpec := { name := "blockSelect", fn := fun _ => fun
  | [d1, d2, d3] => { results := [.lit (.bool true)], args := [d1, d2, d3] }
  | _ => none }
def blockSelectRow : OpenClaim := { program := "ytoojpfcnekpboaagreat", sum := "e3138e870108422d1db0153221e5d3db3249896e9913d1279b2c0d07ced67340", func := "lookout/lookoutlaw21.BlockSelect", spec := "blockSelect", inPlace := ["internal/abi.NoEscape", "internal/bytealg.IndexByteString"], unfollowed := true, recurses := true, apart := false }
def BlockSelectSaid : Prop := blockSelectRow.holds Tryz.pinned (OpenSpec.ofChange blockSelectSpec)

/-- ITS FALSE NEIGHBOUR: 'it returns false'. Refute it at one input. -/
def blockSelectWrong : ChangeSpec := { name := "blockSelect", fn := fun _ => fun
  | [d1, d2, d3] => { results := [.lit (.bool false)], args := [d1, d2, d3] }
  | _ => none }
def BlockSelectWrongFalsely : Prop := blockSelectRow.holds Tryz.pinned (OpenSpec.ofChange blockSelectWrong)

/-- 'lookoutlaw21.BlockPostings': WHATEVER THE INPUT: true; the input reads as it did. -/
def blockPostingsSpec : ChangeSpec := { name := "blockPostings", fn := fun _ => fun
  | [d1, d2, d3] => { results := [.lit (.bool true)], args := [d1, d2, d3] }
  | _ => none }
def blockPostingsRow : OpenClaim := { program := "ytoojpfcnekpboaagreat", sum := "e3138e870108422d1db0153221e5d3db3249896e9913d1279b2c0d07ced67340", func := "lookout/lookoutlaw21.BlockPostings", spec := "blockPostings", inPlace := ["internal/abi.NoEscape", "internal/bytealg.IndexByteString"], unfollowed := true, recurses := true, apart := false }
def BlockPostingsSaid : Prop := blockPostingsRow.holds Tryz.pinned (OpenSpec.ofChange blockPostingsSpec)

/-- ITS FALSE NEIGHBOUR: 'it returns false'. Refute it at one input. -/
def blockPostingsWrong : ChangeSpec := { name := "blockPostings", fn := fun _ => fun
  | [d1, d2, d3] => { results := [.lit (.bool false)], args := [d1, d2, d3] }
  | _ => none }
def BlockPostingsWrongFalsely : Prop := blockPostingsRow.holds Tryz.pinned (OpenSpec.ofChange blockPostingsWrong)

/- THE SECOND FORM. 'bulk': how many values and letters a reading holds, each counted each time it is reached (what is shared counts as often as it is met; a slice's spare places count too). A statement '..UptoSaid' is the law's where the arguments, and the package variables that the reading takes, are together of bulk at most 1048576: NARROWER than '..Said'. Prove '..Said' where nothing that the law and all that it calls make is longer than what came in: it says more and counts as full. Else prove '..UptoSaid'. A law counts once. -/
mutual
def uptoBulk {H : Type} : DataW H → Nat
  | .lit (.string bytes) => bytes.length + 1
  | .lit _ => 1
  | .nil => 1
  | .ptr d => uptoBulk d + 1
  | .slice elems spare => uptoBulkAll elems + uptoBulkAll spare + 1
  | .agg parts => uptoBulkAll parts + 1
  | .iface _ d => uptoBulk d + 1
  | .map entries => uptoBulkEntries entries + 1
  | .held _ => 1
def uptoBulkAll {H : Type} : List (DataW H) → Nat
  | [] => 0
  | d :: r => uptoBulk d + uptoBulkAll r
def uptoBulkEntries {H : Type} : List (Lit × DataW H) → Nat
  | [] => 0
  | x :: r => uptoBulkEntry x + uptoBulkEntries r
def uptoBulkEntry {H : Type} : Lit × DataW H → Nat
  | (.string bytes, d) => bytes.length + uptoBulk d + 1
  | (_, d) => uptoBulk d + 1
 end
def uptoSmall : (H : Type) → List (DataW H) → Bool := fun _ ds => decide (uptoBulkAll ds ≤ 1048576)
def OpenSpec.upto (s : _root_.Go.ChangeSpec) : _root_.Go.OpenSpec := { _root_.Go.OpenSpec.ofChange s with cond := some uptoSmall }

/-- 'lookoutlaw21.BlockDecode', WHERE WHAT IT READS IS OF BULK AT MOST 1048576: true; the input reads as it did. -/
def blockDecodeUptoRow : OpenClaim := { program := "ytoojpfcnekpboaagreat", sum := "e3138e870108422d1db0153221e5d3db3249896e9913d1279b2c0d07ced67340", func := "lookout/lookoutlaw21.BlockDecode", spec := "blockDecode", inPlace := ["internal/abi.NoEscape"], unfollowed := true, recurses := true, apart := false, narrowed := true }
def BlockDecodeUptoSaid : Prop := blockDecodeUptoRow.holds Tryz.pinned (OpenSpec.upto blockDecodeSpec)

/-- 'lookoutlaw21.BlockFound', WHERE WHAT IT READS IS OF BULK AT MOST 1048576: true; the input reads as it did. -/
def blockFoundUptoRow : OpenClaim := { program := "ytoojpfcnekpboaagreat", sum := "e3138e870108422d1db0153221e5d3db3249896e9913d1279b2c0d07ced67340", func := "lookout/lookoutlaw21.BlockFound", spec := "blockFound", inPlace := ["internal/abi.NoEscape", "internal/bytealg.IndexByteString"], unfollowed := true, recurses := true, apart := false, narrowed := true }
def BlockFoundUptoSaid : Prop := blockFoundUptoRow.holds Tryz.pinned (OpenSpec.upto blockFoundSpec)

/-- 'lookoutlaw21.BlockSelect', WHERE WHAT IT READS IS OF BULK AT MOST 1048576: true; the input reads as it did. -/
def blockSelectUptoRow : OpenClaim := { program := "ytoojpfcnekpboaagreat", sum := "e3138e870108422d1db0153221e5d3db3249896e9913d1279b2c0d07ced67340", func := "lookout/lookoutlaw21.BlockSelect", spec := "blockSelect", inPlace := ["internal/abi.NoEscape", "internal/bytealg.IndexByteString"], unfollowed := true, recurses := true, apart := false, narrowed := true }
def BlockSelectUptoSaid : Prop := blockSelectUptoRow.holds Tryz.pinned (OpenSpec.upto blockSelectSpec)

/-- 'lookoutlaw21.BlockPostings', WHERE WHAT IT READS IS OF BULK AT MOST 1048576: true; the input reads as it did. -/
def blockPostingsUptoRow : OpenClaim := { program := "ytoojpfcnekpboaagreat", sum := "e3138e870108422d1db0153221e5d3db3249896e9913d1279b2c0d07ced67340", func := "lookout/lookoutlaw21.BlockPostings", spec := "blockPostings", inPlace := ["internal/abi.NoEscape", "internal/bytealg.IndexByteString"], unfollowed := true, recurses := true, apart := false, narrowed := true }
def BlockPostingsUptoSaid : Prop := blockPostingsUptoRow.holds Tryz.pinned (OpenSpec.upto blockPostingsSpec)

end Rows
end Go.Proofs.YtoojpfcnekpboaaGreat
