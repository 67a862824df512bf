/-
  No cell of these rows narrows 'for every input' (looked for: loops, veiled, ifaces, maps, wideKeys, modest, calm, conditions, laid).
  DERIVED. THE GIVEN ROWS OF THIS SEAT. 4 by the template 'for every input the law returns true; each argument reads behind the call as it read before'; 0 by the template 'total and deterministic' (their statements: YtoojpfcnekpboaaTotals.lean).
  GIVEN WITH THE SEED: the statements are not yours to turn. If you find one false, say at which input.
  Laid BY PROGRAM, IN A SANDBOX (cutbox-rows.mjs): the forced cells as the released guide's own fill.sh prints them over the translation c9a6bbbfa60d8faa… (all of the seat's roots in one cut). By AI agents, Wed Nov 11 2026. No macro, syntax, notation, axiom, sorry.
-/
import Derived.Test.YtoojpfcnekpboaaChecked
import GoSem.Claim
import GoSem.ClaimJoined
import GoSem.ClaimMapViews
import Derived.JoinedTies
import Derived.KernelRfl
namespace Go.Proofs.Ytoojpfcnekpboaa
/- THE CELL 'sum', in the pinned program and in every row, IS THE sha256 OF THE DUMP (.gsa) THAT YtoojpfcnekpboaaProg.lean LOADS. Nothing in Lean hashes anything: it is a label: what it is worth is what the hold of that sum in a sandbox is worth. -/
noncomputable def Try.pinned : Pinned := { name := "ytoojpfcnekpboaa", sum := "c9a6bbbfa60d8faaf4f05f5563096aacce3422db30b40f7a868011e5a1e911aa", checked := Try.checked }
namespace Rows
def none {H : Type} : Left H := { results := [], args := [] }

/-- 'lookoutlaw21.BlockEncode': WHATEVER THE INPUT: true; the input reads as it did. -/
def blockEncodeSpec : ChangeSpec := { name := "blockEncode", fn := fun _ => fun
  | [d] => { results := [.lit (.bool true)], args := [d] }
  | _ => none }
def blockEncodeRow : OpenClaim := { program := "ytoojpfcnekpboaa", sum := "c9a6bbbfa60d8faaf4f05f5563096aacce3422db30b40f7a868011e5a1e911aa", func := "lookout/lookoutlaw21.BlockEncode", spec := "blockEncode", inPlace := ["internal/abi.NoEscape"], unfollowed := true, recurses := true, apart := false }
def BlockEncodeSaid : Prop := blockEncodeRow.holds Try.pinned (OpenSpec.ofChange blockEncodeSpec)

/-- ITS FALSE NEIGHBOUR: 'it returns false'. Refute it at one input. -/
def blockEncodeWrong : ChangeSpec := { name := "blockEncode", fn := fun _ => fun
  | [d] => { results := [.lit (.bool false)], args := [d] }
  | _ => none }
def BlockEncodeWrongFalsely : Prop := blockEncodeRow.holds Try.pinned (OpenSpec.ofChange blockEncodeWrong)

/-- 'lookoutlaw21.BlockDamage': WHATEVER THE INPUT: true; the input reads as it did. -/
def blockDamageSpec : ChangeSpec := { name := "blockDamage", fn := fun _ => fun
  | [d1, d2, d3] => { results := [.lit (.bool true)], args := [d1, d2, d3] }
  | _ => none }
def blockDamageRow : OpenClaim := { program := "ytoojpfcnekpboaa", sum := "c9a6bbbfa60d8faaf4f05f5563096aacce3422db30b40f7a868011e5a1e911aa", func := "lookout/lookoutlaw21.BlockDamage", spec := "blockDamage", inPlace := ["internal/abi.NoEscape"], unfollowed := true, recurses := true, apart := false }
def BlockDamageSaid : Prop := blockDamageRow.holds Try.pinned (OpenSpec.ofChange blockDamageSpec)

/-- ITS FALSE NEIGHBOUR: 'it returns false'. Refute it at one input. -/
def blockDamageWrong : ChangeSpec := { name := "blockDamage", fn := fun _ => fun
  | [d1, d2, d3] => { results := [.lit (.bool false)], args := [d1, d2, d3] }
  | _ => none }
def BlockDamageWrongFalsely : Prop := blockDamageRow.holds Try.pinned (OpenSpec.ofChange blockDamageWrong)

/-- 'lookoutlaw21.BlockBack': WHATEVER THE INPUT: true; the input reads as it did. -/
def blockBackSpec : ChangeSpec := { name := "blockBack", fn := fun _ => fun
  | [d1, d2] => { results := [.lit (.bool true)], args := [d1, d2] }
  | _ => none }
def blockBackRow : OpenClaim := { program := "ytoojpfcnekpboaa", sum := "c9a6bbbfa60d8faaf4f05f5563096aacce3422db30b40f7a868011e5a1e911aa", func := "lookout/lookoutlaw21.BlockBack", spec := "blockBack", inPlace := ["internal/abi.NoEscape"], unfollowed := true, recurses := true, apart := false }
def BlockBackSaid : Prop := blockBackRow.holds Try.pinned (OpenSpec.ofChange blockBackSpec)

/-- ITS FALSE NEIGHBOUR: 'it returns false'. Refute it at one input. -/
def blockBackWrong : ChangeSpec := { name := "blockBack", fn := fun _ => fun
  | [d1, d2] => { results := [.lit (.bool false)], args := [d1, d2] }
  | _ => none }
def BlockBackWrongFalsely : Prop := blockBackRow.holds Try.pinned (OpenSpec.ofChange blockBackWrong)

/-- 'lookoutlaw21.BlockChunks': WHATEVER THE INPUT: true; the input reads as it did. -/
def blockChunksSpec : ChangeSpec := { name := "blockChunks", fn := fun _ => fun
  | [d1, d2, d3] => { results := [.lit (.bool true)], args := [d1, d2, d3] }
  | _ => none }
def blockChunksRow : OpenClaim := { program := "ytoojpfcnekpboaa", sum := "c9a6bbbfa60d8faaf4f05f5563096aacce3422db30b40f7a868011e5a1e911aa", func := "lookout/lookoutlaw21.BlockChunks", spec := "blockChunks", inPlace := ["internal/abi.NoEscape"], unfollowed := true, recurses := true, apart := false }
def BlockChunksSaid : Prop := blockChunksRow.holds Try.pinned (OpenSpec.ofChange blockChunksSpec)

/-- ITS FALSE NEIGHBOUR: 'it returns false'. Refute it at one input. -/
def blockChunksWrong : ChangeSpec := { name := "blockChunks", fn := fun _ => fun
  | [d1, d2, d3] => { results := [.lit (.bool false)], args := [d1, d2, d3] }
  | _ => none }
def BlockChunksWrongFalsely : Prop := blockChunksRow.holds Try.pinned (OpenSpec.ofChange blockChunksWrong)

/- THE SECOND FORM. 'bulk': how many values and letters a reading holds, each counted each time it is reached (what is shared counts as often as it is met; a slice's spare places count too). A statement '..UptoSaid' is the law's where the arguments, and the package variables that the reading takes, are together of bulk at most 1048576: NARROWER than '..Said'. Prove '..Said' where nothing that the law and all that it calls make is longer than what came in: it says more and counts as full. Else prove '..UptoSaid'. A law counts once. -/
mutual
def uptoBulk {H : Type} : DataW H → Nat
  | .lit (.string bytes) => bytes.length + 1
  | .lit _ => 1
  | .nil => 1
  | .ptr d => uptoBulk d + 1
  | .slice elems spare => uptoBulkAll elems + uptoBulkAll spare + 1
  | .agg parts => uptoBulkAll parts + 1
  | .iface _ d => uptoBulk d + 1
  | .map entries => uptoBulkEntries entries + 1
  | .held _ => 1
def uptoBulkAll {H : Type} : List (DataW H) → Nat
  | [] => 0
  | d :: r => uptoBulk d + uptoBulkAll r
def uptoBulkEntries {H : Type} : List (Lit × DataW H) → Nat
  | [] => 0
  | x :: r => uptoBulkEntry x + uptoBulkEntries r
def uptoBulkEntry {H : Type} : Lit × DataW H → Nat
  | (.string bytes, d) => bytes.length + uptoBulk d + 1
  | (_, d) => uptoBulk d + 1
 end
def uptoSmall : (H : Type) → List (DataW H) → Bool := fun _ ds => decide (uptoBulkAll ds ≤ 1048576)
def OpenSpec.upto (s : _root_.Go.ChangeSpec) : _root_.Go.OpenSpec := { _root_.Go.OpenSpec.ofChange s with cond := some uptoSmall }

/-- 'lookoutlaw21.BlockEncode', WHERE WHAT IT READS IS OF BULK AT MOST 1048576: true; the input reads as it did. -/
def blockEncodeUptoRow : OpenClaim := { program := "ytoojpfcnekpboaa", sum := "c9a6bbbfa60d8faaf4f05f5563096aacce3422db30b40f7a868011e5a1e911aa", func := "lookout/lookoutlaw21.BlockEncode", spec := "blockEncode", inPlace := ["internal/abi.NoEscape"], unfollowed := true, recurses := true, apart := false, narrowed := true }
def BlockEncodeUptoSaid : Prop := blockEncodeUptoRow.holds Try.pinned (OpenSpec.upto blockEncodeSpec)

/-- 'lookoutlaw21.BlockDamage', WHERE WHAT IT READS IS OF BULK AT MOST 1048576: true; the input reads as it did. -/
def blockDamageUptoRow : OpenClaim := { program := "ytoojpfcnekpboaa", sum := "c9a6bbbfa60d8faaf4f05f5563096aacce3422db30b40f7a868011e5a1e911aa", func := "lookout/lookoutlaw21.BlockDamage", spec := "blockDamage", inPlace := ["internal/abi.NoEscape"], unfollowed := true, recurses := true, apart := false, narrowed := true }
def BlockDamageUptoSaid : Prop := blockDamageUptoRow.holds Try.pinned (OpenSpec.upto blockDamageSpec)

/-- 'lookoutlaw21.BlockBack', WHERE WHAT IT READS IS OF BULK AT MOST 1048576: true; the input reads as it did. -/
def blockBackUptoRow : OpenClaim := { program := "ytoojpfcnekpboaa", sum := "c9a6bbbfa60d8faaf4f05f5563096aacce3422db30b40f7a868011e5a1e911aa", func := "lookout/lookoutlaw21.BlockBack", spec := "blockBack", inPlace := ["internal/abi.NoEscape"], unfollowed := true, recurses := true, apart := false, narrowed := true }
def BlockBackUptoSaid : Prop := blockBackUptoRow.holds Try.pinned (OpenSpec.upto blockBackSpec)

/-- 'lookoutlaw21.BlockChunks', WHERE WHAT IT READS IS OF BULK AT MOST 1048576: true; the input reads as it did. -/
def blockChunksUptoRow : OpenClaim := { program := "ytoojpfcnekpboaa", sum := "c9a6bbbfa60d8faaf4f05f5563096aacce3422db30b40f7a868011e5a1e911aa", func := "lookout/lookoutlaw21.BlockChunks", spec := "blockChunks", inPlace := ["internal/abi.NoEscape"], unfollowed := true, recurses := true, apart := false, narrowed := true }
def BlockChunksUptoSaid : Prop := blockChunksUptoRow.holds Try.pinned (OpenSpec.upto blockChunksSpec)

end Rows
end Go.Proofs.Ytoojpfcnekpboaa
