/-
  No cell of these rows narrows 'for every input' (looked for: loops, veiled, ifaces, maps, wideKeys, modest, calm, conditions, laid).
  DERIVED. THE GIVEN ROWS OF THIS SEAT. 6 by the template 'for every input the law returns true; each argument reads behind the call as it read before'; 0 by the template 'total and deterministic' (their statements: YticnacaeibpicaaTotals.lean).
  GIVEN WITH THE SEED: the statements are not yours to turn. If you find one false, say at which input.
  Laid BY PROGRAM, IN A SANDBOX (cutbox-rows.mjs): the forced cells as the released guide's own fill.sh prints them over the translation 43ed466c5355f88d… (all of the seat's roots in one cut). By AI agents, Wed Nov 11 2026. No macro, syntax, notation, axiom, sorry.
-/
import Derived.Test.YticnacaeibpicaaChecked
import GoSem.Claim
import GoSem.ClaimJoined
import GoSem.ClaimMapViews
import Derived.JoinedTies
import Derived.KernelRfl
namespace Go.Proofs.Yticnacaeibpicaa
/- THE CELL 'sum', in the pinned program and in every row, IS THE sha256 OF THE DUMP (.gsa) THAT YticnacaeibpicaaProg.lean LOADS. Nothing in Lean hashes anything: it is a label: what it is worth is what the hold of that sum in a sandbox is worth. -/
noncomputable def Try.pinned : Pinned := { name := "yticnacaeibpicaa", sum := "43ed466c5355f88d6bdd7adca1d1544acea46372403dd0a01e92709aae471497", checked := Try.checked }
namespace Rows
def none {H : Type} : Left H := { results := [], args := [] }

/-- 'entaillaw11.BlockDecode': WHATEVER THE INPUT: true; the input reads as it did. -/
def blockDecodeSpec : ChangeSpec := { name := "blockDecode", fn := fun _ => fun
  | [d] => { results := [.lit (.bool true)], args := [d] }
  | _ => none }
def blockDecodeRow : OpenClaim := { program := "yticnacaeibpicaa", sum := "43ed466c5355f88d6bdd7adca1d1544acea46372403dd0a01e92709aae471497", func := "entail/entaillaw11.BlockDecode", spec := "blockDecode", unfollowed := true, recurses := true, apart := false }
def BlockDecodeSaid : Prop := blockDecodeRow.holds Try.pinned (OpenSpec.ofChange blockDecodeSpec)

/-- ITS FALSE NEIGHBOUR: 'it returns false'. Refute it at one input. -/
def blockDecodeWrong : ChangeSpec := { name := "blockDecode", fn := fun _ => fun
  | [d] => { results := [.lit (.bool false)], args := [d] }
  | _ => none }
def BlockDecodeWrongFalsely : Prop := blockDecodeRow.holds Try.pinned (OpenSpec.ofChange blockDecodeWrong)

/-- 'entaillaw11.BlockHeader': WHATEVER THE INPUT: true; the input reads as it did. -/
def blockHeaderSpec : ChangeSpec := { name := "blockHeader", fn := fun _ => fun
  | [d1, d2] => { results := [.lit (.bool true)], args := [d1, d2] }
  | _ => none }
def blockHeaderRow : OpenClaim := { program := "yticnacaeibpicaa", sum := "43ed466c5355f88d6bdd7adca1d1544acea46372403dd0a01e92709aae471497", func := "entail/entaillaw11.BlockHeader", spec := "blockHeader", unfollowed := true, recurses := true, apart := false }
def BlockHeaderSaid : Prop := blockHeaderRow.holds Try.pinned (OpenSpec.ofChange blockHeaderSpec)

/-- ITS FALSE NEIGHBOUR: 'it returns false'. Refute it at one input. -/
def blockHeaderWrong : ChangeSpec := { name := "blockHeader", fn := fun _ => fun
  | [d1, d2] => { results := [.lit (.bool false)], args := [d1, d2] }
  | _ => none }
def BlockHeaderWrongFalsely : Prop := blockHeaderRow.holds Try.pinned (OpenSpec.ofChange blockHeaderWrong)

/-- 'entaillaw11.BlockOnly': WHATEVER THE INPUT: true; the input reads as it did. -/
def blockOnlySpec : ChangeSpec := { name := "blockOnly", fn := fun _ => fun
  | [d] => { results := [.lit (.bool true)], args := [d] }
  | _ => none }
def blockOnlyRow : OpenClaim := { program := "yticnacaeibpicaa", sum := "43ed466c5355f88d6bdd7adca1d1544acea46372403dd0a01e92709aae471497", func := "entail/entaillaw11.BlockOnly", spec := "blockOnly", unfollowed := true, recurses := true, apart := false }
def BlockOnlySaid : Prop := blockOnlyRow.holds Try.pinned (OpenSpec.ofChange blockOnlySpec)

/-- ITS FALSE NEIGHBOUR: 'it returns false'. Refute it at one input. -/
def blockOnlyWrong : ChangeSpec := { name := "blockOnly", fn := fun _ => fun
  | [d] => { results := [.lit (.bool false)], args := [d] }
  | _ => none }
def BlockOnlyWrongFalsely : Prop := blockOnlyRow.holds Try.pinned (OpenSpec.ofChange blockOnlyWrong)

/-- 'entaillaw11.BlockEncode': WHATEVER THE INPUT: true; the input reads as it did. -/
def blockEncodeSpec : ChangeSpec := { name := "blockEncode", fn := fun _ => fun
  | [d] => { results := [.lit (.bool true)], args := [d] }
  | _ => none }
def blockEncodeRow : OpenClaim := { program := "yticnacaeibpicaa", sum := "43ed466c5355f88d6bdd7adca1d1544acea46372403dd0a01e92709aae471497", func := "entail/entaillaw11.BlockEncode", spec := "blockEncode", unfollowed := true, recurses := true, apart := false }
def BlockEncodeSaid : Prop := blockEncodeRow.holds Try.pinned (OpenSpec.ofChange blockEncodeSpec)

/-- ITS FALSE NEIGHBOUR: 'it returns false'. Refute it at one input. -/
def blockEncodeWrong : ChangeSpec := { name := "blockEncode", fn := fun _ => fun
  | [d] => { results := [.lit (.bool false)], args := [d] }
  | _ => none }
def BlockEncodeWrongFalsely : Prop := blockEncodeRow.holds Try.pinned (OpenSpec.ofChange blockEncodeWrong)

/-- 'entaillaw11.BlockBack': WHATEVER THE INPUT: true; the input reads as it did. -/
def blockBackSpec : ChangeSpec := { name := "blockBack", fn := fun _ => fun
  | [d1, d2] => { results := [.lit (.bool true)], args := [d1, d2] }
  | _ => none }
def blockBackRow : OpenClaim := { program := "yticnacaeibpicaa", sum := "43ed466c5355f88d6bdd7adca1d1544acea46372403dd0a01e92709aae471497", func := "entail/entaillaw11.BlockBack", spec := "blockBack", unfollowed := true, recurses := true, apart := false }
def BlockBackSaid : Prop := blockBackRow.holds Try.pinned (OpenSpec.ofChange blockBackSpec)

/-- ITS FALSE NEIGHBOUR: 'it returns false'. Refute it at one input. -/
def blockBackWrong : ChangeSpec := { name := "blockBack", fn := fun _ => fun
  | [d1, d2] => { results := [.lit (.bool false)], args := [d1, d2] }
  | _ => none }
def BlockBackWrongFalsely : Prop := blockBackRow.holds Try.pinned (OpenSpec.ofChange blockBackWrong)

/-- 'entaillaw11.BlockRoot': WHATEVER THE INPUT: true; the input reads as it did. -/
def blockRootSpec : ChangeSpec := { name := "blockRoot", fn := fun _ => fun
  | [d1, d2] => { results := [.lit (.bool true)], args := [d1, d2] }
  | _ => none }
def blockRootRow : OpenClaim := { program := "yticnacaeibpicaa", sum := "43ed466c5355f88d6bdd7adca1d1544acea46372403dd0a01e92709aae471497", func := "entail/entaillaw11.BlockRoot", spec := "blockRoot", unfollowed := true, recurses := true, apart := false }
def BlockRootSaid : Prop := blockRootRow.holds Try.pinned (OpenSpec.ofChange blockRootSpec)

/-- ITS FALSE NEIGHBOUR: 'it returns false'. Refute it at one input. -/
def blockRootWrong : ChangeSpec := { name := "blockRoot", fn := fun _ => fun
  | [d1, d2] => { results := [.lit (.bool false)], args := [d1, d2] }
  | _ => none }
def BlockRootWrongFalsely : Prop := blockRootRow.holds Try.pinned (OpenSpec.ofChange blockRootWrong)

/- THE SECOND FORM. 'bulk': how many values and letters a reading holds, each counted each time it is reached (what is shared counts as often as it is met; a slice's spare places count too). A statement '..UptoSaid' is the law's where the arguments, and the package variables that the reading takes, are together of bulk at most 1048576: NARROWER than '..Said'. Prove '..Said' where nothing that the law and all that it calls make is longer than what came in: it says more and counts as full. Else prove '..UptoSaid'. A law counts once. -/
mutual
def uptoBulk {H : Type} : DataW H → Nat
  | .lit (.string bytes) => bytes.length + 1
  | .lit _ => 1
  | .nil => 1
  | .ptr d => uptoBulk d + 1
  | .slice elems spare => uptoBulkAll elems + uptoBulkAll spare + 1
  | .agg parts => uptoBulkAll parts + 1
  | .iface _ d => uptoBulk d + 1
  | .map entries => uptoBulkEntries entries + 1
  | .held _ => 1
def uptoBulkAll {H : Type} : List (DataW H) → Nat
  | [] => 0
  | d :: r => uptoBulk d + uptoBulkAll r
def uptoBulkEntries {H : Type} : List (Lit × DataW H) → Nat
  | [] => 0
  | x :: r => uptoBulkEntry x + uptoBulkEntries r
def uptoBulkEntry {H : Type} : Lit × DataW H → Nat
  | (.string bytes, d) => bytes.length + uptoBulk d + 1
  | (_, d) => uptoBulk d + 1
 end
def uptoSmall : (H : Type) → List (DataW H) → Bool := fun _ ds => decide (uptoBulkAll ds ≤ 1048576)
def OpenSpec.upto (s : _root_.Go.ChangeSpec) : _root_.Go.OpenSpec := { _root_.Go.OpenSpec.ofChange s with cond := some uptoSmall }

/-- 'entaillaw11.BlockDecode', WHERE WHAT IT READS IS OF BULK AT MOST 1048576: true; the input reads as it did. -/
def blockDecodeUptoRow : OpenClaim := { program := "yticnacaeibpicaa", sum := "43ed466c5355f88d6bdd7adca1d1544acea46372403dd0a01e92709aae471497", func := "entail/entaillaw11.BlockDecode", spec := "blockDecode", unfollowed := true, recurses := true, apart := false, narrowed := true }
def BlockDecodeUptoSaid : Prop := blockDecodeUptoRow.holds Try.pinned (OpenSpec.upto blockDecodeSpec)

/-- 'entaillaw11.BlockHeader', WHERE WHAT IT READS IS OF BULK AT MOST 1048576: true; the input reads as it did. -/
def blockHeaderUptoRow : OpenClaim := { program := "yticnacaeibpicaa", sum := "43ed466c5355f88d6bdd7adca1d1544acea46372403dd0a01e92709aae471497", func := "entail/entaillaw11.BlockHeader", spec := "blockHeader", unfollowed := true, recurses := true, apart := false, narrowed := true }
def BlockHeaderUptoSaid : Prop := blockHeaderUptoRow.holds Try.pinned (OpenSpec.upto blockHeaderSpec)

/-- 'entaillaw11.BlockOnly', WHERE WHAT IT READS IS OF BULK AT MOST 1048576: true; the input reads as it did. -/
def blockOnlyUptoRow : OpenClaim := { program := "yticnacaeibpicaa", sum := "43ed466c5355f88d6bdd7adca1d1544acea46372403dd0a01e92709aae471497", func := "entail/entaillaw11.BlockOnly", spec := "blockOnly", unfollowed := true, recurses := true, apart := false, narrowed := true }
def BlockOnlyUptoSaid : Prop := blockOnlyUptoRow.holds Try.pinned (OpenSpec.upto blockOnlySpec)

/-- 'entaillaw11.BlockEncode', WHERE WHAT IT READS IS OF BULK AT MOST 1048576: true; the input reads as it did. -/
def blockEncodeUptoRow : OpenClaim := { program := "yticnacaeibpicaa", sum := "43ed466c5355f88d6bdd7adca1d1544acea46372403dd0a01e92709aae471497", func := "entail/entaillaw11.BlockEncode", spec := "blockEncode", unfollowed := true, recurses := true, apart := false, narrowed := true }
def BlockEncodeUptoSaid : Prop := blockEncodeUptoRow.holds Try.pinned (OpenSpec.upto blockEncodeSpec)

/-- 'entaillaw11.BlockBack', WHERE WHAT IT READS IS OF BULK AT MOST 1048576: true; the input reads as it did. -/
def blockBackUptoRow : OpenClaim := { program := "yticnacaeibpicaa", sum := "43ed466c5355f88d6bdd7adca1d1544acea46372403dd0a01e92709aae471497", func := "entail/entaillaw11.BlockBack", spec := "blockBack", unfollowed := true, recurses := true, apart := false, narrowed := true }
def BlockBackUptoSaid : Prop := blockBackUptoRow.holds Try.pinned (OpenSpec.upto blockBackSpec)

/-- 'entaillaw11.BlockRoot', WHERE WHAT IT READS IS OF BULK AT MOST 1048576: true; the input reads as it did. -/
def blockRootUptoRow : OpenClaim := { program := "yticnacaeibpicaa", sum := "43ed466c5355f88d6bdd7adca1d1544acea46372403dd0a01e92709aae471497", func := "entail/entaillaw11.BlockRoot", spec := "blockRoot", unfollowed := true, recurses := true, apart := false, narrowed := true }
def BlockRootUptoSaid : Prop := blockRootUptoRow.holds Try.pinned (OpenSpec.upto blockRootSpec)

end Rows
end Go.Proofs.Yticnacaeibpicaa
