/-
  No cell of these rows narrows 'for every input' (looked for: loops, veiled, ifaces, maps, wideKeys, modest, calm, conditions, laid).
  DERIVED. THE GIVEN ROWS OF THIS SEAT. 5 by the template 'for every input the law returns true; each argument reads behind the call as it read before'; 0 by the template 'total and deterministic' (their statements: YtofhcigjidhnoaaTotals.lean).
  GIVEN WITH THE SEED: the statements are not yours to turn. If you find one false, say at which input.
  Laid BY PROGRAM, IN A SANDBOX (cutbox-rows.mjs): the forced cells as the released guide's own fill.sh prints them over the translation d0cb1b1333b456b3… (all of the seat's roots in one cut). By AI agents, Wed Nov 11 2026. No macro, syntax, notation, axiom, sorry.
-/
import Derived.Test.YtofhcigjidhnoaaChecked
import GoSem.Claim
import GoSem.ClaimJoined
import GoSem.ClaimMapViews
import Derived.JoinedTies
import Derived.KernelRfl
namespace Go.Proofs.Ytofhcigjidhnoaa
/- THE CELL 'sum', in the pinned program and in every row, IS THE sha256 OF THE DUMP (.gsa) THAT YtofhcigjidhnoaaProg.lean LOADS. Nothing in Lean hashes anything: it is a label: what it is worth is what the hold of that sum in a sandbox is worth. -/
noncomputable def Try.pinned : Pinned := { name := "ytofhcigjidhnoaa", sum := "d0cb1b1333b456b339378624d2f6231d7fe36abd272ef12184c4ba19035bdf7a", checked := Try.checked }
namespace Rows
def none {H : Type} : Left H := { results := [], args := [] }

/-- 'entaillaw08.MerkleRoot': WHATEVER THE INPUT: true; the input reads as it did. -/
def merkleRootSpec : ChangeSpec := { name := "merkleRoot", fn := fun _ => fun
  | [d] => { results := [.lit (.bool true)], args := [d] }
  | _ => none }
def merkleRootRow : OpenClaim := { program := "ytofhcigjidhnoaa", sum := "d0cb1b1333b456b339378624d2f6231d7fe36abd272ef12184c4ba19035bdf7a", func := "entail/entaillaw08.MerkleRoot", spec := "merkleRoot", recurses := true, apart := false }
def MerkleRootSaid : Prop := merkleRootRow.holds Try.pinned (OpenSpec.ofChange merkleRootSpec)

/-- ITS FALSE NEIGHBOUR: 'it returns false'. Refute it at one input. -/
def merkleRootWrong : ChangeSpec := { name := "merkleRoot", fn := fun _ => fun
  | [d] => { results := [.lit (.bool false)], args := [d] }
  | _ => none }
def MerkleRootWrongFalsely : Prop := merkleRootRow.holds Try.pinned (OpenSpec.ofChange merkleRootWrong)

/-- 'entaillaw08.MerkleBranch': WHATEVER THE INPUT: true; the input reads as it did. -/
def merkleBranchSpec : ChangeSpec := { name := "merkleBranch", fn := fun _ => fun
  | [d1, d2] => { results := [.lit (.bool true)], args := [d1, d2] }
  | _ => none }
def merkleBranchRow : OpenClaim := { program := "ytofhcigjidhnoaa", sum := "d0cb1b1333b456b339378624d2f6231d7fe36abd272ef12184c4ba19035bdf7a", func := "entail/entaillaw08.MerkleBranch", spec := "merkleBranch", recurses := true, apart := false }
def MerkleBranchSaid : Prop := merkleBranchRow.holds Try.pinned (OpenSpec.ofChange merkleBranchSpec)

/-- ITS FALSE NEIGHBOUR: 'it returns false'. Refute it at one input. -/
def merkleBranchWrong : ChangeSpec := { name := "merkleBranch", fn := fun _ => fun
  | [d1, d2] => { results := [.lit (.bool false)], args := [d1, d2] }
  | _ => none }
def MerkleBranchWrongFalsely : Prop := merkleBranchRow.holds Try.pinned (OpenSpec.ofChange merkleBranchWrong)

/-- 'entaillaw08.MerkleClimb': WHATEVER THE INPUT: true; the input reads as it did. -/
def merkleClimbSpec : ChangeSpec := { name := "merkleClimb", fn := fun _ => fun
  | [d1, d2, d3] => { results := [.lit (.bool true)], args := [d1, d2, d3] }
  | _ => none }
def merkleClimbRow : OpenClaim := { program := "ytofhcigjidhnoaa", sum := "d0cb1b1333b456b339378624d2f6231d7fe36abd272ef12184c4ba19035bdf7a", func := "entail/entaillaw08.MerkleClimb", spec := "merkleClimb", recurses := true, apart := false }
def MerkleClimbSaid : Prop := merkleClimbRow.holds Try.pinned (OpenSpec.ofChange merkleClimbSpec)

/-- ITS FALSE NEIGHBOUR: 'it returns false'. Refute it at one input. -/
def merkleClimbWrong : ChangeSpec := { name := "merkleClimb", fn := fun _ => fun
  | [d1, d2, d3] => { results := [.lit (.bool false)], args := [d1, d2, d3] }
  | _ => none }
def MerkleClimbWrongFalsely : Prop := merkleClimbRow.holds Try.pinned (OpenSpec.ofChange merkleClimbWrong)

/-- 'entaillaw08.MerkleUp': WHATEVER THE INPUT: true; the input reads as it did. -/
def merkleUpSpec : ChangeSpec := { name := "merkleUp", fn := fun _ => fun
  | [d] => { results := [.lit (.bool true)], args := [d] }
  | _ => none }
def merkleUpRow : OpenClaim := { program := "ytofhcigjidhnoaa", sum := "d0cb1b1333b456b339378624d2f6231d7fe36abd272ef12184c4ba19035bdf7a", func := "entail/entaillaw08.MerkleUp", spec := "merkleUp", recurses := true, apart := false }
def MerkleUpSaid : Prop := merkleUpRow.holds Try.pinned (OpenSpec.ofChange merkleUpSpec)

/-- ITS FALSE NEIGHBOUR: 'it returns false'. Refute it at one input. -/
def merkleUpWrong : ChangeSpec := { name := "merkleUp", fn := fun _ => fun
  | [d] => { results := [.lit (.bool false)], args := [d] }
  | _ => none }
def MerkleUpWrongFalsely : Prop := merkleUpRow.holds Try.pinned (OpenSpec.ofChange merkleUpWrong)

/-- 'entaillaw08.MerkleTwice': WHATEVER THE INPUT: true; the input reads as it did. -/
def merkleTwiceSpec : ChangeSpec := { name := "merkleTwice", fn := fun _ => fun
  | [d] => { results := [.lit (.bool true)], args := [d] }
  | _ => none }
def merkleTwiceRow : OpenClaim := { program := "ytofhcigjidhnoaa", sum := "d0cb1b1333b456b339378624d2f6231d7fe36abd272ef12184c4ba19035bdf7a", func := "entail/entaillaw08.MerkleTwice", spec := "merkleTwice", recurses := true, apart := false }
def MerkleTwiceSaid : Prop := merkleTwiceRow.holds Try.pinned (OpenSpec.ofChange merkleTwiceSpec)

/-- ITS FALSE NEIGHBOUR: 'it returns false'. Refute it at one input. -/
def merkleTwiceWrong : ChangeSpec := { name := "merkleTwice", fn := fun _ => fun
  | [d] => { results := [.lit (.bool false)], args := [d] }
  | _ => none }
def MerkleTwiceWrongFalsely : Prop := merkleTwiceRow.holds Try.pinned (OpenSpec.ofChange merkleTwiceWrong)

/- THE SECOND FORM. 'bulk': how many values and letters a reading holds, each counted each time it is reached (what is shared counts as often as it is met; a slice's spare places count too). A statement '..UptoSaid' is the law's where the arguments, and the package variables that the reading takes, are together of bulk at most 1048576: NARROWER than '..Said'. Prove '..Said' where nothing that the law and all that it calls make is longer than what came in: it says more and counts as full. Else prove '..UptoSaid'. A law counts once. -/
mutual
def uptoBulk {H : Type} : DataW H → Nat
  | .lit (.string bytes) => bytes.length + 1
  | .lit _ => 1
  | .nil => 1
  | .ptr d => uptoBulk d + 1
  | .slice elems spare => uptoBulkAll elems + uptoBulkAll spare + 1
  | .agg parts => uptoBulkAll parts + 1
  | .iface _ d => uptoBulk d + 1
  | .map entries => uptoBulkEntries entries + 1
  | .held _ => 1
def uptoBulkAll {H : Type} : List (DataW H) → Nat
  | [] => 0
  | d :: r => uptoBulk d + uptoBulkAll r
def uptoBulkEntries {H : Type} : List (Lit × DataW H) → Nat
  | [] => 0
  | x :: r => uptoBulkEntry x + uptoBulkEntries r
def uptoBulkEntry {H : Type} : Lit × DataW H → Nat
  | (.string bytes, d) => bytes.length + uptoBulk d + 1
  | (_, d) => uptoBulk d + 1
 end
def uptoSmall : (H : Type) → List (DataW H) → Bool := fun _ ds => decide (uptoBulkAll ds ≤ 1048576)
def OpenSpec.upto (s : _root_.Go.ChangeSpec) : _root_.Go.OpenSpec := { _root_.Go.OpenSpec.ofChange s with cond := some uptoSmall }

/-- 'entaillaw08.MerkleRoot', WHERE WHAT IT READS IS OF BULK AT MOST 1048576: true; the input reads as it did. -/
def merkleRootUptoRow : OpenClaim := { program := "ytofhcigjidhnoaa", sum := "d0cb1b1333b456b339378624d2f6231d7fe36abd272ef12184c4ba19035bdf7a", func := "entail/entaillaw08.MerkleRoot", spec := "merkleRoot", recurses := true, apart := false, narrowed := true }
def MerkleRootUptoSaid : Prop := merkleRootUptoRow.holds Try.pinned (OpenSpec.upto merkleRootSpec)

/-- 'entaillaw08.MerkleBranch', WHERE WHAT IT READS IS OF BULK AT MOST 1048576: true; the input reads as it did. -/
def merkleBranchUptoRow : OpenClaim := { program := "ytofhcigjidhnoaa", sum := "d0cb1b1333b456b339378624d2f6231d7fe36abd272ef12184c4ba19035bdf7a", func := "entail/entaillaw08.MerkleBranch", spec := "merkleBranch", recurses := true, apart := false, narrowed := true }
def MerkleBranchUptoSaid : Prop := merkleBranchUptoRow.holds Try.pinned (OpenSpec.upto merkleBranchSpec)

/-- 'entaillaw08.MerkleClimb', WHERE WHAT IT READS IS OF BULK AT MOST 1048576: true; the input reads as it did. -/
def merkleClimbUptoRow : OpenClaim := { program := "ytofhcigjidhnoaa", sum := "d0cb1b1333b456b339378624d2f6231d7fe36abd272ef12184c4ba19035bdf7a", func := "entail/entaillaw08.MerkleClimb", spec := "merkleClimb", recurses := true, apart := false, narrowed := true }
def MerkleClimbUptoSaid : Prop := merkleClimbUptoRow.holds Try.pinned (OpenSpec.upto merkleClimbSpec)

/-- 'entaillaw08.MerkleUp', WHERE WHAT IT READS IS OF BULK AT MOST 1048576: true; the input reads as it did. -/
def merkleUpUptoRow : OpenClaim := { program := "ytofhcigjidhnoaa", sum := "d0cb1b1333b456b339378624d2f6231d7fe36abd272ef12184c4ba19035bdf7a", func := "entail/entaillaw08.MerkleUp", spec := "merkleUp", recurses := true, apart := false, narrowed := true }
def MerkleUpUptoSaid : Prop := merkleUpUptoRow.holds Try.pinned (OpenSpec.upto merkleUpSpec)

/-- 'entaillaw08.MerkleTwice', WHERE WHAT IT READS IS OF BULK AT MOST 1048576: true; the input reads as it did. -/
def merkleTwiceUptoRow : OpenClaim := { program := "ytofhcigjidhnoaa", sum := "d0cb1b1333b456b339378624d2f6231d7fe36abd272ef12184c4ba19035bdf7a", func := "entail/entaillaw08.MerkleTwice", spec := "merkleTwice", recurses := true, apart := false, narrowed := true }
def MerkleTwiceUptoSaid : Prop := merkleTwiceUptoRow.holds Try.pinned (OpenSpec.upto merkleTwiceSpec)

end Rows
end Go.Proofs.Ytofhcigjidhnoaa
