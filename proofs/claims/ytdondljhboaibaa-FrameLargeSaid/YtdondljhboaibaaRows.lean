/-
  No cell of these rows narrows 'for every input' (looked for: loops, veiled, ifaces, maps, wideKeys, modest, calm, conditions, laid).
  DERIVED. THE GIVEN ROWS OF THIS SEAT. 6 by the template 'for every input the law returns true; each argument reads behind the call as it read before'; 0 by the template 'total and deterministic' (their statements: YtdondljhboaibaaTotals.lean).
  GIVEN WITH THE SEED: the statements are not yours to turn. If you find one false, say at which input.
  Laid BY PROGRAM, IN A SANDBOX (cutbox-rows.mjs): the forced cells as the released guide's own fill.sh prints them over the translation 1ed94ff5f951f3d4… (all of the seat's roots in one cut). By AI agents, Wed Nov 11 2026. No macro, syntax, notation, axiom, sorry.
-/
import Derived.Test.YtdondljhboaibaaChecked
import GoSem.Claim
import GoSem.ClaimJoined
import GoSem.ClaimMapViews
import Derived.JoinedTies
import Derived.KernelRfl
namespace Go.Proofs.Ytdondljhboaibaa
/- THE CELL 'sum', in the pinned program and in every row, IS THE sha256 OF THE DUMP (.gsa) THAT YtdondljhboaibaaProg.lean LOADS. Nothing in Lean hashes anything: it is a label: what it is worth is what the hold of that sum in a sandbox is worth. -/
noncomputable def Try.pinned : Pinned := { name := "ytdondljhboaibaa", sum := "1ed94ff5f951f3d43489d191d46da73a02bc9b50a17c0d059a42b19b57de4b13", checked := Try.checked }
namespace Rows
def none {H : Type} : Left H := { results := [], args := [] }

/-- 'entaillaw32.FrameEncode': WHATEVER THE INPUT: true; the input reads as it did. -/
def frameEncodeSpec : ChangeSpec := { name := "frameEncode", fn := fun _ => fun
  | [d1, d2] => { results := [.lit (.bool true)], args := [d1, d2] }
  | _ => none }
def frameEncodeRow : OpenClaim := { program := "ytdondljhboaibaa", sum := "1ed94ff5f951f3d43489d191d46da73a02bc9b50a17c0d059a42b19b57de4b13", func := "entail/entaillaw32.FrameEncode", spec := "frameEncode", recurses := true, apart := false }
def FrameEncodeSaid : Prop := frameEncodeRow.holds Try.pinned (OpenSpec.ofChange frameEncodeSpec)

/-- ITS FALSE NEIGHBOUR: 'it returns false'. Refute it at one input. -/
def frameEncodeWrong : ChangeSpec := { name := "frameEncode", fn := fun _ => fun
  | [d1, d2] => { results := [.lit (.bool false)], args := [d1, d2] }
  | _ => none }
def FrameEncodeWrongFalsely : Prop := frameEncodeRow.holds Try.pinned (OpenSpec.ofChange frameEncodeWrong)

/-- 'entaillaw32.FrameTake': WHATEVER THE INPUT: true; the input reads as it did. -/
def frameTakeSpec : ChangeSpec := { name := "frameTake", fn := fun _ => fun
  | [d] => { results := [.lit (.bool true)], args := [d] }
  | _ => none }
def frameTakeRow : OpenClaim := { program := "ytdondljhboaibaa", sum := "1ed94ff5f951f3d43489d191d46da73a02bc9b50a17c0d059a42b19b57de4b13", func := "entail/entaillaw32.FrameTake", spec := "frameTake", recurses := true, apart := false }
def FrameTakeSaid : Prop := frameTakeRow.holds Try.pinned (OpenSpec.ofChange frameTakeSpec)

/-- ITS FALSE NEIGHBOUR: 'it returns false'. Refute it at one input. -/
def frameTakeWrong : ChangeSpec := { name := "frameTake", fn := fun _ => fun
  | [d] => { results := [.lit (.bool false)], args := [d] }
  | _ => none }
def FrameTakeWrongFalsely : Prop := frameTakeRow.holds Try.pinned (OpenSpec.ofChange frameTakeWrong)

/-- 'entaillaw32.FrameOnly': WHATEVER THE INPUT: true; the input reads as it did. -/
def frameOnlySpec : ChangeSpec := { name := "frameOnly", fn := fun _ => fun
  | [d] => { results := [.lit (.bool true)], args := [d] }
  | _ => none }
def frameOnlyRow : OpenClaim := { program := "ytdondljhboaibaa", sum := "1ed94ff5f951f3d43489d191d46da73a02bc9b50a17c0d059a42b19b57de4b13", func := "entail/entaillaw32.FrameOnly", spec := "frameOnly", recurses := true, apart := false }
def FrameOnlySaid : Prop := frameOnlyRow.holds Try.pinned (OpenSpec.ofChange frameOnlySpec)

/-- ITS FALSE NEIGHBOUR: 'it returns false'. Refute it at one input. -/
def frameOnlyWrong : ChangeSpec := { name := "frameOnly", fn := fun _ => fun
  | [d] => { results := [.lit (.bool false)], args := [d] }
  | _ => none }
def FrameOnlyWrongFalsely : Prop := frameOnlyRow.holds Try.pinned (OpenSpec.ofChange frameOnlyWrong)

/-- 'entaillaw32.FrameLarge': WHATEVER THE INPUT: true; the input reads as it did. -/
def frameLargeSpec : ChangeSpec := { name := "frameLarge", fn := fun _ => fun
  | [d1, d2] => { results := [.lit (.bool true)], args := [d1, d2] }
  | _ => none }
def frameLargeRow : OpenClaim := { program := "ytdondljhboaibaa", sum := "1ed94ff5f951f3d43489d191d46da73a02bc9b50a17c0d059a42b19b57de4b13", func := "entail/entaillaw32.FrameLarge", spec := "frameLarge", recurses := true, apart := false }
def FrameLargeSaid : Prop := frameLargeRow.holds Try.pinned (OpenSpec.ofChange frameLargeSpec)

/-- ITS FALSE NEIGHBOUR: 'it returns false'. Refute it at one input. -/
def frameLargeWrong : ChangeSpec := { name := "frameLarge", fn := fun _ => fun
  | [d1, d2] => { results := [.lit (.bool false)], args := [d1, d2] }
  | _ => none }
def FrameLargeWrongFalsely : Prop := frameLargeRow.holds Try.pinned (OpenSpec.ofChange frameLargeWrong)

/-- 'entaillaw32.FrameAll': WHATEVER THE INPUT: true; the input reads as it did. -/
def frameAllSpec : ChangeSpec := { name := "frameAll", fn := fun _ => fun
  | [d] => { results := [.lit (.bool true)], args := [d] }
  | _ => none }
def frameAllRow : OpenClaim := { program := "ytdondljhboaibaa", sum := "1ed94ff5f951f3d43489d191d46da73a02bc9b50a17c0d059a42b19b57de4b13", func := "entail/entaillaw32.FrameAll", spec := "frameAll", recurses := true, apart := false }
def FrameAllSaid : Prop := frameAllRow.holds Try.pinned (OpenSpec.ofChange frameAllSpec)

/-- ITS FALSE NEIGHBOUR: 'it returns false'. Refute it at one input. -/
def frameAllWrong : ChangeSpec := { name := "frameAll", fn := fun _ => fun
  | [d] => { results := [.lit (.bool false)], args := [d] }
  | _ => none }
def FrameAllWrongFalsely : Prop := frameAllRow.holds Try.pinned (OpenSpec.ofChange frameAllWrong)

/-- 'entaillaw32.FrameBack': WHATEVER THE INPUT: true; the input reads as it did. -/
def frameBackSpec : ChangeSpec := { name := "frameBack", fn := fun _ => fun
  | [d1, d2, d3] => { results := [.lit (.bool true)], args := [d1, d2, d3] }
  | _ => none }
def frameBackRow : OpenClaim := { program := "ytdondljhboaibaa", sum := "1ed94ff5f951f3d43489d191d46da73a02bc9b50a17c0d059a42b19b57de4b13", func := "entail/entaillaw32.FrameBack", spec := "frameBack", recurses := true, apart := false }
def FrameBackSaid : Prop := frameBackRow.holds Try.pinned (OpenSpec.ofChange frameBackSpec)

/-- ITS FALSE NEIGHBOUR: 'it returns false'. Refute it at one input. -/
def frameBackWrong : ChangeSpec := { name := "frameBack", fn := fun _ => fun
  | [d1, d2, d3] => { results := [.lit (.bool false)], args := [d1, d2, d3] }
  | _ => none }
def FrameBackWrongFalsely : Prop := frameBackRow.holds Try.pinned (OpenSpec.ofChange frameBackWrong)

/- THE SECOND FORM. 'bulk': how many values and letters a reading holds, each counted each time it is reached (what is shared counts as often as it is met; a slice's spare places count too). A statement '..UptoSaid' is the law's where the arguments, and the package variables that the reading takes, are together of bulk at most 1048576: NARROWER than '..Said'. Prove '..Said' where nothing that the law and all that it calls make is longer than what came in: it says more and counts as full. Else prove '..UptoSaid'. A law counts once. -/
mutual
def uptoBulk {H : Type} : DataW H → Nat
  | .lit (.string bytes) => bytes.length + 1
  | .lit _ => 1
  | .nil => 1
  | .ptr d => uptoBulk d + 1
  | .slice elems spare => uptoBulkAll elems + uptoBulkAll spare + 1
  | .agg parts => uptoBulkAll parts + 1
  | .iface _ d => uptoBulk d + 1
  | .map entries => uptoBulkEntries entries + 1
  | .held _ => 1
def uptoBulkAll {H : Type} : List (DataW H) → Nat
  | [] => 0
  | d :: r => uptoBulk d + uptoBulkAll r
def uptoBulkEntries {H : Type} : List (Lit × DataW H) → Nat
  | [] => 0
  | x :: r => uptoBulkEntry x + uptoBulkEntries r
def uptoBulkEntry {H : Type} : Lit × DataW H → Nat
  | (.string bytes, d) => bytes.length + uptoBulk d + 1
  | (_, d) => uptoBulk d + 1
 end
def uptoSmall : (H : Type) → List (DataW H) → Bool := fun _ ds => decide (uptoBulkAll ds ≤ 1048576)
def OpenSpec.upto (s : _root_.Go.ChangeSpec) : _root_.Go.OpenSpec := { _root_.Go.OpenSpec.ofChange s with cond := some uptoSmall }

/-- 'entaillaw32.FrameEncode', WHERE WHAT IT READS IS OF BULK AT MOST 1048576: true; the input reads as it did. -/
def frameEncodeUptoRow : OpenClaim := { program := "ytdondljhboaibaa", sum := "1ed94ff5f951f3d43489d191d46da73a02bc9b50a17c0d059a42b19b57de4b13", func := "entail/entaillaw32.FrameEncode", spec := "frameEncode", recurses := true, apart := false, narrowed := true }
def FrameEncodeUptoSaid : Prop := frameEncodeUptoRow.holds Try.pinned (OpenSpec.upto frameEncodeSpec)

/-- 'entaillaw32.FrameTake', WHERE WHAT IT READS IS OF BULK AT MOST 1048576: true; the input reads as it did. -/
def frameTakeUptoRow : OpenClaim := { program := "ytdondljhboaibaa", sum := "1ed94ff5f951f3d43489d191d46da73a02bc9b50a17c0d059a42b19b57de4b13", func := "entail/entaillaw32.FrameTake", spec := "frameTake", recurses := true, apart := false, narrowed := true }
def FrameTakeUptoSaid : Prop := frameTakeUptoRow.holds Try.pinned (OpenSpec.upto frameTakeSpec)

/-- 'entaillaw32.FrameOnly', WHERE WHAT IT READS IS OF BULK AT MOST 1048576: true; the input reads as it did. -/
def frameOnlyUptoRow : OpenClaim := { program := "ytdondljhboaibaa", sum := "1ed94ff5f951f3d43489d191d46da73a02bc9b50a17c0d059a42b19b57de4b13", func := "entail/entaillaw32.FrameOnly", spec := "frameOnly", recurses := true, apart := false, narrowed := true }
def FrameOnlyUptoSaid : Prop := frameOnlyUptoRow.holds Try.pinned (OpenSpec.upto frameOnlySpec)

/-- 'entaillaw32.FrameLarge', WHERE WHAT IT READS IS OF BULK AT MOST 1048576: true; the input reads as it did. -/
def frameLargeUptoRow : OpenClaim := { program := "ytdondljhboaibaa", sum := "1ed94ff5f951f3d43489d191d46da73a02bc9b50a17c0d059a42b19b57de4b13", func := "entail/entaillaw32.FrameLarge", spec := "frameLarge", recurses := true, apart := false, narrowed := true }
def FrameLargeUptoSaid : Prop := frameLargeUptoRow.holds Try.pinned (OpenSpec.upto frameLargeSpec)

/-- 'entaillaw32.FrameAll', WHERE WHAT IT READS IS OF BULK AT MOST 1048576: true; the input reads as it did. -/
def frameAllUptoRow : OpenClaim := { program := "ytdondljhboaibaa", sum := "1ed94ff5f951f3d43489d191d46da73a02bc9b50a17c0d059a42b19b57de4b13", func := "entail/entaillaw32.FrameAll", spec := "frameAll", recurses := true, apart := false, narrowed := true }
def FrameAllUptoSaid : Prop := frameAllUptoRow.holds Try.pinned (OpenSpec.upto frameAllSpec)

/-- 'entaillaw32.FrameBack', WHERE WHAT IT READS IS OF BULK AT MOST 1048576: true; the input reads as it did. -/
def frameBackUptoRow : OpenClaim := { program := "ytdondljhboaibaa", sum := "1ed94ff5f951f3d43489d191d46da73a02bc9b50a17c0d059a42b19b57de4b13", func := "entail/entaillaw32.FrameBack", spec := "frameBack", recurses := true, apart := false, narrowed := true }
def FrameBackUptoSaid : Prop := frameBackUptoRow.holds Try.pinned (OpenSpec.upto frameBackSpec)

end Rows
end Go.Proofs.Ytdondljhboaibaa
