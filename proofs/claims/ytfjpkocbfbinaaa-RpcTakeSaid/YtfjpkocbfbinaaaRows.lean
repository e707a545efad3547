/-
  No cell of these rows narrows 'for every input' (looked for: loops, veiled, ifaces, maps, wideKeys, modest, calm, conditions, laid).
  DERIVED. THE GIVEN ROWS OF THIS SEAT. 6 by the template 'for every input the law returns true; each argument reads behind the call as it read before'; 0 by the template 'total and deterministic' (their statements: YtfjpkocbfbinaaaTotals.lean).
  GIVEN WITH THE SEED: the statements are not yours to turn. If you find one false, say at which input.
  Laid BY PROGRAM, IN A SANDBOX (cutbox-rows.mjs): the forced cells as the released guide's own fill.sh prints them over the translation cb11126ab859ca9c… (all of the seat's roots in one cut). By AI agents, Wed Nov 11 2026. No macro, syntax, notation, axiom, sorry.
-/
import Derived.Test.YtfjpkocbfbinaaaChecked
import GoSem.Claim
import GoSem.ClaimJoined
import GoSem.ClaimMapViews
import Derived.JoinedTies
import Derived.KernelRfl
namespace Go.Proofs.Ytfjpkocbfbinaaa
/- THE CELL 'sum', in the pinned program and in every row, IS THE sha256 OF THE DUMP (.gsa) THAT YtfjpkocbfbinaaaProg.lean LOADS. Nothing in Lean hashes anything: it is a label: what it is worth is what the hold of that sum in a sandbox is worth. -/
noncomputable def Try.pinned : Pinned := { name := "ytfjpkocbfbinaaa", sum := "cb11126ab859ca9c193a65793ac514490364a01280c888b09aac9743ae16e408", checked := Try.checked }
namespace Rows
def none {H : Type} : Left H := { results := [], args := [] }

/-- 'entaillaw33.RpcQuestion': WHATEVER THE INPUT: true; the input reads as it did. -/
def rpcQuestionSpec : ChangeSpec := { name := "rpcQuestion", fn := fun _ => fun
  | [d1, d2] => { results := [.lit (.bool true)], args := [d1, d2] }
  | _ => none }
def rpcQuestionRow : OpenClaim := { program := "ytfjpkocbfbinaaa", sum := "cb11126ab859ca9c193a65793ac514490364a01280c888b09aac9743ae16e408", func := "entail/entaillaw33.RpcQuestion", spec := "rpcQuestion", unfollowed := true, recurses := true, apart := false }
def RpcQuestionSaid : Prop := rpcQuestionRow.holds Try.pinned (OpenSpec.ofChange rpcQuestionSpec)

/-- ITS FALSE NEIGHBOUR: 'it returns false'. Refute it at one input. -/
def rpcQuestionWrong : ChangeSpec := { name := "rpcQuestion", fn := fun _ => fun
  | [d1, d2] => { results := [.lit (.bool false)], args := [d1, d2] }
  | _ => none }
def RpcQuestionWrongFalsely : Prop := rpcQuestionRow.holds Try.pinned (OpenSpec.ofChange rpcQuestionWrong)

/-- 'entaillaw33.RpcTake': WHATEVER THE INPUT: true; the input reads as it did. -/
def rpcTakeSpec : ChangeSpec := { name := "rpcTake", fn := fun _ => fun
  | [d] => { results := [.lit (.bool true)], args := [d] }
  | _ => none }
def rpcTakeRow : OpenClaim := { program := "ytfjpkocbfbinaaa", sum := "cb11126ab859ca9c193a65793ac514490364a01280c888b09aac9743ae16e408", func := "entail/entaillaw33.RpcTake", spec := "rpcTake", unfollowed := true, recurses := true, apart := false }
def RpcTakeSaid : Prop := rpcTakeRow.holds Try.pinned (OpenSpec.ofChange rpcTakeSpec)

/-- ITS FALSE NEIGHBOUR: 'it returns false'. Refute it at one input. -/
def rpcTakeWrong : ChangeSpec := { name := "rpcTake", fn := fun _ => fun
  | [d] => { results := [.lit (.bool false)], args := [d] }
  | _ => none }
def RpcTakeWrongFalsely : Prop := rpcTakeRow.holds Try.pinned (OpenSpec.ofChange rpcTakeWrong)

/-- 'entaillaw33.RpcAnswer': WHATEVER THE INPUT: true; the input reads as it did. -/
def rpcAnswerSpec : ChangeSpec := { name := "rpcAnswer", fn := fun _ => fun
  | [d] => { results := [.lit (.bool true)], args := [d] }
  | _ => none }
def rpcAnswerRow : OpenClaim := { program := "ytfjpkocbfbinaaa", sum := "cb11126ab859ca9c193a65793ac514490364a01280c888b09aac9743ae16e408", func := "entail/entaillaw33.RpcAnswer", spec := "rpcAnswer", unfollowed := true, recurses := true, apart := false }
def RpcAnswerSaid : Prop := rpcAnswerRow.holds Try.pinned (OpenSpec.ofChange rpcAnswerSpec)

/-- ITS FALSE NEIGHBOUR: 'it returns false'. Refute it at one input. -/
def rpcAnswerWrong : ChangeSpec := { name := "rpcAnswer", fn := fun _ => fun
  | [d] => { results := [.lit (.bool false)], args := [d] }
  | _ => none }
def RpcAnswerWrongFalsely : Prop := rpcAnswerRow.holds Try.pinned (OpenSpec.ofChange rpcAnswerWrong)

/-- 'entaillaw33.RpcBack': WHATEVER THE INPUT: true; the input reads as it did. -/
def rpcBackSpec : ChangeSpec := { name := "rpcBack", fn := fun _ => fun
  | [d1, d2] => { results := [.lit (.bool true)], args := [d1, d2] }
  | _ => none }
def rpcBackRow : OpenClaim := { program := "ytfjpkocbfbinaaa", sum := "cb11126ab859ca9c193a65793ac514490364a01280c888b09aac9743ae16e408", func := "entail/entaillaw33.RpcBack", spec := "rpcBack", unfollowed := true, recurses := true, apart := false }
def RpcBackSaid : Prop := rpcBackRow.holds Try.pinned (OpenSpec.ofChange rpcBackSpec)

/-- ITS FALSE NEIGHBOUR: 'it returns false'. Refute it at one input. -/
def rpcBackWrong : ChangeSpec := { name := "rpcBack", fn := fun _ => fun
  | [d1, d2] => { results := [.lit (.bool false)], args := [d1, d2] }
  | _ => none }
def RpcBackWrongFalsely : Prop := rpcBackRow.holds Try.pinned (OpenSpec.ofChange rpcBackWrong)

/-- 'entaillaw33.RpcOnly': WHATEVER THE INPUT: true; the input reads as it did. -/
def rpcOnlySpec : ChangeSpec := { name := "rpcOnly", fn := fun _ => fun
  | [d] => { results := [.lit (.bool true)], args := [d] }
  | _ => none }
def rpcOnlyRow : OpenClaim := { program := "ytfjpkocbfbinaaa", sum := "cb11126ab859ca9c193a65793ac514490364a01280c888b09aac9743ae16e408", func := "entail/entaillaw33.RpcOnly", spec := "rpcOnly", unfollowed := true, recurses := true, apart := false }
def RpcOnlySaid : Prop := rpcOnlyRow.holds Try.pinned (OpenSpec.ofChange rpcOnlySpec)

/-- ITS FALSE NEIGHBOUR: 'it returns false'. Refute it at one input. -/
def rpcOnlyWrong : ChangeSpec := { name := "rpcOnly", fn := fun _ => fun
  | [d] => { results := [.lit (.bool false)], args := [d] }
  | _ => none }
def RpcOnlyWrongFalsely : Prop := rpcOnlyRow.holds Try.pinned (OpenSpec.ofChange rpcOnlyWrong)

/-- 'entaillaw33.RpcEntries': WHATEVER THE INPUT: true; the input reads as it did. -/
def rpcEntriesSpec : ChangeSpec := { name := "rpcEntries", fn := fun _ => fun
  | [d] => { results := [.lit (.bool true)], args := [d] }
  | _ => none }
def rpcEntriesRow : OpenClaim := { program := "ytfjpkocbfbinaaa", sum := "cb11126ab859ca9c193a65793ac514490364a01280c888b09aac9743ae16e408", func := "entail/entaillaw33.RpcEntries", spec := "rpcEntries", unfollowed := true, recurses := true, apart := false }
def RpcEntriesSaid : Prop := rpcEntriesRow.holds Try.pinned (OpenSpec.ofChange rpcEntriesSpec)

/-- ITS FALSE NEIGHBOUR: 'it returns false'. Refute it at one input. -/
def rpcEntriesWrong : ChangeSpec := { name := "rpcEntries", fn := fun _ => fun
  | [d] => { results := [.lit (.bool false)], args := [d] }
  | _ => none }
def RpcEntriesWrongFalsely : Prop := rpcEntriesRow.holds Try.pinned (OpenSpec.ofChange rpcEntriesWrong)

/- THE SECOND FORM. 'bulk': how many values and letters a reading holds, each counted each time it is reached (what is shared counts as often as it is met; a slice's spare places count too). A statement '..UptoSaid' is the law's where the arguments, and the package variables that the reading takes, are together of bulk at most 1048576: NARROWER than '..Said'. Prove '..Said' where nothing that the law and all that it calls make is longer than what came in: it says more and counts as full. Else prove '..UptoSaid'. A law counts once. -/
mutual
def uptoBulk {H : Type} : DataW H → Nat
  | .lit (.string bytes) => bytes.length + 1
  | .lit _ => 1
  | .nil => 1
  | .ptr d => uptoBulk d + 1
  | .slice elems spare => uptoBulkAll elems + uptoBulkAll spare + 1
  | .agg parts => uptoBulkAll parts + 1
  | .iface _ d => uptoBulk d + 1
  | .map entries => uptoBulkEntries entries + 1
  | .held _ => 1
def uptoBulkAll {H : Type} : List (DataW H) → Nat
  | [] => 0
  | d :: r => uptoBulk d + uptoBulkAll r
def uptoBulkEntries {H : Type} : List (Lit × DataW H) → Nat
  | [] => 0
  | x :: r => uptoBulkEntry x + uptoBulkEntries r
def uptoBulkEntry {H : Type} : Lit × DataW H → Nat
  | (.string bytes, d) => bytes.length + uptoBulk d + 1
  | (_, d) => uptoBulk d + 1
 end
def uptoSmall : (H : Type) → List (DataW H) → Bool := fun _ ds => decide (uptoBulkAll ds ≤ 1048576)
def OpenSpec.upto (s : _root_.Go.ChangeSpec) : _root_.Go.OpenSpec := { _root_.Go.OpenSpec.ofChange s with cond := some uptoSmall }

/-- 'entaillaw33.RpcQuestion', WHERE WHAT IT READS IS OF BULK AT MOST 1048576: true; the input reads as it did. -/
def rpcQuestionUptoRow : OpenClaim := { program := "ytfjpkocbfbinaaa", sum := "cb11126ab859ca9c193a65793ac514490364a01280c888b09aac9743ae16e408", func := "entail/entaillaw33.RpcQuestion", spec := "rpcQuestion", unfollowed := true, recurses := true, apart := false, narrowed := true }
def RpcQuestionUptoSaid : Prop := rpcQuestionUptoRow.holds Try.pinned (OpenSpec.upto rpcQuestionSpec)

/-- 'entaillaw33.RpcTake', WHERE WHAT IT READS IS OF BULK AT MOST 1048576: true; the input reads as it did. -/
def rpcTakeUptoRow : OpenClaim := { program := "ytfjpkocbfbinaaa", sum := "cb11126ab859ca9c193a65793ac514490364a01280c888b09aac9743ae16e408", func := "entail/entaillaw33.RpcTake", spec := "rpcTake", unfollowed := true, recurses := true, apart := false, narrowed := true }
def RpcTakeUptoSaid : Prop := rpcTakeUptoRow.holds Try.pinned (OpenSpec.upto rpcTakeSpec)

/-- 'entaillaw33.RpcAnswer', WHERE WHAT IT READS IS OF BULK AT MOST 1048576: true; the input reads as it did. -/
def rpcAnswerUptoRow : OpenClaim := { program := "ytfjpkocbfbinaaa", sum := "cb11126ab859ca9c193a65793ac514490364a01280c888b09aac9743ae16e408", func := "entail/entaillaw33.RpcAnswer", spec := "rpcAnswer", unfollowed := true, recurses := true, apart := false, narrowed := true }
def RpcAnswerUptoSaid : Prop := rpcAnswerUptoRow.holds Try.pinned (OpenSpec.upto rpcAnswerSpec)

/-- 'entaillaw33.RpcBack', WHERE WHAT IT READS IS OF BULK AT MOST 1048576: true; the input reads as it did. -/
def rpcBackUptoRow : OpenClaim := { program := "ytfjpkocbfbinaaa", sum := "cb11126ab859ca9c193a65793ac514490364a01280c888b09aac9743ae16e408", func := "entail/entaillaw33.RpcBack", spec := "rpcBack", unfollowed := true, recurses := true, apart := false, narrowed := true }
def RpcBackUptoSaid : Prop := rpcBackUptoRow.holds Try.pinned (OpenSpec.upto rpcBackSpec)

/-- 'entaillaw33.RpcOnly', WHERE WHAT IT READS IS OF BULK AT MOST 1048576: true; the input reads as it did. -/
def rpcOnlyUptoRow : OpenClaim := { program := "ytfjpkocbfbinaaa", sum := "cb11126ab859ca9c193a65793ac514490364a01280c888b09aac9743ae16e408", func := "entail/entaillaw33.RpcOnly", spec := "rpcOnly", unfollowed := true, recurses := true, apart := false, narrowed := true }
def RpcOnlyUptoSaid : Prop := rpcOnlyUptoRow.holds Try.pinned (OpenSpec.upto rpcOnlySpec)

/-- 'entaillaw33.RpcEntries', WHERE WHAT IT READS IS OF BULK AT MOST 1048576: true; the input reads as it did. -/
def rpcEntriesUptoRow : OpenClaim := { program := "ytfjpkocbfbinaaa", sum := "cb11126ab859ca9c193a65793ac514490364a01280c888b09aac9743ae16e408", func := "entail/entaillaw33.RpcEntries", spec := "rpcEntries", unfollowed := true, recurses := true, apart := false, narrowed := true }
def RpcEntriesUptoSaid : Prop := rpcEntriesUptoRow.holds Try.pinned (OpenSpec.upto rpcEntriesSpec)

end Rows
end Go.Proofs.Ytfjpkocbfbinaaa
