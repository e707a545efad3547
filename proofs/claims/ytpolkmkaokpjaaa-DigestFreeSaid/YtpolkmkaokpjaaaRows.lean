/-
  No cell of these rows narrows 'for every input' (looked for: loops, veiled, ifaces, maps, wideKeys, modest, calm, conditions, laid).
  DERIVED. THE GIVEN ROWS OF THIS SEAT. 5 by the template 'for every input the law returns true; each argument reads behind the call as it read before'; 0 by the template 'total and deterministic' (their statements: YtpolkmkaokpjaaaTotals.lean).
  GIVEN WITH THE SEED: the statements are not yours to turn. If you find one false, say at which input.
  Laid BY PROGRAM, IN A SANDBOX (cutbox-rows.mjs): the forced cells as the released guide's own fill.sh prints them over the translation 68b0d6567dd9eadd… (all of the seat's roots in one cut). By AI agents, Wed Nov 11 2026. No macro, syntax, notation, axiom, sorry.
-/
import Derived.Test.YtpolkmkaokpjaaaChecked
import GoSem.Claim
import GoSem.ClaimJoined
import GoSem.ClaimMapViews
import Derived.JoinedTies
import Derived.KernelRfl
namespace Go.Proofs.Ytpolkmkaokpjaaa
/- THE CELL 'sum', in the pinned program and in every row, IS THE sha256 OF THE DUMP (.gsa) THAT YtpolkmkaokpjaaaProg.lean LOADS. Nothing in Lean hashes anything: it is a label: what it is worth is what the hold of that sum in a sandbox is worth. -/
noncomputable def Try.pinned : Pinned := { name := "ytpolkmkaokpjaaa", sum := "68b0d6567dd9eadd79a1aab76f44f676661362726483eca534f2ede29373ad29", checked := Try.checked }
namespace Rows
def none {H : Type} : Left H := { results := [], args := [] }

/-- 'entaillaw17.DigestAnnex': WHATEVER THE INPUT: true; the input reads as it did. -/
def digestAnnexSpec : ChangeSpec := { name := "digestAnnex", fn := fun _ => fun
  | [d] => { results := [.lit (.bool true)], args := [d] }
  | _ => none }
def digestAnnexRow : OpenClaim := { program := "ytpolkmkaokpjaaa", sum := "68b0d6567dd9eadd79a1aab76f44f676661362726483eca534f2ede29373ad29", func := "entail/entaillaw17.DigestAnnex", spec := "digestAnnex", unfollowed := true, recurses := true, apart := false }
def DigestAnnexSaid : Prop := digestAnnexRow.holds Try.pinned (OpenSpec.ofChange digestAnnexSpec)

/-- ITS FALSE NEIGHBOUR: 'it returns false'. Refute it at one input. -/
def digestAnnexWrong : ChangeSpec := { name := "digestAnnex", fn := fun _ => fun
  | [d] => { results := [.lit (.bool false)], args := [d] }
  | _ => none }
def DigestAnnexWrongFalsely : Prop := digestAnnexRow.holds Try.pinned (OpenSpec.ofChange digestAnnexWrong)

/-- 'entaillaw17.DigestTemplate': WHATEVER THE INPUT: true; the input reads as it did. -/
def digestTemplateSpec : ChangeSpec := { name := "digestTemplate", fn := fun _ => fun
  | [d1, d2] => { results := [.lit (.bool true)], args := [d1, d2] }
  | _ => none }
def digestTemplateRow : OpenClaim := { program := "ytpolkmkaokpjaaa", sum := "68b0d6567dd9eadd79a1aab76f44f676661362726483eca534f2ede29373ad29", func := "entail/entaillaw17.DigestTemplate", spec := "digestTemplate", unfollowed := true, recurses := true, apart := false }
def DigestTemplateSaid : Prop := digestTemplateRow.holds Try.pinned (OpenSpec.ofChange digestTemplateSpec)

/-- ITS FALSE NEIGHBOUR: 'it returns false'. Refute it at one input. -/
def digestTemplateWrong : ChangeSpec := { name := "digestTemplate", fn := fun _ => fun
  | [d1, d2] => { results := [.lit (.bool false)], args := [d1, d2] }
  | _ => none }
def DigestTemplateWrongFalsely : Prop := digestTemplateRow.holds Try.pinned (OpenSpec.ofChange digestTemplateWrong)

/-- 'entaillaw17.DigestMessage': WHATEVER THE INPUT: true; the input reads as it did. -/
def digestMessageSpec : ChangeSpec := { name := "digestMessage", fn := fun _ => fun
  | [d1, d2, d3] => { results := [.lit (.bool true)], args := [d1, d2, d3] }
  | _ => none }
def digestMessageRow : OpenClaim := { program := "ytpolkmkaokpjaaa", sum := "68b0d6567dd9eadd79a1aab76f44f676661362726483eca534f2ede29373ad29", func := "entail/entaillaw17.DigestMessage", spec := "digestMessage", unfollowed := true, recurses := true, apart := false }
def DigestMessageSaid : Prop := digestMessageRow.holds Try.pinned (OpenSpec.ofChange digestMessageSpec)

/-- ITS FALSE NEIGHBOUR: 'it returns false'. Refute it at one input. -/
def digestMessageWrong : ChangeSpec := { name := "digestMessage", fn := fun _ => fun
  | [d1, d2, d3] => { results := [.lit (.bool false)], args := [d1, d2, d3] }
  | _ => none }
def DigestMessageWrongFalsely : Prop := digestMessageRow.holds Try.pinned (OpenSpec.ofChange digestMessageWrong)

/-- 'entaillaw17.DigestFree': WHATEVER THE INPUT: true; the input reads as it did. -/
def digestFreeSpec : ChangeSpec := { name := "digestFree", fn := fun _ => fun
  | [d1, d2, d3] => { results := [.lit (.bool true)], args := [d1, d2, d3] }
  | _ => none }
def digestFreeRow : OpenClaim := { program := "ytpolkmkaokpjaaa", sum := "68b0d6567dd9eadd79a1aab76f44f676661362726483eca534f2ede29373ad29", func := "entail/entaillaw17.DigestFree", spec := "digestFree", unfollowed := true, recurses := true, apart := false }
def DigestFreeSaid : Prop := digestFreeRow.holds Try.pinned (OpenSpec.ofChange digestFreeSpec)

/-- ITS FALSE NEIGHBOUR: 'it returns false'. Refute it at one input. -/
def digestFreeWrong : ChangeSpec := { name := "digestFree", fn := fun _ => fun
  | [d1, d2, d3] => { results := [.lit (.bool false)], args := [d1, d2, d3] }
  | _ => none }
def DigestFreeWrongFalsely : Prop := digestFreeRow.holds Try.pinned (OpenSpec.ofChange digestFreeWrong)

/-- 'entaillaw17.DigestWhich': WHATEVER THE INPUT: true; the input reads as it did. -/
def digestWhichSpec : ChangeSpec := { name := "digestWhich", fn := fun _ => fun
  | [d1, d2] => { results := [.lit (.bool true)], args := [d1, d2] }
  | _ => none }
def digestWhichRow : OpenClaim := { program := "ytpolkmkaokpjaaa", sum := "68b0d6567dd9eadd79a1aab76f44f676661362726483eca534f2ede29373ad29", func := "entail/entaillaw17.DigestWhich", spec := "digestWhich", unfollowed := true, recurses := true, apart := false }
def DigestWhichSaid : Prop := digestWhichRow.holds Try.pinned (OpenSpec.ofChange digestWhichSpec)

/-- ITS FALSE NEIGHBOUR: 'it returns false'. Refute it at one input. -/
def digestWhichWrong : ChangeSpec := { name := "digestWhich", fn := fun _ => fun
  | [d1, d2] => { results := [.lit (.bool false)], args := [d1, d2] }
  | _ => none }
def DigestWhichWrongFalsely : Prop := digestWhichRow.holds Try.pinned (OpenSpec.ofChange digestWhichWrong)

/- THE SECOND FORM. 'bulk': how many values and letters a reading holds, each counted each time it is reached (what is shared counts as often as it is met; a slice's spare places count too). A statement '..UptoSaid' is the law's where the arguments, and the package variables that the reading takes, are together of bulk at most 1048576: NARROWER than '..Said'. Prove '..Said' where nothing that the law and all that it calls make is longer than what came in: it says more and counts as full. Else prove '..UptoSaid'. A law counts once. -/
mutual
def uptoBulk {H : Type} : DataW H → Nat
  | .lit (.string bytes) => bytes.length + 1
  | .lit _ => 1
  | .nil => 1
  | .ptr d => uptoBulk d + 1
  | .slice elems spare => uptoBulkAll elems + uptoBulkAll spare + 1
  | .agg parts => uptoBulkAll parts + 1
  | .iface _ d => uptoBulk d + 1
  | .map entries => uptoBulkEntries entries + 1
  | .held _ => 1
def uptoBulkAll {H : Type} : List (DataW H) → Nat
  | [] => 0
  | d :: r => uptoBulk d + uptoBulkAll r
def uptoBulkEntries {H : Type} : List (Lit × DataW H) → Nat
  | [] => 0
  | x :: r => uptoBulkEntry x + uptoBulkEntries r
def uptoBulkEntry {H : Type} : Lit × DataW H → Nat
  | (.string bytes, d) => bytes.length + uptoBulk d + 1
  | (_, d) => uptoBulk d + 1
 end
def uptoSmall : (H : Type) → List (DataW H) → Bool := fun _ ds => decide (uptoBulkAll ds ≤ 1048576)
def OpenSpec.upto (s : _root_.Go.ChangeSpec) : _root_.Go.OpenSpec := { _root_.Go.OpenSpec.ofChange s with cond := some uptoSmall }

/-- 'entaillaw17.DigestAnnex', WHERE WHAT IT READS IS OF BULK AT MOST 1048576: true; the input reads as it did. -/
def digestAnnexUptoRow : OpenClaim := { program := "ytpolkmkaokpjaaa", sum := "68b0d6567dd9eadd79a1aab76f44f676661362726483eca534f2ede29373ad29", func := "entail/entaillaw17.DigestAnnex", spec := "digestAnnex", unfollowed := true, recurses := true, apart := false, narrowed := true }
def DigestAnnexUptoSaid : Prop := digestAnnexUptoRow.holds Try.pinned (OpenSpec.upto digestAnnexSpec)

/-- 'entaillaw17.DigestTemplate', WHERE WHAT IT READS IS OF BULK AT MOST 1048576: true; the input reads as it did. -/
def digestTemplateUptoRow : OpenClaim := { program := "ytpolkmkaokpjaaa", sum := "68b0d6567dd9eadd79a1aab76f44f676661362726483eca534f2ede29373ad29", func := "entail/entaillaw17.DigestTemplate", spec := "digestTemplate", unfollowed := true, recurses := true, apart := false, narrowed := true }
def DigestTemplateUptoSaid : Prop := digestTemplateUptoRow.holds Try.pinned (OpenSpec.upto digestTemplateSpec)

/-- 'entaillaw17.DigestMessage', WHERE WHAT IT READS IS OF BULK AT MOST 1048576: true; the input reads as it did. -/
def digestMessageUptoRow : OpenClaim := { program := "ytpolkmkaokpjaaa", sum := "68b0d6567dd9eadd79a1aab76f44f676661362726483eca534f2ede29373ad29", func := "entail/entaillaw17.DigestMessage", spec := "digestMessage", unfollowed := true, recurses := true, apart := false, narrowed := true }
def DigestMessageUptoSaid : Prop := digestMessageUptoRow.holds Try.pinned (OpenSpec.upto digestMessageSpec)

/-- 'entaillaw17.DigestFree', WHERE WHAT IT READS IS OF BULK AT MOST 1048576: true; the input reads as it did. -/
def digestFreeUptoRow : OpenClaim := { program := "ytpolkmkaokpjaaa", sum := "68b0d6567dd9eadd79a1aab76f44f676661362726483eca534f2ede29373ad29", func := "entail/entaillaw17.DigestFree", spec := "digestFree", unfollowed := true, recurses := true, apart := false, narrowed := true }
def DigestFreeUptoSaid : Prop := digestFreeUptoRow.holds Try.pinned (OpenSpec.upto digestFreeSpec)

/-- 'entaillaw17.DigestWhich', WHERE WHAT IT READS IS OF BULK AT MOST 1048576: true; the input reads as it did. -/
def digestWhichUptoRow : OpenClaim := { program := "ytpolkmkaokpjaaa", sum := "68b0d6567dd9eadd79a1aab76f44f676661362726483eca534f2ede29373ad29", func := "entail/entaillaw17.DigestWhich", spec := "digestWhich", unfollowed := true, recurses := true, apart := false, narrowed := true }
def DigestWhichUptoSaid : Prop := digestWhichUptoRow.holds Try.pinned (OpenSpec.upto digestWhichSpec)

end Rows
end Go.Proofs.Ytpolkmkaokpjaaa
