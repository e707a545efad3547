/-
  No cell of these rows narrows 'for every input' (looked for: loops, veiled, ifaces, maps, wideKeys, modest, calm, conditions, laid).
  DERIVED. THE GIVEN ROWS OF THIS SEAT. 6 by the template 'for every input the law returns true; each argument reads behind the call as it read before'; 0 by the template 'total and deterministic' (their statements: YtchljppcenckaaaTotals.lean).
  GIVEN WITH THE SEED: the statements are not yours to turn. If you find one false, say at which input.
  Laid BY PROGRAM, IN A SANDBOX (cutbox-rows.mjs): the forced cells as the released guide's own fill.sh prints them over the translation 949de7157796bcf5… (all of the seat's roots in one cut). By AI agents, Wed Nov 11 2026. No macro, syntax, notation, axiom, sorry.
-/
import Derived.Test.YtchljppcenckaaaChecked
import GoSem.Claim
import GoSem.ClaimJoined
import GoSem.ClaimMapViews
import Derived.JoinedTies
import Derived.KernelRfl
namespace Go.Proofs.Ytchljppcenckaaa
/- THE CELL 'sum', in the pinned program and in every row, IS THE sha256 OF THE DUMP (.gsa) THAT YtchljppcenckaaaProg.lean LOADS. Nothing in Lean hashes anything: it is a label: what it is worth is what the hold of that sum in a sandbox is worth. -/
noncomputable def Try.pinned : Pinned := { name := "ytchljppcenckaaa", sum := "949de7157796bcf5ba7545afc7a2b634df2c1c94a20806783c5812c8b90c3603", checked := Try.checked }
namespace Rows
def none {H : Type} : Left H := { results := [], args := [] }

/-- 'entaillaw09.TxTake': WHATEVER THE INPUT: true; the input reads as it did. -/
def txTakeSpec : ChangeSpec := { name := "txTake", fn := fun _ => fun
  | [d] => { results := [.lit (.bool true)], args := [d] }
  | _ => none }
def txTakeRow : OpenClaim := { program := "ytchljppcenckaaa", sum := "949de7157796bcf5ba7545afc7a2b634df2c1c94a20806783c5812c8b90c3603", func := "entail/entaillaw09.TxTake", spec := "txTake", unfollowed := true, recurses := true, apart := false }
def TxTakeSaid : Prop := txTakeRow.holds Try.pinned (OpenSpec.ofChange txTakeSpec)

/-- ITS FALSE NEIGHBOUR: 'it returns false'. Refute it at one input. -/
def txTakeWrong : ChangeSpec := { name := "txTake", fn := fun _ => fun
  | [d] => { results := [.lit (.bool false)], args := [d] }
  | _ => none }
def TxTakeWrongFalsely : Prop := txTakeRow.holds Try.pinned (OpenSpec.ofChange txTakeWrong)

/-- 'entaillaw09.TxSame': WHATEVER THE INPUT: true; the input reads as it did. -/
def txSameSpec : ChangeSpec := { name := "txSame", fn := fun _ => fun
  | [d1, d2] => { results := [.lit (.bool true)], args := [d1, d2] }
  | _ => none }
def txSameRow : OpenClaim := { program := "ytchljppcenckaaa", sum := "949de7157796bcf5ba7545afc7a2b634df2c1c94a20806783c5812c8b90c3603", func := "entail/entaillaw09.TxSame", spec := "txSame", unfollowed := true, recurses := true, apart := false }
def TxSameSaid : Prop := txSameRow.holds Try.pinned (OpenSpec.ofChange txSameSpec)

/-- ITS FALSE NEIGHBOUR: 'it returns false'. Refute it at one input. -/
def txSameWrong : ChangeSpec := { name := "txSame", fn := fun _ => fun
  | [d1, d2] => { results := [.lit (.bool false)], args := [d1, d2] }
  | _ => none }
def TxSameWrongFalsely : Prop := txSameRow.holds Try.pinned (OpenSpec.ofChange txSameWrong)

/-- 'entaillaw09.TxBack': WHATEVER THE INPUT: true; the input reads as it did. -/
def txBackSpec : ChangeSpec := { name := "txBack", fn := fun _ => fun
  | [d1, d2, d3] => { results := [.lit (.bool true)], args := [d1, d2, d3] }
  | _ => none }
def txBackRow : OpenClaim := { program := "ytchljppcenckaaa", sum := "949de7157796bcf5ba7545afc7a2b634df2c1c94a20806783c5812c8b90c3603", func := "entail/entaillaw09.TxBack", spec := "txBack", unfollowed := true, recurses := true, apart := false }
def TxBackSaid : Prop := txBackRow.holds Try.pinned (OpenSpec.ofChange txBackSpec)

/-- ITS FALSE NEIGHBOUR: 'it returns false'. Refute it at one input. -/
def txBackWrong : ChangeSpec := { name := "txBack", fn := fun _ => fun
  | [d1, d2, d3] => { results := [.lit (.bool false)], args := [d1, d2, d3] }
  | _ => none }
def TxBackWrongFalsely : Prop := txBackRow.holds Try.pinned (OpenSpec.ofChange txBackWrong)

/-- 'entaillaw09.TxOnly': WHATEVER THE INPUT: true; the input reads as it did. -/
def txOnlySpec : ChangeSpec := { name := "txOnly", fn := fun _ => fun
  | [d] => { results := [.lit (.bool true)], args := [d] }
  | _ => none }
def txOnlyRow : OpenClaim := { program := "ytchljppcenckaaa", sum := "949de7157796bcf5ba7545afc7a2b634df2c1c94a20806783c5812c8b90c3603", func := "entail/entaillaw09.TxOnly", spec := "txOnly", unfollowed := true, recurses := true, apart := false }
def TxOnlySaid : Prop := txOnlyRow.holds Try.pinned (OpenSpec.ofChange txOnlySpec)

/-- ITS FALSE NEIGHBOUR: 'it returns false'. Refute it at one input. -/
def txOnlyWrong : ChangeSpec := { name := "txOnly", fn := fun _ => fun
  | [d] => { results := [.lit (.bool false)], args := [d] }
  | _ => none }
def TxOnlyWrongFalsely : Prop := txOnlyRow.holds Try.pinned (OpenSpec.ofChange txOnlyWrong)

/-- 'entaillaw09.TxName': WHATEVER THE INPUT: true; the input reads as it did. -/
def txNameSpec : ChangeSpec := { name := "txName", fn := fun _ => fun
  | [d] => { results := [.lit (.bool true)], args := [d] }
  | _ => none }
def txNameRow : OpenClaim := { program := "ytchljppcenckaaa", sum := "949de7157796bcf5ba7545afc7a2b634df2c1c94a20806783c5812c8b90c3603", func := "entail/entaillaw09.TxName", spec := "txName", unfollowed := true, recurses := true, apart := false }
def TxNameSaid : Prop := txNameRow.holds Try.pinned (OpenSpec.ofChange txNameSpec)

/-- ITS FALSE NEIGHBOUR: 'it returns false'. Refute it at one input. -/
def txNameWrong : ChangeSpec := { name := "txName", fn := fun _ => fun
  | [d] => { results := [.lit (.bool false)], args := [d] }
  | _ => none }
def TxNameWrongFalsely : Prop := txNameRow.holds Try.pinned (OpenSpec.ofChange txNameWrong)

/-- 'entaillaw09.TxForms': WHATEVER THE INPUT: true; the input reads as it did. -/
def txFormsSpec : ChangeSpec := { name := "txForms", fn := fun _ => fun
  | [d] => { results := [.lit (.bool true)], args := [d] }
  | _ => none }
def txFormsRow : OpenClaim := { program := "ytchljppcenckaaa", sum := "949de7157796bcf5ba7545afc7a2b634df2c1c94a20806783c5812c8b90c3603", func := "entail/entaillaw09.TxForms", spec := "txForms", unfollowed := true, recurses := true, apart := false }
def TxFormsSaid : Prop := txFormsRow.holds Try.pinned (OpenSpec.ofChange txFormsSpec)

/-- ITS FALSE NEIGHBOUR: 'it returns false'. Refute it at one input. -/
def txFormsWrong : ChangeSpec := { name := "txForms", fn := fun _ => fun
  | [d] => { results := [.lit (.bool false)], args := [d] }
  | _ => none }
def TxFormsWrongFalsely : Prop := txFormsRow.holds Try.pinned (OpenSpec.ofChange txFormsWrong)

/- THE SECOND FORM. 'bulk': how many values and letters a reading holds, each counted each time it is reached (what is shared counts as often as it is met; a slice's spare places count too). A statement '..UptoSaid' is the law's where the arguments, and the package variables that the reading takes, are together of bulk at most 1048576: NARROWER than '..Said'. Prove '..Said' where nothing that the law and all that it calls make is longer than what came in: it says more and counts as full. Else prove '..UptoSaid'. A law counts once. -/
mutual
def uptoBulk {H : Type} : DataW H → Nat
  | .lit (.string bytes) => bytes.length + 1
  | .lit _ => 1
  | .nil => 1
  | .ptr d => uptoBulk d + 1
  | .slice elems spare => uptoBulkAll elems + uptoBulkAll spare + 1
  | .agg parts => uptoBulkAll parts + 1
  | .iface _ d => uptoBulk d + 1
  | .map entries => uptoBulkEntries entries + 1
  | .held _ => 1
def uptoBulkAll {H : Type} : List (DataW H) → Nat
  | [] => 0
  | d :: r => uptoBulk d + uptoBulkAll r
def uptoBulkEntries {H : Type} : List (Lit × DataW H) → Nat
  | [] => 0
  | x :: r => uptoBulkEntry x + uptoBulkEntries r
def uptoBulkEntry {H : Type} : Lit × DataW H → Nat
  | (.string bytes, d) => bytes.length + uptoBulk d + 1
  | (_, d) => uptoBulk d + 1
 end
def uptoSmall : (H : Type) → List (DataW H) → Bool := fun _ ds => decide (uptoBulkAll ds ≤ 1048576)
def OpenSpec.upto (s : _root_.Go.ChangeSpec) : _root_.Go.OpenSpec := { _root_.Go.OpenSpec.ofChange s with cond := some uptoSmall }

/-- 'entaillaw09.TxTake', WHERE WHAT IT READS IS OF BULK AT MOST 1048576: true; the input reads as it did. -/
def txTakeUptoRow : OpenClaim := { program := "ytchljppcenckaaa", sum := "949de7157796bcf5ba7545afc7a2b634df2c1c94a20806783c5812c8b90c3603", func := "entail/entaillaw09.TxTake", spec := "txTake", unfollowed := true, recurses := true, apart := false, narrowed := true }
def TxTakeUptoSaid : Prop := txTakeUptoRow.holds Try.pinned (OpenSpec.upto txTakeSpec)

/-- 'entaillaw09.TxSame', WHERE WHAT IT READS IS OF BULK AT MOST 1048576: true; the input reads as it did. -/
def txSameUptoRow : OpenClaim := { program := "ytchljppcenckaaa", sum := "949de7157796bcf5ba7545afc7a2b634df2c1c94a20806783c5812c8b90c3603", func := "entail/entaillaw09.TxSame", spec := "txSame", unfollowed := true, recurses := true, apart := false, narrowed := true }
def TxSameUptoSaid : Prop := txSameUptoRow.holds Try.pinned (OpenSpec.upto txSameSpec)

/-- 'entaillaw09.TxBack', WHERE WHAT IT READS IS OF BULK AT MOST 1048576: true; the input reads as it did. -/
def txBackUptoRow : OpenClaim := { program := "ytchljppcenckaaa", sum := "949de7157796bcf5ba7545afc7a2b634df2c1c94a20806783c5812c8b90c3603", func := "entail/entaillaw09.TxBack", spec := "txBack", unfollowed := true, recurses := true, apart := false, narrowed := true }
def TxBackUptoSaid : Prop := txBackUptoRow.holds Try.pinned (OpenSpec.upto txBackSpec)

/-- 'entaillaw09.TxOnly', WHERE WHAT IT READS IS OF BULK AT MOST 1048576: true; the input reads as it did. -/
def txOnlyUptoRow : OpenClaim := { program := "ytchljppcenckaaa", sum := "949de7157796bcf5ba7545afc7a2b634df2c1c94a20806783c5812c8b90c3603", func := "entail/entaillaw09.TxOnly", spec := "txOnly", unfollowed := true, recurses := true, apart := false, narrowed := true }
def TxOnlyUptoSaid : Prop := txOnlyUptoRow.holds Try.pinned (OpenSpec.upto txOnlySpec)

/-- 'entaillaw09.TxName', WHERE WHAT IT READS IS OF BULK AT MOST 1048576: true; the input reads as it did. -/
def txNameUptoRow : OpenClaim := { program := "ytchljppcenckaaa", sum := "949de7157796bcf5ba7545afc7a2b634df2c1c94a20806783c5812c8b90c3603", func := "entail/entaillaw09.TxName", spec := "txName", unfollowed := true, recurses := true, apart := false, narrowed := true }
def TxNameUptoSaid : Prop := txNameUptoRow.holds Try.pinned (OpenSpec.upto txNameSpec)

/-- 'entaillaw09.TxForms', WHERE WHAT IT READS IS OF BULK AT MOST 1048576: true; the input reads as it did. -/
def txFormsUptoRow : OpenClaim := { program := "ytchljppcenckaaa", sum := "949de7157796bcf5ba7545afc7a2b634df2c1c94a20806783c5812c8b90c3603", func := "entail/entaillaw09.TxForms", spec := "txForms", unfollowed := true, recurses := true, apart := false, narrowed := true }
def TxFormsUptoSaid : Prop := txFormsUptoRow.holds Try.pinned (OpenSpec.upto txFormsSpec)

end Rows
end Go.Proofs.Ytchljppcenckaaa
