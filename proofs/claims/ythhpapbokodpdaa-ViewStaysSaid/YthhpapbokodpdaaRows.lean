/-
  No cell of these rows narrows 'for every input' (looked for: loops, veiled, ifaces, maps, wideKeys, modest, calm, conditions, laid).
  DERIVED. THE GIVEN ROWS OF THIS SEAT. 4 by the template 'for every input the law returns true; each argument reads behind the call as it read before'; 0 by the template 'total and deterministic' (their statements: YthhpapbokodpdaaTotals.lean).
  GIVEN WITH THE SEED: the statements are not yours to turn. If you find one false, say at which input.
  Laid BY PROGRAM, IN A SANDBOX (cutbox-rows.mjs): the forced cells as the released guide's own fill.sh prints them over the translation 091e0a388f61339c… (all of the seat's roots in one cut). By AI agents, Wed Nov 11 2026. No macro, syntax, notation, axiom, sorry.
-/
import Derived.Test.YthhpapbokodpdaaChecked
import GoSem.Claim
import GoSem.ClaimJoined
import GoSem.ClaimMapViews
import Derived.JoinedTies
import Derived.KernelRfl
namespace Go.Proofs.Ythhpapbokodpdaa
/- THE CELL 'sum', in the pinned program and in every row, IS THE sha256 OF THE DUMP (.gsa) THAT YthhpapbokodpdaaProg.lean LOADS. Nothing in Lean hashes anything: it is a label: what it is worth is what the hold of that sum in a sandbox is worth. -/
noncomputable def Try.pinned : Pinned := { name := "ythhpapbokodpdaa", sum := "091e0a388f61339c74c72460764232f09ead7cf8f20a57ad4bbaf0788896c052", checked := Try.checked }
namespace Rows
def none {H : Type} : Left H := { results := [], args := [] }

/-- 'entaillaw25.ViewOrder': WHATEVER THE INPUT: true; the input reads as it did. -/
def viewOrderSpec : ChangeSpec := { name := "viewOrder", fn := fun _ => fun
  | [d1, d2] => { results := [.lit (.bool true)], args := [d1, d2] }
  | _ => none }
def viewOrderRow : OpenClaim := { program := "ythhpapbokodpdaa", sum := "091e0a388f61339c74c72460764232f09ead7cf8f20a57ad4bbaf0788896c052", func := "entail/entaillaw25.ViewOrder", spec := "viewOrder", inPlace := ["internal/bytealg.Compare", "slices.overlaps[entail/api.Coin]"], unfollowed := true, recurses := true, apart := false }
def ViewOrderSaid : Prop := viewOrderRow.holds Try.pinned (OpenSpec.ofChange viewOrderSpec)

/-- ITS FALSE NEIGHBOUR: 'it returns false'. Refute it at one input. -/
def viewOrderWrong : ChangeSpec := { name := "viewOrder", fn := fun _ => fun
  | [d1, d2] => { results := [.lit (.bool false)], args := [d1, d2] }
  | _ => none }
def ViewOrderWrongFalsely : Prop := viewOrderRow.holds Try.pinned (OpenSpec.ofChange viewOrderWrong)

/-- 'entaillaw25.ViewUndone': WHATEVER THE INPUT: true; the input reads as it did. -/
def viewUndoneSpec : ChangeSpec := { name := "viewUndone", fn := fun _ => fun
  | [d1, d2, d3] => { results := [.lit (.bool true)], args := [d1, d2, d3] }
  | _ => none }
def viewUndoneRow : OpenClaim := { program := "ythhpapbokodpdaa", sum := "091e0a388f61339c74c72460764232f09ead7cf8f20a57ad4bbaf0788896c052", func := "entail/entaillaw25.ViewUndone", spec := "viewUndone", inPlace := ["internal/bytealg.Compare", "slices.overlaps[entail/api.Coin]"], unfollowed := true, recurses := true, apart := false }
def ViewUndoneSaid : Prop := viewUndoneRow.holds Try.pinned (OpenSpec.ofChange viewUndoneSpec)

/-- ITS FALSE NEIGHBOUR: 'it returns false'. Refute it at one input. -/
def viewUndoneWrong : ChangeSpec := { name := "viewUndone", fn := fun _ => fun
  | [d1, d2, d3] => { results := [.lit (.bool false)], args := [d1, d2, d3] }
  | _ => none }
def ViewUndoneWrongFalsely : Prop := viewUndoneRow.holds Try.pinned (OpenSpec.ofChange viewUndoneWrong)

/-- 'entaillaw25.ViewStays': WHATEVER THE INPUT: true; the input reads as it did. -/
def viewStaysSpec : ChangeSpec := { name := "viewStays", fn := fun _ => fun
  | [d1, d2] => { results := [.lit (.bool true)], args := [d1, d2] }
  | _ => none }
def viewStaysRow : OpenClaim := { program := "ythhpapbokodpdaa", sum := "091e0a388f61339c74c72460764232f09ead7cf8f20a57ad4bbaf0788896c052", func := "entail/entaillaw25.ViewStays", spec := "viewStays", inPlace := ["internal/bytealg.Compare", "slices.overlaps[entail/api.Coin]"], unfollowed := true, recurses := true, apart := false }
def ViewStaysSaid : Prop := viewStaysRow.holds Try.pinned (OpenSpec.ofChange viewStaysSpec)

/-- ITS FALSE NEIGHBOUR: 'it returns false'. Refute it at one input. -/
def viewStaysWrong : ChangeSpec := { name := "viewStays", fn := fun _ => fun
  | [d1, d2] => { results := [.lit (.bool false)], args := [d1, d2] }
  | _ => none }
def ViewStaysWrongFalsely : Prop := viewStaysRow.holds Try.pinned (OpenSpec.ofChange viewStaysWrong)

/-- 'entaillaw25.ViewNil': WHATEVER THE INPUT: true; the input reads as it did. -/
def viewNilSpec : ChangeSpec := { name := "viewNil", fn := fun _ => fun
  | [d1, d2] => { results := [.lit (.bool true)], args := [d1, d2] }
  | _ => none }
def viewNilRow : OpenClaim := { program := "ythhpapbokodpdaa", sum := "091e0a388f61339c74c72460764232f09ead7cf8f20a57ad4bbaf0788896c052", func := "entail/entaillaw25.ViewNil", spec := "viewNil", inPlace := ["internal/bytealg.Compare", "slices.overlaps[entail/api.Coin]"], unfollowed := true, recurses := true, apart := false }
def ViewNilSaid : Prop := viewNilRow.holds Try.pinned (OpenSpec.ofChange viewNilSpec)

/-- ITS FALSE NEIGHBOUR: 'it returns false'. Refute it at one input. -/
def viewNilWrong : ChangeSpec := { name := "viewNil", fn := fun _ => fun
  | [d1, d2] => { results := [.lit (.bool false)], args := [d1, d2] }
  | _ => none }
def ViewNilWrongFalsely : Prop := viewNilRow.holds Try.pinned (OpenSpec.ofChange viewNilWrong)

/- THE SECOND FORM. 'bulk': how many values and letters a reading holds, each counted each time it is reached (what is shared counts as often as it is met; a slice's spare places count too). A statement '..UptoSaid' is the law's where the arguments, and the package variables that the reading takes, are together of bulk at most 1048576: NARROWER than '..Said'. Prove '..Said' where nothing that the law and all that it calls make is longer than what came in: it says more and counts as full. Else prove '..UptoSaid'. A law counts once. -/
mutual
def uptoBulk {H : Type} : DataW H → Nat
  | .lit (.string bytes) => bytes.length + 1
  | .lit _ => 1
  | .nil => 1
  | .ptr d => uptoBulk d + 1
  | .slice elems spare => uptoBulkAll elems + uptoBulkAll spare + 1
  | .agg parts => uptoBulkAll parts + 1
  | .iface _ d => uptoBulk d + 1
  | .map entries => uptoBulkEntries entries + 1
  | .held _ => 1
def uptoBulkAll {H : Type} : List (DataW H) → Nat
  | [] => 0
  | d :: r => uptoBulk d + uptoBulkAll r
def uptoBulkEntries {H : Type} : List (Lit × DataW H) → Nat
  | [] => 0
  | x :: r => uptoBulkEntry x + uptoBulkEntries r
def uptoBulkEntry {H : Type} : Lit × DataW H → Nat
  | (.string bytes, d) => bytes.length + uptoBulk d + 1
  | (_, d) => uptoBulk d + 1
 end
def uptoSmall : (H : Type) → List (DataW H) → Bool := fun _ ds => decide (uptoBulkAll ds ≤ 1048576)
def OpenSpec.upto (s : _root_.Go.ChangeSpec) : _root_.Go.OpenSpec := { _root_.Go.OpenSpec.ofChange s with cond := some uptoSmall }

/-- 'entaillaw25.ViewOrder', WHERE WHAT IT READS IS OF BULK AT MOST 1048576: true; the input reads as it did. -/
def viewOrderUptoRow : OpenClaim := { program := "ythhpapbokodpdaa", sum := "091e0a388f61339c74c72460764232f09ead7cf8f20a57ad4bbaf0788896c052", func := "entail/entaillaw25.ViewOrder", spec := "viewOrder", inPlace := ["internal/bytealg.Compare", "slices.overlaps[entail/api.Coin]"], unfollowed := true, recurses := true, apart := false, narrowed := true }
def ViewOrderUptoSaid : Prop := viewOrderUptoRow.holds Try.pinned (OpenSpec.upto viewOrderSpec)

/-- 'entaillaw25.ViewUndone', WHERE WHAT IT READS IS OF BULK AT MOST 1048576: true; the input reads as it did. -/
def viewUndoneUptoRow : OpenClaim := { program := "ythhpapbokodpdaa", sum := "091e0a388f61339c74c72460764232f09ead7cf8f20a57ad4bbaf0788896c052", func := "entail/entaillaw25.ViewUndone", spec := "viewUndone", inPlace := ["internal/bytealg.Compare", "slices.overlaps[entail/api.Coin]"], unfollowed := true, recurses := true, apart := false, narrowed := true }
def ViewUndoneUptoSaid : Prop := viewUndoneUptoRow.holds Try.pinned (OpenSpec.upto viewUndoneSpec)

/-- 'entaillaw25.ViewStays', WHERE WHAT IT READS IS OF BULK AT MOST 1048576: true; the input reads as it did. -/
def viewStaysUptoRow : OpenClaim := { program := "ythhpapbokodpdaa", sum := "091e0a388f61339c74c72460764232f09ead7cf8f20a57ad4bbaf0788896c052", func := "entail/entaillaw25.ViewStays", spec := "viewStays", inPlace := ["internal/bytealg.Compare", "slices.overlaps[entail/api.Coin]"], unfollowed := true, recurses := true, apart := false, narrowed := true }
def ViewStaysUptoSaid : Prop := viewStaysUptoRow.holds Try.pinned (OpenSpec.upto viewStaysSpec)

/-- 'entaillaw25.ViewNil', WHERE WHAT IT READS IS OF BULK AT MOST 1048576: true; the input reads as it did. -/
def viewNilUptoRow : OpenClaim := { program := "ythhpapbokodpdaa", sum := "091e0a388f61339c74c72460764232f09ead7cf8f20a57ad4bbaf0788896c052", func := "entail/entaillaw25.ViewNil", spec := "viewNil", inPlace := ["internal/bytealg.Compare", "slices.overlaps[entail/api.Coin]"], unfollowed := true, recurses := true, apart := false, narrowed := true }
def ViewNilUptoSaid : Prop := viewNilUptoRow.holds Try.pinned (OpenSpec.upto viewNilSpec)

end Rows
end Go.Proofs.Ythhpapbokodpdaa
