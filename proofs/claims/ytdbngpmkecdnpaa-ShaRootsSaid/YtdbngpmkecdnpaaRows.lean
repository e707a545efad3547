/-
  No cell of these rows narrows 'for every input' (looked for: loops, veiled, ifaces, maps, wideKeys, modest, calm, conditions, laid).
  DERIVED. THE GIVEN ROWS OF THIS SEAT. 7 by the template 'for every input the law returns true; each argument reads behind the call as it read before'; 0 by the template 'total and deterministic' (their statements: YtdbngpmkecdnpaaTotals.lean).
  GIVEN WITH THE SEED: the statements are not yours to turn. If you find one false, say at which input.
  Laid BY PROGRAM, IN A SANDBOX (cutbox-rows.mjs): the forced cells as the released guide's own fill.sh prints them over the translation 9b41698d3054b522… (all of the seat's roots in one cut). By AI agents, Wed Nov 11 2026. No macro, syntax, notation, axiom, sorry.
-/
import Derived.Test.YtdbngpmkecdnpaaChecked
import GoSem.Claim
import GoSem.ClaimJoined
import GoSem.ClaimMapViews
import Derived.JoinedTies
import Derived.KernelRfl
namespace Go.Proofs.Ytdbngpmkecdnpaa
/- THE CELL 'sum', in the pinned program and in every row, IS THE sha256 OF THE DUMP (.gsa) THAT YtdbngpmkecdnpaaProg.lean LOADS. Nothing in Lean hashes anything: it is a label: what it is worth is what the hold of that sum in a sandbox is worth. -/
noncomputable def Try.pinned : Pinned := { name := "ytdbngpmkecdnpaa", sum := "9b41698d3054b5226b43ff39a3ec1735cb4b9cc259b867417005b74441705651", checked := Try.checked }
namespace Rows
def none {H : Type} : Left H := { results := [], args := [] }

/-- 'entaillaw07.ShaSum': WHATEVER THE INPUT: true; the input reads as it did. -/
def shaSumSpec : ChangeSpec := { name := "shaSum", fn := fun _ => fun
  | [d] => { results := [.lit (.bool true)], args := [d] }
  | _ => none }
def shaSumRow : OpenClaim := { program := "ytdbngpmkecdnpaa", sum := "9b41698d3054b5226b43ff39a3ec1735cb4b9cc259b867417005b74441705651", func := "entail/entaillaw07.ShaSum", spec := "shaSum", recurses := true, apart := false }
def ShaSumSaid : Prop := shaSumRow.holds Try.pinned (OpenSpec.ofChange shaSumSpec)

/-- ITS FALSE NEIGHBOUR: 'it returns false'. Refute it at one input. -/
def shaSumWrong : ChangeSpec := { name := "shaSum", fn := fun _ => fun
  | [d] => { results := [.lit (.bool false)], args := [d] }
  | _ => none }
def ShaSumWrongFalsely : Prop := shaSumRow.holds Try.pinned (OpenSpec.ofChange shaSumWrong)

/-- 'entaillaw07.ShaLong': WHATEVER THE INPUT: true; the input reads as it did. -/
def shaLongSpec : ChangeSpec := { name := "shaLong", fn := fun _ => fun
  | [d1, d2] => { results := [.lit (.bool true)], args := [d1, d2] }
  | _ => none }
def shaLongRow : OpenClaim := { program := "ytdbngpmkecdnpaa", sum := "9b41698d3054b5226b43ff39a3ec1735cb4b9cc259b867417005b74441705651", func := "entail/entaillaw07.ShaLong", spec := "shaLong", recurses := true, apart := false }
def ShaLongSaid : Prop := shaLongRow.holds Try.pinned (OpenSpec.ofChange shaLongSpec)

/-- ITS FALSE NEIGHBOUR: 'it returns false'. Refute it at one input. -/
def shaLongWrong : ChangeSpec := { name := "shaLong", fn := fun _ => fun
  | [d1, d2] => { results := [.lit (.bool false)], args := [d1, d2] }
  | _ => none }
def ShaLongWrongFalsely : Prop := shaLongRow.holds Try.pinned (OpenSpec.ofChange shaLongWrong)

/-- 'entaillaw07.ShaRoots': WHATEVER THE INPUT: true; the input reads as it did. -/
def shaRootsSpec : ChangeSpec := { name := "shaRoots", fn := fun _ => fun
  | [] => { results := [.lit (.bool true)], args := [] }
  | _ => none }
def shaRootsRow : OpenClaim := { program := "ytdbngpmkecdnpaa", sum := "9b41698d3054b5226b43ff39a3ec1735cb4b9cc259b867417005b74441705651", func := "entail/entaillaw07.ShaRoots", spec := "shaRoots", recurses := true, apart := false }
def ShaRootsSaid : Prop := shaRootsRow.holds Try.pinned (OpenSpec.ofChange shaRootsSpec)

/-- ITS FALSE NEIGHBOUR: 'it returns false'. Refute it at one input. -/
def shaRootsWrong : ChangeSpec := { name := "shaRoots", fn := fun _ => fun
  | [] => { results := [.lit (.bool false)], args := [] }
  | _ => none }
def ShaRootsWrongFalsely : Prop := shaRootsRow.holds Try.pinned (OpenSpec.ofChange shaRootsWrong)

/-- 'entaillaw07.ShaPieces': WHATEVER THE INPUT: true; the input reads as it did. -/
def shaPiecesSpec : ChangeSpec := { name := "shaPieces", fn := fun _ => fun
  | [d] => { results := [.lit (.bool true)], args := [d] }
  | _ => none }
def shaPiecesRow : OpenClaim := { program := "ytdbngpmkecdnpaa", sum := "9b41698d3054b5226b43ff39a3ec1735cb4b9cc259b867417005b74441705651", func := "entail/entaillaw07.ShaPieces", spec := "shaPieces", recurses := true, apart := false }
def ShaPiecesSaid : Prop := shaPiecesRow.holds Try.pinned (OpenSpec.ofChange shaPiecesSpec)

/-- ITS FALSE NEIGHBOUR: 'it returns false'. Refute it at one input. -/
def shaPiecesWrong : ChangeSpec := { name := "shaPieces", fn := fun _ => fun
  | [d] => { results := [.lit (.bool false)], args := [d] }
  | _ => none }
def ShaPiecesWrongFalsely : Prop := shaPiecesRow.holds Try.pinned (OpenSpec.ofChange shaPiecesWrong)

/-- 'entaillaw07.ShaNil': WHATEVER THE INPUT: true; the input reads as it did. -/
def shaNilSpec : ChangeSpec := { name := "shaNil", fn := fun _ => fun
  | [d] => { results := [.lit (.bool true)], args := [d] }
  | _ => none }
def shaNilRow : OpenClaim := { program := "ytdbngpmkecdnpaa", sum := "9b41698d3054b5226b43ff39a3ec1735cb4b9cc259b867417005b74441705651", func := "entail/entaillaw07.ShaNil", spec := "shaNil", recurses := true, apart := false }
def ShaNilSaid : Prop := shaNilRow.holds Try.pinned (OpenSpec.ofChange shaNilSpec)

/-- ITS FALSE NEIGHBOUR: 'it returns false'. Refute it at one input. -/
def shaNilWrong : ChangeSpec := { name := "shaNil", fn := fun _ => fun
  | [d] => { results := [.lit (.bool false)], args := [d] }
  | _ => none }
def ShaNilWrongFalsely : Prop := shaNilRow.holds Try.pinned (OpenSpec.ofChange shaNilWrong)

/-- 'entaillaw07.ShaMade': WHATEVER THE INPUT: true; the input reads as it did. -/
def shaMadeSpec : ChangeSpec := { name := "shaMade", fn := fun _ => fun
  | [d1, d2] => { results := [.lit (.bool true)], args := [d1, d2] }
  | _ => none }
def shaMadeRow : OpenClaim := { program := "ytdbngpmkecdnpaa", sum := "9b41698d3054b5226b43ff39a3ec1735cb4b9cc259b867417005b74441705651", func := "entail/entaillaw07.ShaMade", spec := "shaMade", recurses := true, apart := false }
def ShaMadeSaid : Prop := shaMadeRow.holds Try.pinned (OpenSpec.ofChange shaMadeSpec)

/-- ITS FALSE NEIGHBOUR: 'it returns false'. Refute it at one input. -/
def shaMadeWrong : ChangeSpec := { name := "shaMade", fn := fun _ => fun
  | [d1, d2] => { results := [.lit (.bool false)], args := [d1, d2] }
  | _ => none }
def ShaMadeWrongFalsely : Prop := shaMadeRow.holds Try.pinned (OpenSpec.ofChange shaMadeWrong)

/-- 'entaillaw07.ShaTags': WHATEVER THE INPUT: true; the input reads as it did. -/
def shaTagsSpec : ChangeSpec := { name := "shaTags", fn := fun _ => fun
  | [d1, d2] => { results := [.lit (.bool true)], args := [d1, d2] }
  | _ => none }
def shaTagsRow : OpenClaim := { program := "ytdbngpmkecdnpaa", sum := "9b41698d3054b5226b43ff39a3ec1735cb4b9cc259b867417005b74441705651", func := "entail/entaillaw07.ShaTags", spec := "shaTags", recurses := true, apart := false }
def ShaTagsSaid : Prop := shaTagsRow.holds Try.pinned (OpenSpec.ofChange shaTagsSpec)

/-- ITS FALSE NEIGHBOUR: 'it returns false'. Refute it at one input. -/
def shaTagsWrong : ChangeSpec := { name := "shaTags", fn := fun _ => fun
  | [d1, d2] => { results := [.lit (.bool false)], args := [d1, d2] }
  | _ => none }
def ShaTagsWrongFalsely : Prop := shaTagsRow.holds Try.pinned (OpenSpec.ofChange shaTagsWrong)

/- THE SECOND FORM. 'bulk': how many values and letters a reading holds, each counted each time it is reached (what is shared counts as often as it is met; a slice's spare places count too). A statement '..UptoSaid' is the law's where the arguments, and the package variables that the reading takes, are together of bulk at most 1048576: NARROWER than '..Said'. Prove '..Said' where nothing that the law and all that it calls make is longer than what came in: it says more and counts as full. Else prove '..UptoSaid'. A law counts once. -/
mutual
def uptoBulk {H : Type} : DataW H → Nat
  | .lit (.string bytes) => bytes.length + 1
  | .lit _ => 1
  | .nil => 1
  | .ptr d => uptoBulk d + 1
  | .slice elems spare => uptoBulkAll elems + uptoBulkAll spare + 1
  | .agg parts => uptoBulkAll parts + 1
  | .iface _ d => uptoBulk d + 1
  | .map entries => uptoBulkEntries entries + 1
  | .held _ => 1
def uptoBulkAll {H : Type} : List (DataW H) → Nat
  | [] => 0
  | d :: r => uptoBulk d + uptoBulkAll r
def uptoBulkEntries {H : Type} : List (Lit × DataW H) → Nat
  | [] => 0
  | x :: r => uptoBulkEntry x + uptoBulkEntries r
def uptoBulkEntry {H : Type} : Lit × DataW H → Nat
  | (.string bytes, d) => bytes.length + uptoBulk d + 1
  | (_, d) => uptoBulk d + 1
 end
def uptoSmall : (H : Type) → List (DataW H) → Bool := fun _ ds => decide (uptoBulkAll ds ≤ 1048576)
def OpenSpec.upto (s : _root_.Go.ChangeSpec) : _root_.Go.OpenSpec := { _root_.Go.OpenSpec.ofChange s with cond := some uptoSmall }

/-- 'entaillaw07.ShaSum', WHERE WHAT IT READS IS OF BULK AT MOST 1048576: true; the input reads as it did. -/
def shaSumUptoRow : OpenClaim := { program := "ytdbngpmkecdnpaa", sum := "9b41698d3054b5226b43ff39a3ec1735cb4b9cc259b867417005b74441705651", func := "entail/entaillaw07.ShaSum", spec := "shaSum", recurses := true, apart := false, narrowed := true }
def ShaSumUptoSaid : Prop := shaSumUptoRow.holds Try.pinned (OpenSpec.upto shaSumSpec)

/-- 'entaillaw07.ShaLong', WHERE WHAT IT READS IS OF BULK AT MOST 1048576: true; the input reads as it did. -/
def shaLongUptoRow : OpenClaim := { program := "ytdbngpmkecdnpaa", sum := "9b41698d3054b5226b43ff39a3ec1735cb4b9cc259b867417005b74441705651", func := "entail/entaillaw07.ShaLong", spec := "shaLong", recurses := true, apart := false, narrowed := true }
def ShaLongUptoSaid : Prop := shaLongUptoRow.holds Try.pinned (OpenSpec.upto shaLongSpec)

/-- 'entaillaw07.ShaRoots', WHERE WHAT IT READS IS OF BULK AT MOST 1048576: true; the input reads as it did. -/
def shaRootsUptoRow : OpenClaim := { program := "ytdbngpmkecdnpaa", sum := "9b41698d3054b5226b43ff39a3ec1735cb4b9cc259b867417005b74441705651", func := "entail/entaillaw07.ShaRoots", spec := "shaRoots", recurses := true, apart := false, narrowed := true }
def ShaRootsUptoSaid : Prop := shaRootsUptoRow.holds Try.pinned (OpenSpec.upto shaRootsSpec)

/-- 'entaillaw07.ShaPieces', WHERE WHAT IT READS IS OF BULK AT MOST 1048576: true; the input reads as it did. -/
def shaPiecesUptoRow : OpenClaim := { program := "ytdbngpmkecdnpaa", sum := "9b41698d3054b5226b43ff39a3ec1735cb4b9cc259b867417005b74441705651", func := "entail/entaillaw07.ShaPieces", spec := "shaPieces", recurses := true, apart := false, narrowed := true }
def ShaPiecesUptoSaid : Prop := shaPiecesUptoRow.holds Try.pinned (OpenSpec.upto shaPiecesSpec)

/-- 'entaillaw07.ShaNil', WHERE WHAT IT READS IS OF BULK AT MOST 1048576: true; the input reads as it did. -/
def shaNilUptoRow : OpenClaim := { program := "ytdbngpmkecdnpaa", sum := "9b41698d3054b5226b43ff39a3ec1735cb4b9cc259b867417005b74441705651", func := "entail/entaillaw07.ShaNil", spec := "shaNil", recurses := true, apart := false, narrowed := true }
def ShaNilUptoSaid : Prop := shaNilUptoRow.holds Try.pinned (OpenSpec.upto shaNilSpec)

/-- 'entaillaw07.ShaMade', WHERE WHAT IT READS IS OF BULK AT MOST 1048576: true; the input reads as it did. -/
def shaMadeUptoRow : OpenClaim := { program := "ytdbngpmkecdnpaa", sum := "9b41698d3054b5226b43ff39a3ec1735cb4b9cc259b867417005b74441705651", func := "entail/entaillaw07.ShaMade", spec := "shaMade", recurses := true, apart := false, narrowed := true }
def ShaMadeUptoSaid : Prop := shaMadeUptoRow.holds Try.pinned (OpenSpec.upto shaMadeSpec)

/-- 'entaillaw07.ShaTags', WHERE WHAT IT READS IS OF BULK AT MOST 1048576: true; the input reads as it did. -/
def shaTagsUptoRow : OpenClaim := { program := "ytdbngpmkecdnpaa", sum := "9b41698d3054b5226b43ff39a3ec1735cb4b9cc259b867417005b74441705651", func := "entail/entaillaw07.ShaTags", spec := "shaTags", recurses := true, apart := false, narrowed := true }
def ShaTagsUptoSaid : Prop := shaTagsUptoRow.holds Try.pinned (OpenSpec.upto shaTagsSpec)

end Rows
end Go.Proofs.Ytdbngpmkecdnpaa
