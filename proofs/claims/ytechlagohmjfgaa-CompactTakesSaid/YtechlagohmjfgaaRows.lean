/-
  No cell of these rows narrows 'for every input' (looked for: loops, veiled, ifaces, maps, wideKeys, modest, calm, conditions, laid).
  DERIVED. THE GIVEN ROWS OF THIS SEAT. 7 by the template 'for every input the law returns true; each argument reads behind the call as it read before'; 0 by the template 'total and deterministic' (their statements: YtechlagohmjfgaaTotals.lean).
  GIVEN WITH THE SEED: the statements are not yours to turn. If you find one false, say at which input.
  Laid BY PROGRAM, IN A SANDBOX (cutbox-rows.mjs): the forced cells as the released guide's own fill.sh prints them over the translation 7cdef648766b2f2e… (all of the seat's roots in one cut). By AI agents, Wed Nov 11 2026. No macro, syntax, notation, axiom, sorry.
-/
import Derived.Test.YtechlagohmjfgaaChecked
import GoSem.Claim
import GoSem.ClaimJoined
import GoSem.ClaimMapViews
import Derived.JoinedTies
import Derived.KernelRfl
namespace Go.Proofs.Ytechlagohmjfgaa
/- THE CELL 'sum', in the pinned program and in every row, IS THE sha256 OF THE DUMP (.gsa) THAT YtechlagohmjfgaaProg.lean LOADS. Nothing in Lean hashes anything: it is a label: what it is worth is what the hold of that sum in a sandbox is worth. -/
noncomputable def Try.pinned : Pinned := { name := "ytechlagohmjfgaa", sum := "7cdef648766b2f2ecbce99bbbabab468af321b6ed531c68657ad725da8450e21", checked := Try.checked }
namespace Rows
def none {H : Type} : Left H := { results := [], args := [] }

/-- 'entaillaw01.CompactPut': WHATEVER THE INPUT: true; the input reads as it did. -/
def compactPutSpec : ChangeSpec := { name := "compactPut", fn := fun _ => fun
  | [d1, d2] => { results := [.lit (.bool true)], args := [d1, d2] }
  | _ => none }
def compactPutRow : OpenClaim := { program := "ytechlagohmjfgaa", sum := "7cdef648766b2f2ecbce99bbbabab468af321b6ed531c68657ad725da8450e21", func := "entail/entaillaw01.CompactPut", spec := "compactPut", apart := false }
def CompactPutSaid : Prop := compactPutRow.holds Try.pinned (OpenSpec.ofChange compactPutSpec)

/-- ITS FALSE NEIGHBOUR: 'it returns false'. Refute it at one input. -/
def compactPutWrong : ChangeSpec := { name := "compactPut", fn := fun _ => fun
  | [d1, d2] => { results := [.lit (.bool false)], args := [d1, d2] }
  | _ => none }
def CompactPutWrongFalsely : Prop := compactPutRow.holds Try.pinned (OpenSpec.ofChange compactPutWrong)

/-- 'entaillaw01.CompactLists': WHATEVER THE INPUT: true; the input reads as it did. -/
def compactListsSpec : ChangeSpec := { name := "compactLists", fn := fun _ => fun
  | [d1, d2] => { results := [.lit (.bool true)], args := [d1, d2] }
  | _ => none }
def compactListsRow : OpenClaim := { program := "ytechlagohmjfgaa", sum := "7cdef648766b2f2ecbce99bbbabab468af321b6ed531c68657ad725da8450e21", func := "entail/entaillaw01.CompactLists", spec := "compactLists", apart := false }
def CompactListsSaid : Prop := compactListsRow.holds Try.pinned (OpenSpec.ofChange compactListsSpec)

/-- ITS FALSE NEIGHBOUR: 'it returns false'. Refute it at one input. -/
def compactListsWrong : ChangeSpec := { name := "compactLists", fn := fun _ => fun
  | [d1, d2] => { results := [.lit (.bool false)], args := [d1, d2] }
  | _ => none }
def CompactListsWrongFalsely : Prop := compactListsRow.holds Try.pinned (OpenSpec.ofChange compactListsWrong)

/-- 'entaillaw01.CompactTake': WHATEVER THE INPUT: true; the input reads as it did. -/
def compactTakeSpec : ChangeSpec := { name := "compactTake", fn := fun _ => fun
  | [d1, d2] => { results := [.lit (.bool true)], args := [d1, d2] }
  | _ => none }
def compactTakeRow : OpenClaim := { program := "ytechlagohmjfgaa", sum := "7cdef648766b2f2ecbce99bbbabab468af321b6ed531c68657ad725da8450e21", func := "entail/entaillaw01.CompactTake", spec := "compactTake", apart := false }
def CompactTakeSaid : Prop := compactTakeRow.holds Try.pinned (OpenSpec.ofChange compactTakeSpec)

/-- ITS FALSE NEIGHBOUR: 'it returns false'. Refute it at one input. -/
def compactTakeWrong : ChangeSpec := { name := "compactTake", fn := fun _ => fun
  | [d1, d2] => { results := [.lit (.bool false)], args := [d1, d2] }
  | _ => none }
def CompactTakeWrongFalsely : Prop := compactTakeRow.holds Try.pinned (OpenSpec.ofChange compactTakeWrong)

/-- 'entaillaw01.CompactTakes': WHATEVER THE INPUT: true; the input reads as it did. -/
def compactTakesSpec : ChangeSpec := { name := "compactTakes", fn := fun _ => fun
  | [d1, d2, d3] => { results := [.lit (.bool true)], args := [d1, d2, d3] }
  | _ => none }
def compactTakesRow : OpenClaim := { program := "ytechlagohmjfgaa", sum := "7cdef648766b2f2ecbce99bbbabab468af321b6ed531c68657ad725da8450e21", func := "entail/entaillaw01.CompactTakes", spec := "compactTakes", apart := false }
def CompactTakesSaid : Prop := compactTakesRow.holds Try.pinned (OpenSpec.ofChange compactTakesSpec)

/-- ITS FALSE NEIGHBOUR: 'it returns false'. Refute it at one input. -/
def compactTakesWrong : ChangeSpec := { name := "compactTakes", fn := fun _ => fun
  | [d1, d2, d3] => { results := [.lit (.bool false)], args := [d1, d2, d3] }
  | _ => none }
def CompactTakesWrongFalsely : Prop := compactTakesRow.holds Try.pinned (OpenSpec.ofChange compactTakesWrong)

/-- 'entaillaw01.CompactCut': WHATEVER THE INPUT: true; the input reads as it did. -/
def compactCutSpec : ChangeSpec := { name := "compactCut", fn := fun _ => fun
  | [d1, d2, d3] => { results := [.lit (.bool true)], args := [d1, d2, d3] }
  | _ => none }
def compactCutRow : OpenClaim := { program := "ytechlagohmjfgaa", sum := "7cdef648766b2f2ecbce99bbbabab468af321b6ed531c68657ad725da8450e21", func := "entail/entaillaw01.CompactCut", spec := "compactCut", apart := false }
def CompactCutSaid : Prop := compactCutRow.holds Try.pinned (OpenSpec.ofChange compactCutSpec)

/-- ITS FALSE NEIGHBOUR: 'it returns false'. Refute it at one input. -/
def compactCutWrong : ChangeSpec := { name := "compactCut", fn := fun _ => fun
  | [d1, d2, d3] => { results := [.lit (.bool false)], args := [d1, d2, d3] }
  | _ => none }
def CompactCutWrongFalsely : Prop := compactCutRow.holds Try.pinned (OpenSpec.ofChange compactCutWrong)

/-- 'entaillaw01.CompactOnly': WHATEVER THE INPUT: true; the input reads as it did. -/
def compactOnlySpec : ChangeSpec := { name := "compactOnly", fn := fun _ => fun
  | [d1, d2, d3] => { results := [.lit (.bool true)], args := [d1, d2, d3] }
  | _ => none }
def compactOnlyRow : OpenClaim := { program := "ytechlagohmjfgaa", sum := "7cdef648766b2f2ecbce99bbbabab468af321b6ed531c68657ad725da8450e21", func := "entail/entaillaw01.CompactOnly", spec := "compactOnly", apart := false }
def CompactOnlySaid : Prop := compactOnlyRow.holds Try.pinned (OpenSpec.ofChange compactOnlySpec)

/-- ITS FALSE NEIGHBOUR: 'it returns false'. Refute it at one input. -/
def compactOnlyWrong : ChangeSpec := { name := "compactOnly", fn := fun _ => fun
  | [d1, d2, d3] => { results := [.lit (.bool false)], args := [d1, d2, d3] }
  | _ => none }
def CompactOnlyWrongFalsely : Prop := compactOnlyRow.holds Try.pinned (OpenSpec.ofChange compactOnlyWrong)

/-- 'entaillaw01.CompactBack': WHATEVER THE INPUT: true; the input reads as it did. -/
def compactBackSpec : ChangeSpec := { name := "compactBack", fn := fun _ => fun
  | [d1, d2, d3] => { results := [.lit (.bool true)], args := [d1, d2, d3] }
  | _ => none }
def compactBackRow : OpenClaim := { program := "ytechlagohmjfgaa", sum := "7cdef648766b2f2ecbce99bbbabab468af321b6ed531c68657ad725da8450e21", func := "entail/entaillaw01.CompactBack", spec := "compactBack", apart := false }
def CompactBackSaid : Prop := compactBackRow.holds Try.pinned (OpenSpec.ofChange compactBackSpec)

/-- ITS FALSE NEIGHBOUR: 'it returns false'. Refute it at one input. -/
def compactBackWrong : ChangeSpec := { name := "compactBack", fn := fun _ => fun
  | [d1, d2, d3] => { results := [.lit (.bool false)], args := [d1, d2, d3] }
  | _ => none }
def CompactBackWrongFalsely : Prop := compactBackRow.holds Try.pinned (OpenSpec.ofChange compactBackWrong)

/- THE SECOND FORM. 'bulk': how many values and letters a reading holds, each counted each time it is reached (what is shared counts as often as it is met; a slice's spare places count too). A statement '..UptoSaid' is the law's where the arguments, and the package variables that the reading takes, are together of bulk at most 1048576: NARROWER than '..Said'. Prove '..Said' where nothing that the law and all that it calls make is longer than what came in: it says more and counts as full. Else prove '..UptoSaid'. A law counts once. -/
mutual
def uptoBulk {H : Type} : DataW H → Nat
  | .lit (.string bytes) => bytes.length + 1
  | .lit _ => 1
  | .nil => 1
  | .ptr d => uptoBulk d + 1
  | .slice elems spare => uptoBulkAll elems + uptoBulkAll spare + 1
  | .agg parts => uptoBulkAll parts + 1
  | .iface _ d => uptoBulk d + 1
  | .map entries => uptoBulkEntries entries + 1
  | .held _ => 1
def uptoBulkAll {H : Type} : List (DataW H) → Nat
  | [] => 0
  | d :: r => uptoBulk d + uptoBulkAll r
def uptoBulkEntries {H : Type} : List (Lit × DataW H) → Nat
  | [] => 0
  | x :: r => uptoBulkEntry x + uptoBulkEntries r
def uptoBulkEntry {H : Type} : Lit × DataW H → Nat
  | (.string bytes, d) => bytes.length + uptoBulk d + 1
  | (_, d) => uptoBulk d + 1
 end
def uptoSmall : (H : Type) → List (DataW H) → Bool := fun _ ds => decide (uptoBulkAll ds ≤ 1048576)
def OpenSpec.upto (s : _root_.Go.ChangeSpec) : _root_.Go.OpenSpec := { _root_.Go.OpenSpec.ofChange s with cond := some uptoSmall }

/-- 'entaillaw01.CompactPut', WHERE WHAT IT READS IS OF BULK AT MOST 1048576: true; the input reads as it did. -/
def compactPutUptoRow : OpenClaim := { program := "ytechlagohmjfgaa", sum := "7cdef648766b2f2ecbce99bbbabab468af321b6ed531c68657ad725da8450e21", func := "entail/entaillaw01.CompactPut", spec := "compactPut", apart := false, narrowed := true }
def CompactPutUptoSaid : Prop := compactPutUptoRow.holds Try.pinned (OpenSpec.upto compactPutSpec)

/-- 'entaillaw01.CompactLists', WHERE WHAT IT READS IS OF BULK AT MOST 1048576: true; the input reads as it did. -/
def compactListsUptoRow : OpenClaim := { program := "ytechlagohmjfgaa", sum := "7cdef648766b2f2ecbce99bbbabab468af321b6ed531c68657ad725da8450e21", func := "entail/entaillaw01.CompactLists", spec := "compactLists", apart := false, narrowed := true }
def CompactListsUptoSaid : Prop := compactListsUptoRow.holds Try.pinned (OpenSpec.upto compactListsSpec)

/-- 'entaillaw01.CompactTake', WHERE WHAT IT READS IS OF BULK AT MOST 1048576: true; the input reads as it did. -/
def compactTakeUptoRow : OpenClaim := { program := "ytechlagohmjfgaa", sum := "7cdef648766b2f2ecbce99bbbabab468af321b6ed531c68657ad725da8450e21", func := "entail/entaillaw01.CompactTake", spec := "compactTake", apart := false, narrowed := true }
def CompactTakeUptoSaid : Prop := compactTakeUptoRow.holds Try.pinned (OpenSpec.upto compactTakeSpec)

/-- 'entaillaw01.CompactTakes', WHERE WHAT IT READS IS OF BULK AT MOST 1048576: true; the input reads as it did. -/
def compactTakesUptoRow : OpenClaim := { program := "ytechlagohmjfgaa", sum := "7cdef648766b2f2ecbce99bbbabab468af321b6ed531c68657ad725da8450e21", func := "entail/entaillaw01.CompactTakes", spec := "compactTakes", apart := false, narrowed := true }
def CompactTakesUptoSaid : Prop := compactTakesUptoRow.holds Try.pinned (OpenSpec.upto compactTakesSpec)

/-- 'entaillaw01.CompactCut', WHERE WHAT IT READS IS OF BULK AT MOST 1048576: true; the input reads as it did. -/
def compactCutUptoRow : OpenClaim := { program := "ytechlagohmjfgaa", sum := "7cdef648766b2f2ecbce99bbbabab468af321b6ed531c68657ad725da8450e21", func := "entail/entaillaw01.CompactCut", spec := "compactCut", apart := false, narrowed := true }
def CompactCutUptoSaid : Prop := compactCutUptoRow.holds Try.pinned (OpenSpec.upto compactCutSpec)

/-- 'entaillaw01.CompactOnly', WHERE WHAT IT READS IS OF BULK AT MOST 1048576: true; the input reads as it did. -/
def compactOnlyUptoRow : OpenClaim := { program := "ytechlagohmjfgaa", sum := "7cdef648766b2f2ecbce99bbbabab468af321b6ed531c68657ad725da8450e21", func := "entail/entaillaw01.CompactOnly", spec := "compactOnly", apart := false, narrowed := true }
def CompactOnlyUptoSaid : Prop := compactOnlyUptoRow.holds Try.pinned (OpenSpec.upto compactOnlySpec)

/-- 'entaillaw01.CompactBack', WHERE WHAT IT READS IS OF BULK AT MOST 1048576: true; the input reads as it did. -/
def compactBackUptoRow : OpenClaim := { program := "ytechlagohmjfgaa", sum := "7cdef648766b2f2ecbce99bbbabab468af321b6ed531c68657ad725da8450e21", func := "entail/entaillaw01.CompactBack", spec := "compactBack", apart := false, narrowed := true }
def CompactBackUptoSaid : Prop := compactBackUptoRow.holds Try.pinned (OpenSpec.upto compactBackSpec)

end Rows
end Go.Proofs.Ytechlagohmjfgaa
