/-
  No cell of these rows narrows 'for every input' (looked for: loops, veiled, ifaces, maps, wideKeys, modest, calm, conditions, laid).
  DERIVED. THE GIVEN ROWS OF THIS SEAT. 10 by the template 'for every input the law returns true; each argument reads behind the call as it read before'; 0 by the template 'total and deterministic' (their statements: YtkkbgpfimapnoaaTotals.lean).
  GIVEN WITH THE SEED: the statements are not yours to turn. If you find one false, say at which input.
  Laid BY PROGRAM, IN A SANDBOX (cutbox-rows.mjs): the forced cells as the released guide's own fill.sh prints them over the translation 63bcdffb6e5b7c47… (all of the seat's roots in one cut). By AI agents, Wed Nov 11 2026. No macro, syntax, notation, axiom, sorry.
-/
import Derived.Test.YtkkbgpfimapnoaaChecked
import GoSem.Claim
import GoSem.ClaimJoined
import GoSem.ClaimMapViews
import Derived.JoinedTies
import Derived.KernelRfl
namespace Go.Proofs.Ytkkbgpfimapnoaa
/- THE CELL 'sum', in the pinned program and in every row, IS THE sha256 OF THE DUMP (.gsa) THAT YtkkbgpfimapnoaaProg.lean LOADS. Nothing in Lean hashes anything: it is a label: what it is worth is what the hold of that sum in a sandbox is worth. -/
noncomputable def Try.pinned : Pinned := { name := "ytkkbgpfimapnoaa", sum := "63bcdffb6e5b7c4751fb052eca13249b4b90808b93a8e97bac4645f067360ab0", checked := Try.checked }
namespace Rows
def none {H : Type} : Left H := { results := [], args := [] }

/-- 'tumblerlaw03.InstrCodes': WHATEVER THE INPUT: true; the input reads as it did. -/
def instrCodesSpec : ChangeSpec := { name := "instrCodes", fn := fun _ => fun
  | [d1, d2] => { results := [.lit (.bool true)], args := [d1, d2] }
  | _ => none }
def instrCodesRow : OpenClaim := { program := "ytkkbgpfimapnoaa", sum := "63bcdffb6e5b7c4751fb052eca13249b4b90808b93a8e97bac4645f067360ab0", func := "tumbler/tumblerlaw03.InstrCodes", spec := "instrCodes", apart := false }
def InstrCodesSaid : Prop := instrCodesRow.holds Try.pinned (OpenSpec.ofChange instrCodesSpec)

/-- ITS FALSE NEIGHBOUR: 'it returns false'. Refute it at one input. -/
def instrCodesWrong : ChangeSpec := { name := "instrCodes", fn := fun _ => fun
  | [d1, d2] => { results := [.lit (.bool false)], args := [d1, d2] }
  | _ => none }
def InstrCodesWrongFalsely : Prop := instrCodesRow.holds Try.pinned (OpenSpec.ofChange instrCodesWrong)

/-- 'tumblerlaw03.InstrBack': WHATEVER THE INPUT: true; the input reads as it did. -/
def instrBackSpec : ChangeSpec := { name := "instrBack", fn := fun _ => fun
  | [d1, d2, d3] => { results := [.lit (.bool true)], args := [d1, d2, d3] }
  | _ => none }
def instrBackRow : OpenClaim := { program := "ytkkbgpfimapnoaa", sum := "63bcdffb6e5b7c4751fb052eca13249b4b90808b93a8e97bac4645f067360ab0", func := "tumbler/tumblerlaw03.InstrBack", spec := "instrBack", apart := false }
def InstrBackSaid : Prop := instrBackRow.holds Try.pinned (OpenSpec.ofChange instrBackSpec)

/-- ITS FALSE NEIGHBOUR: 'it returns false'. Refute it at one input. -/
def instrBackWrong : ChangeSpec := { name := "instrBack", fn := fun _ => fun
  | [d1, d2, d3] => { results := [.lit (.bool false)], args := [d1, d2, d3] }
  | _ => none }
def InstrBackWrongFalsely : Prop := instrBackRow.holds Try.pinned (OpenSpec.ofChange instrBackWrong)

/-- 'tumblerlaw03.InstrNames': WHATEVER THE INPUT: true; the input reads as it did. -/
def instrNamesSpec : ChangeSpec := { name := "instrNames", fn := fun _ => fun
  | [d1, d2] => { results := [.lit (.bool true)], args := [d1, d2] }
  | _ => none }
def instrNamesRow : OpenClaim := { program := "ytkkbgpfimapnoaa", sum := "63bcdffb6e5b7c4751fb052eca13249b4b90808b93a8e97bac4645f067360ab0", func := "tumbler/tumblerlaw03.InstrNames", spec := "instrNames", apart := false }
def InstrNamesSaid : Prop := instrNamesRow.holds Try.pinned (OpenSpec.ofChange instrNamesSpec)

/-- ITS FALSE NEIGHBOUR: 'it returns false'. Refute it at one input. -/
def instrNamesWrong : ChangeSpec := { name := "instrNames", fn := fun _ => fun
  | [d1, d2] => { results := [.lit (.bool false)], args := [d1, d2] }
  | _ => none }
def InstrNamesWrongFalsely : Prop := instrNamesRow.holds Try.pinned (OpenSpec.ofChange instrNamesWrong)

/-- 'tumblerlaw03.InstrPlains': WHATEVER THE INPUT: true; the input reads as it did. -/
def instrPlainsSpec : ChangeSpec := { name := "instrPlains", fn := fun _ => fun
  | [d1, d2, d3] => { results := [.lit (.bool true)], args := [d1, d2, d3] }
  | _ => none }
def instrPlainsRow : OpenClaim := { program := "ytkkbgpfimapnoaa", sum := "63bcdffb6e5b7c4751fb052eca13249b4b90808b93a8e97bac4645f067360ab0", func := "tumbler/tumblerlaw03.InstrPlains", spec := "instrPlains", apart := false }
def InstrPlainsSaid : Prop := instrPlainsRow.holds Try.pinned (OpenSpec.ofChange instrPlainsSpec)

/-- ITS FALSE NEIGHBOUR: 'it returns false'. Refute it at one input. -/
def instrPlainsWrong : ChangeSpec := { name := "instrPlains", fn := fun _ => fun
  | [d1, d2, d3] => { results := [.lit (.bool false)], args := [d1, d2, d3] }
  | _ => none }
def InstrPlainsWrongFalsely : Prop := instrPlainsRow.holds Try.pinned (OpenSpec.ofChange instrPlainsWrong)

/-- 'tumblerlaw03.InstrParts': WHATEVER THE INPUT: true; the input reads as it did. -/
def instrPartsSpec : ChangeSpec := { name := "instrParts", fn := fun _ => fun
  | [d1, d2] => { results := [.lit (.bool true)], args := [d1, d2] }
  | _ => none }
def instrPartsRow : OpenClaim := { program := "ytkkbgpfimapnoaa", sum := "63bcdffb6e5b7c4751fb052eca13249b4b90808b93a8e97bac4645f067360ab0", func := "tumbler/tumblerlaw03.InstrParts", spec := "instrParts", apart := false }
def InstrPartsSaid : Prop := instrPartsRow.holds Try.pinned (OpenSpec.ofChange instrPartsSpec)

/-- ITS FALSE NEIGHBOUR: 'it returns false'. Refute it at one input. -/
def instrPartsWrong : ChangeSpec := { name := "instrParts", fn := fun _ => fun
  | [d1, d2] => { results := [.lit (.bool false)], args := [d1, d2] }
  | _ => none }
def InstrPartsWrongFalsely : Prop := instrPartsRow.holds Try.pinned (OpenSpec.ofChange instrPartsWrong)

/-- 'tumblerlaw05.CheckFaults': WHATEVER THE INPUT: true; the input reads as it did. -/
def checkFaultsSpec : ChangeSpec := { name := "checkFaults", fn := fun _ => fun
  | [d1, d2] => { results := [.lit (.bool true)], args := [d1, d2] }
  | _ => none }
def checkFaultsRow : OpenClaim := { program := "ytkkbgpfimapnoaa", sum := "63bcdffb6e5b7c4751fb052eca13249b4b90808b93a8e97bac4645f067360ab0", func := "tumbler/tumblerlaw05.CheckFaults", spec := "checkFaults", apart := false }
def CheckFaultsSaid : Prop := checkFaultsRow.holds Try.pinned (OpenSpec.ofChange checkFaultsSpec)

/-- ITS FALSE NEIGHBOUR: 'it returns false'. Refute it at one input. -/
def checkFaultsWrong : ChangeSpec := { name := "checkFaults", fn := fun _ => fun
  | [d1, d2] => { results := [.lit (.bool false)], args := [d1, d2] }
  | _ => none }
def CheckFaultsWrongFalsely : Prop := checkFaultsRow.holds Try.pinned (OpenSpec.ofChange checkFaultsWrong)

/-- 'tumblerlaw05.CheckReaches': WHATEVER THE INPUT: true; the input reads as it did. -/
def checkReachesSpec : ChangeSpec := { name := "checkReaches", fn := fun _ => fun
  | [d] => { results := [.lit (.bool true)], args := [d] }
  | _ => none }
def checkReachesRow : OpenClaim := { program := "ytkkbgpfimapnoaa", sum := "63bcdffb6e5b7c4751fb052eca13249b4b90808b93a8e97bac4645f067360ab0", func := "tumbler/tumblerlaw05.CheckReaches", spec := "checkReaches", apart := false }
def CheckReachesSaid : Prop := checkReachesRow.holds Try.pinned (OpenSpec.ofChange checkReachesSpec)

/-- ITS FALSE NEIGHBOUR: 'it returns false'. Refute it at one input. -/
def checkReachesWrong : ChangeSpec := { name := "checkReaches", fn := fun _ => fun
  | [d] => { results := [.lit (.bool false)], args := [d] }
  | _ => none }
def CheckReachesWrongFalsely : Prop := checkReachesRow.holds Try.pinned (OpenSpec.ofChange checkReachesWrong)

/-- 'tumblerlaw05.CheckWalks': WHATEVER THE INPUT: true; the input reads as it did. -/
def checkWalksSpec : ChangeSpec := { name := "checkWalks", fn := fun _ => fun
  | [d1, d2] => { results := [.lit (.bool true)], args := [d1, d2] }
  | _ => none }
def checkWalksRow : OpenClaim := { program := "ytkkbgpfimapnoaa", sum := "63bcdffb6e5b7c4751fb052eca13249b4b90808b93a8e97bac4645f067360ab0", func := "tumbler/tumblerlaw05.CheckWalks", spec := "checkWalks", apart := false }
def CheckWalksSaid : Prop := checkWalksRow.holds Try.pinned (OpenSpec.ofChange checkWalksSpec)

/-- ITS FALSE NEIGHBOUR: 'it returns false'. Refute it at one input. -/
def checkWalksWrong : ChangeSpec := { name := "checkWalks", fn := fun _ => fun
  | [d1, d2] => { results := [.lit (.bool false)], args := [d1, d2] }
  | _ => none }
def CheckWalksWrongFalsely : Prop := checkWalksRow.holds Try.pinned (OpenSpec.ofChange checkWalksWrong)

/-- 'tumblerlaw05.CheckCuts': WHATEVER THE INPUT: true; the input reads as it did. -/
def checkCutsSpec : ChangeSpec := { name := "checkCuts", fn := fun _ => fun
  | [d] => { results := [.lit (.bool true)], args := [d] }
  | _ => none }
def checkCutsRow : OpenClaim := { program := "ytkkbgpfimapnoaa", sum := "63bcdffb6e5b7c4751fb052eca13249b4b90808b93a8e97bac4645f067360ab0", func := "tumbler/tumblerlaw05.CheckCuts", spec := "checkCuts", apart := false }
def CheckCutsSaid : Prop := checkCutsRow.holds Try.pinned (OpenSpec.ofChange checkCutsSpec)

/-- ITS FALSE NEIGHBOUR: 'it returns false'. Refute it at one input. -/
def checkCutsWrong : ChangeSpec := { name := "checkCuts", fn := fun _ => fun
  | [d] => { results := [.lit (.bool false)], args := [d] }
  | _ => none }
def CheckCutsWrongFalsely : Prop := checkCutsRow.holds Try.pinned (OpenSpec.ofChange checkCutsWrong)

/-- 'tumblerlaw05.CheckJoins': WHATEVER THE INPUT: true; the input reads as it did. -/
def checkJoinsSpec : ChangeSpec := { name := "checkJoins", fn := fun _ => fun
  | [d1, d2] => { results := [.lit (.bool true)], args := [d1, d2] }
  | _ => none }
def checkJoinsRow : OpenClaim := { program := "ytkkbgpfimapnoaa", sum := "63bcdffb6e5b7c4751fb052eca13249b4b90808b93a8e97bac4645f067360ab0", func := "tumbler/tumblerlaw05.CheckJoins", spec := "checkJoins", apart := false }
def CheckJoinsSaid : Prop := checkJoinsRow.holds Try.pinned (OpenSpec.ofChange checkJoinsSpec)

/-- ITS FALSE NEIGHBOUR: 'it returns false'. Refute it at one input. -/
def checkJoinsWrong : ChangeSpec := { name := "checkJoins", fn := fun _ => fun
  | [d1, d2] => { results := [.lit (.bool false)], args := [d1, d2] }
  | _ => none }
def CheckJoinsWrongFalsely : Prop := checkJoinsRow.holds Try.pinned (OpenSpec.ofChange checkJoinsWrong)

/- THE SECOND FORM. 'bulk': how many values and letters a reading holds, each counted each time it is reached (what is shared counts as often as it is met; a slice's spare places count too). A statement '..UptoSaid' is the law's where the arguments, and the package variables that the reading takes, are together of bulk at most 1048576: NARROWER than '..Said'. Prove '..Said' where nothing that the law and all that it calls make is longer than what came in: it says more and counts as full. Else prove '..UptoSaid'. A law counts once. -/
mutual
def uptoBulk {H : Type} : DataW H → Nat
  | .lit (.string bytes) => bytes.length + 1
  | .lit _ => 1
  | .nil => 1
  | .ptr d => uptoBulk d + 1
  | .slice elems spare => uptoBulkAll elems + uptoBulkAll spare + 1
  | .agg parts => uptoBulkAll parts + 1
  | .iface _ d => uptoBulk d + 1
  | .map entries => uptoBulkEntries entries + 1
  | .held _ => 1
def uptoBulkAll {H : Type} : List (DataW H) → Nat
  | [] => 0
  | d :: r => uptoBulk d + uptoBulkAll r
def uptoBulkEntries {H : Type} : List (Lit × DataW H) → Nat
  | [] => 0
  | x :: r => uptoBulkEntry x + uptoBulkEntries r
def uptoBulkEntry {H : Type} : Lit × DataW H → Nat
  | (.string bytes, d) => bytes.length + uptoBulk d + 1
  | (_, d) => uptoBulk d + 1
 end
def uptoSmall : (H : Type) → List (DataW H) → Bool := fun _ ds => decide (uptoBulkAll ds ≤ 1048576)
def OpenSpec.upto (s : _root_.Go.ChangeSpec) : _root_.Go.OpenSpec := { _root_.Go.OpenSpec.ofChange s with cond := some uptoSmall }

/-- 'tumblerlaw03.InstrCodes', WHERE WHAT IT READS IS OF BULK AT MOST 1048576: true; the input reads as it did. -/
def instrCodesUptoRow : OpenClaim := { program := "ytkkbgpfimapnoaa", sum := "63bcdffb6e5b7c4751fb052eca13249b4b90808b93a8e97bac4645f067360ab0", func := "tumbler/tumblerlaw03.InstrCodes", spec := "instrCodes", apart := false, narrowed := true }
def InstrCodesUptoSaid : Prop := instrCodesUptoRow.holds Try.pinned (OpenSpec.upto instrCodesSpec)

/-- 'tumblerlaw03.InstrBack', WHERE WHAT IT READS IS OF BULK AT MOST 1048576: true; the input reads as it did. -/
def instrBackUptoRow : OpenClaim := { program := "ytkkbgpfimapnoaa", sum := "63bcdffb6e5b7c4751fb052eca13249b4b90808b93a8e97bac4645f067360ab0", func := "tumbler/tumblerlaw03.InstrBack", spec := "instrBack", apart := false, narrowed := true }
def InstrBackUptoSaid : Prop := instrBackUptoRow.holds Try.pinned (OpenSpec.upto instrBackSpec)

/-- 'tumblerlaw03.InstrNames', WHERE WHAT IT READS IS OF BULK AT MOST 1048576: true; the input reads as it did. -/
def instrNamesUptoRow : OpenClaim := { program := "ytkkbgpfimapnoaa", sum := "63bcdffb6e5b7c4751fb052eca13249b4b90808b93a8e97bac4645f067360ab0", func := "tumbler/tumblerlaw03.InstrNames", spec := "instrNames", apart := false, narrowed := true }
def InstrNamesUptoSaid : Prop := instrNamesUptoRow.holds Try.pinned (OpenSpec.upto instrNamesSpec)

/-- 'tumblerlaw03.InstrPlains', WHERE WHAT IT READS IS OF BULK AT MOST 1048576: true; the input reads as it did. -/
def instrPlainsUptoRow : OpenClaim := { program := "ytkkbgpfimapnoaa", sum := "63bcdffb6e5b7c4751fb052eca13249b4b90808b93a8e97bac4645f067360ab0", func := "tumbler/tumblerlaw03.InstrPlains", spec := "instrPlains", apart := false, narrowed := true }
def InstrPlainsUptoSaid : Prop := instrPlainsUptoRow.holds Try.pinned (OpenSpec.upto instrPlainsSpec)

/-- 'tumblerlaw03.InstrParts', WHERE WHAT IT READS IS OF BULK AT MOST 1048576: true; the input reads as it did. -/
def instrPartsUptoRow : OpenClaim := { program := "ytkkbgpfimapnoaa", sum := "63bcdffb6e5b7c4751fb052eca13249b4b90808b93a8e97bac4645f067360ab0", func := "tumbler/tumblerlaw03.InstrParts", spec := "instrParts", apart := false, narrowed := true }
def InstrPartsUptoSaid : Prop := instrPartsUptoRow.holds Try.pinned (OpenSpec.upto instrPartsSpec)

/-- 'tumblerlaw05.CheckFaults', WHERE WHAT IT READS IS OF BULK AT MOST 1048576: true; the input reads as it did. -/
def checkFaultsUptoRow : OpenClaim := { program := "ytkkbgpfimapnoaa", sum := "63bcdffb6e5b7c4751fb052eca13249b4b90808b93a8e97bac4645f067360ab0", func := "tumbler/tumblerlaw05.CheckFaults", spec := "checkFaults", apart := false, narrowed := true }
def CheckFaultsUptoSaid : Prop := checkFaultsUptoRow.holds Try.pinned (OpenSpec.upto checkFaultsSpec)

/-- 'tumblerlaw05.CheckReaches', WHERE WHAT IT READS IS OF BULK AT MOST 1048576: true; the input reads as it did. -/
def checkReachesUptoRow : OpenClaim := { program := "ytkkbgpfimapnoaa", sum := "63bcdffb6e5b7c4751fb052eca13249b4b90808b93a8e97bac4645f067360ab0", func := "tumbler/tumblerlaw05.CheckReaches", spec := "checkReaches", apart := false, narrowed := true }
def CheckReachesUptoSaid : Prop := checkReachesUptoRow.holds Try.pinned (OpenSpec.upto checkReachesSpec)

/-- 'tumblerlaw05.CheckWalks', WHERE WHAT IT READS IS OF BULK AT MOST 1048576: true; the input reads as it did. -/
def checkWalksUptoRow : OpenClaim := { program := "ytkkbgpfimapnoaa", sum := "63bcdffb6e5b7c4751fb052eca13249b4b90808b93a8e97bac4645f067360ab0", func := "tumbler/tumblerlaw05.CheckWalks", spec := "checkWalks", apart := false, narrowed := true }
def CheckWalksUptoSaid : Prop := checkWalksUptoRow.holds Try.pinned (OpenSpec.upto checkWalksSpec)

/-- 'tumblerlaw05.CheckCuts', WHERE WHAT IT READS IS OF BULK AT MOST 1048576: true; the input reads as it did. -/
def checkCutsUptoRow : OpenClaim := { program := "ytkkbgpfimapnoaa", sum := "63bcdffb6e5b7c4751fb052eca13249b4b90808b93a8e97bac4645f067360ab0", func := "tumbler/tumblerlaw05.CheckCuts", spec := "checkCuts", apart := false, narrowed := true }
def CheckCutsUptoSaid : Prop := checkCutsUptoRow.holds Try.pinned (OpenSpec.upto checkCutsSpec)

/-- 'tumblerlaw05.CheckJoins', WHERE WHAT IT READS IS OF BULK AT MOST 1048576: true; the input reads as it did. -/
def checkJoinsUptoRow : OpenClaim := { program := "ytkkbgpfimapnoaa", sum := "63bcdffb6e5b7c4751fb052eca13249b4b90808b93a8e97bac4645f067360ab0", func := "tumbler/tumblerlaw05.CheckJoins", spec := "checkJoins", apart := false, narrowed := true }
def CheckJoinsUptoSaid : Prop := checkJoinsUptoRow.holds Try.pinned (OpenSpec.upto checkJoinsSpec)

end Rows
end Go.Proofs.Ytkkbgpfimapnoaa
