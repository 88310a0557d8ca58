/-
  No cell of these rows narrows 'for every input' (looked for: loops, veiled, ifaces, maps, wideKeys, modest, calm, conditions, laid).
  DERIVED. THE GIVEN ROWS OF THIS SEAT. 10 by the template 'for every input the law returns true; each argument reads behind the call as it read before'; 0 by the template 'total and deterministic' (their statements: YtddaeaimimdonaaTotals.lean).
  GIVEN WITH THE SEED: the statements are not yours to turn. If you find one false, say at which input.
  Laid BY PROGRAM, IN A SANDBOX (cutbox-rows.mjs): the forced cells as the released guide's own fill.sh prints them over the translation ff9d5969507a34d6… (all of the seat's roots in one cut). By AI agents, Wed Nov 11 2026. No macro, syntax, notation, axiom, sorry.
-/
import Derived.Test.YtddaeaimimdonaaChecked
import GoSem.Claim
import GoSem.ClaimJoined
import GoSem.ClaimMapViews
import Derived.JoinedTies
import Derived.KernelRfl
namespace Go.Proofs.Ytddaeaimimdonaa
/- THE CELL 'sum', in the pinned program and in every row, IS THE sha256 OF THE DUMP (.gsa) THAT YtddaeaimimdonaaProg.lean LOADS. Nothing in Lean hashes anything: it is a label: what it is worth is what the hold of that sum in a sandbox is worth. -/
noncomputable def Try.pinned : Pinned := { name := "ytddaeaimimdonaa", sum := "ff9d5969507a34d6ac873f009419aaefb5f25a5ce0524c8dcfa92263b09f8931", checked := Try.checked }
namespace Rows
def none {H : Type} : Left H := { results := [], args := [] }

/-- 'tumblerlaw06.ModelFuel': WHATEVER THE INPUT: true; the input reads as it did. -/
def modelFuelSpec : ChangeSpec := { name := "modelFuel", fn := fun _ => fun
  | [d1, d2, d3, d4] => { results := [.lit (.bool true)], args := [d1, d2, d3, d4] }
  | _ => none }
def modelFuelRow : OpenClaim := { program := "ytddaeaimimdonaa", sum := "ff9d5969507a34d6ac873f009419aaefb5f25a5ce0524c8dcfa92263b09f8931", func := "tumbler/tumblerlaw06.ModelFuel", spec := "modelFuel", inPlace := ["maps.clone"], unfollowed := true, recurses := true, apart := false }
def ModelFuelSaid : Prop := modelFuelRow.holds Try.pinned (OpenSpec.ofChange modelFuelSpec)

/-- ITS FALSE NEIGHBOUR: 'it returns false'. Refute it at one input. -/
def modelFuelWrong : ChangeSpec := { name := "modelFuel", fn := fun _ => fun
  | [d1, d2, d3, d4] => { results := [.lit (.bool false)], args := [d1, d2, d3, d4] }
  | _ => none }
def ModelFuelWrongFalsely : Prop := modelFuelRow.holds Try.pinned (OpenSpec.ofChange modelFuelWrong)

/-- 'tumblerlaw06.ModelBlocks': WHATEVER THE INPUT: true; the input reads as it did. -/
def modelBlocksSpec : ChangeSpec := { name := "modelBlocks", fn := fun _ => fun
  | [d1, d2, d3, d4, d5] => { results := [.lit (.bool true)], args := [d1, d2, d3, d4, d5] }
  | _ => none }
def modelBlocksRow : OpenClaim := { program := "ytddaeaimimdonaa", sum := "ff9d5969507a34d6ac873f009419aaefb5f25a5ce0524c8dcfa92263b09f8931", func := "tumbler/tumblerlaw06.ModelBlocks", spec := "modelBlocks", inPlace := ["maps.clone"], unfollowed := true, recurses := true, apart := false }
def ModelBlocksSaid : Prop := modelBlocksRow.holds Try.pinned (OpenSpec.ofChange modelBlocksSpec)

/-- ITS FALSE NEIGHBOUR: 'it returns false'. Refute it at one input. -/
def modelBlocksWrong : ChangeSpec := { name := "modelBlocks", fn := fun _ => fun
  | [d1, d2, d3, d4, d5] => { results := [.lit (.bool false)], args := [d1, d2, d3, d4, d5] }
  | _ => none }
def ModelBlocksWrongFalsely : Prop := modelBlocksRow.holds Try.pinned (OpenSpec.ofChange modelBlocksWrong)

/-- 'tumblerlaw06.ModelWords': WHATEVER THE INPUT: true; the input reads as it did. -/
def modelWordsSpec : ChangeSpec := { name := "modelWords", fn := fun _ => fun
  | [d1, d2] => { results := [.lit (.bool true)], args := [d1, d2] }
  | _ => none }
def modelWordsRow : OpenClaim := { program := "ytddaeaimimdonaa", sum := "ff9d5969507a34d6ac873f009419aaefb5f25a5ce0524c8dcfa92263b09f8931", func := "tumbler/tumblerlaw06.ModelWords", spec := "modelWords", inPlace := ["maps.clone"], unfollowed := true, recurses := true, apart := false }
def ModelWordsSaid : Prop := modelWordsRow.holds Try.pinned (OpenSpec.ofChange modelWordsSpec)

/-- ITS FALSE NEIGHBOUR: 'it returns false'. Refute it at one input. -/
def modelWordsWrong : ChangeSpec := { name := "modelWords", fn := fun _ => fun
  | [d1, d2] => { results := [.lit (.bool false)], args := [d1, d2] }
  | _ => none }
def ModelWordsWrongFalsely : Prop := modelWordsRow.holds Try.pinned (OpenSpec.ofChange modelWordsWrong)

/-- 'tumblerlaw06.ModelKeeps': WHATEVER THE INPUT: true; the input reads as it did. -/
def modelKeepsSpec : ChangeSpec := { name := "modelKeeps", fn := fun _ => fun
  | [d1, d2] => { results := [.lit (.bool true)], args := [d1, d2] }
  | _ => none }
def modelKeepsRow : OpenClaim := { program := "ytddaeaimimdonaa", sum := "ff9d5969507a34d6ac873f009419aaefb5f25a5ce0524c8dcfa92263b09f8931", func := "tumbler/tumblerlaw06.ModelKeeps", spec := "modelKeeps", inPlace := ["maps.clone"], unfollowed := true, recurses := true, apart := false }
def ModelKeepsSaid : Prop := modelKeepsRow.holds Try.pinned (OpenSpec.ofChange modelKeepsSpec)

/-- ITS FALSE NEIGHBOUR: 'it returns false'. Refute it at one input. -/
def modelKeepsWrong : ChangeSpec := { name := "modelKeeps", fn := fun _ => fun
  | [d1, d2] => { results := [.lit (.bool false)], args := [d1, d2] }
  | _ => none }
def ModelKeepsWrongFalsely : Prop := modelKeepsRow.holds Try.pinned (OpenSpec.ofChange modelKeepsWrong)

/-- 'tumblerlaw06.ModelMakes': WHATEVER THE INPUT: true; the input reads as it did. -/
def modelMakesSpec : ChangeSpec := { name := "modelMakes", fn := fun _ => fun
  | [d1, d2] => { results := [.lit (.bool true)], args := [d1, d2] }
  | _ => none }
def modelMakesRow : OpenClaim := { program := "ytddaeaimimdonaa", sum := "ff9d5969507a34d6ac873f009419aaefb5f25a5ce0524c8dcfa92263b09f8931", func := "tumbler/tumblerlaw06.ModelMakes", spec := "modelMakes", inPlace := ["maps.clone"], unfollowed := true, recurses := true, apart := false }
def ModelMakesSaid : Prop := modelMakesRow.holds Try.pinned (OpenSpec.ofChange modelMakesSpec)

/-- ITS FALSE NEIGHBOUR: 'it returns false'. Refute it at one input. -/
def modelMakesWrong : ChangeSpec := { name := "modelMakes", fn := fun _ => fun
  | [d1, d2] => { results := [.lit (.bool false)], args := [d1, d2] }
  | _ => none }
def ModelMakesWrongFalsely : Prop := modelMakesRow.holds Try.pinned (OpenSpec.ofChange modelMakesWrong)

/-- 'tumblerlaw06.ModelLongest': WHATEVER THE INPUT: true; the input reads as it did. -/
def modelLongestSpec : ChangeSpec := { name := "modelLongest", fn := fun _ => fun
  | [d] => { results := [.lit (.bool true)], args := [d] }
  | _ => none }
def modelLongestRow : OpenClaim := { program := "ytddaeaimimdonaa", sum := "ff9d5969507a34d6ac873f009419aaefb5f25a5ce0524c8dcfa92263b09f8931", func := "tumbler/tumblerlaw06.ModelLongest", spec := "modelLongest", inPlace := ["maps.clone"], unfollowed := true, recurses := true, apart := false }
def ModelLongestSaid : Prop := modelLongestRow.holds Try.pinned (OpenSpec.ofChange modelLongestSpec)

/-- ITS FALSE NEIGHBOUR: 'it returns false'. Refute it at one input. -/
def modelLongestWrong : ChangeSpec := { name := "modelLongest", fn := fun _ => fun
  | [d] => { results := [.lit (.bool false)], args := [d] }
  | _ => none }
def ModelLongestWrongFalsely : Prop := modelLongestRow.holds Try.pinned (OpenSpec.ofChange modelLongestWrong)

/-- 'tumblerlaw19.LinkJoins': WHATEVER THE INPUT: true; the input reads as it did. -/
def linkJoinsSpec : ChangeSpec := { name := "linkJoins", fn := fun _ => fun
  | [d] => { results := [.lit (.bool true)], args := [d] }
  | _ => none }
def linkJoinsRow : OpenClaim := { program := "ytddaeaimimdonaa", sum := "ff9d5969507a34d6ac873f009419aaefb5f25a5ce0524c8dcfa92263b09f8931", func := "tumbler/tumblerlaw19.LinkJoins", spec := "linkJoins", inPlace := ["maps.clone"], apart := false }
def LinkJoinsSaid : Prop := linkJoinsRow.holds Try.pinned (OpenSpec.ofChange linkJoinsSpec)

/-- ITS FALSE NEIGHBOUR: 'it returns false'. Refute it at one input. -/
def linkJoinsWrong : ChangeSpec := { name := "linkJoins", fn := fun _ => fun
  | [d] => { results := [.lit (.bool false)], args := [d] }
  | _ => none }
def LinkJoinsWrongFalsely : Prop := linkJoinsRow.holds Try.pinned (OpenSpec.ofChange linkJoinsWrong)

/-- 'tumblerlaw19.LinkSizes': WHATEVER THE INPUT: true; the input reads as it did. -/
def linkSizesSpec : ChangeSpec := { name := "linkSizes", fn := fun _ => fun
  | [d1, d2] => { results := [.lit (.bool true)], args := [d1, d2] }
  | _ => none }
def linkSizesRow : OpenClaim := { program := "ytddaeaimimdonaa", sum := "ff9d5969507a34d6ac873f009419aaefb5f25a5ce0524c8dcfa92263b09f8931", func := "tumbler/tumblerlaw19.LinkSizes", spec := "linkSizes", inPlace := ["maps.clone"], apart := false }
def LinkSizesSaid : Prop := linkSizesRow.holds Try.pinned (OpenSpec.ofChange linkSizesSpec)

/-- ITS FALSE NEIGHBOUR: 'it returns false'. Refute it at one input. -/
def linkSizesWrong : ChangeSpec := { name := "linkSizes", fn := fun _ => fun
  | [d1, d2] => { results := [.lit (.bool false)], args := [d1, d2] }
  | _ => none }
def LinkSizesWrongFalsely : Prop := linkSizesRow.holds Try.pinned (OpenSpec.ofChange linkSizesWrong)

/-- 'tumblerlaw19.LinkRuns': WHATEVER THE INPUT: true; the input reads as it did. -/
def linkRunsSpec : ChangeSpec := { name := "linkRuns", fn := fun _ => fun
  | [d1, d2, d3, d4] => { results := [.lit (.bool true)], args := [d1, d2, d3, d4] }
  | _ => none }
def linkRunsRow : OpenClaim := { program := "ytddaeaimimdonaa", sum := "ff9d5969507a34d6ac873f009419aaefb5f25a5ce0524c8dcfa92263b09f8931", func := "tumbler/tumblerlaw19.LinkRuns", spec := "linkRuns", inPlace := ["maps.clone"], apart := false }
def LinkRunsSaid : Prop := linkRunsRow.holds Try.pinned (OpenSpec.ofChange linkRunsSpec)

/-- ITS FALSE NEIGHBOUR: 'it returns false'. Refute it at one input. -/
def linkRunsWrong : ChangeSpec := { name := "linkRuns", fn := fun _ => fun
  | [d1, d2, d3, d4] => { results := [.lit (.bool false)], args := [d1, d2, d3, d4] }
  | _ => none }
def LinkRunsWrongFalsely : Prop := linkRunsRow.holds Try.pinned (OpenSpec.ofChange linkRunsWrong)

/-- 'tumblerlaw19.LinkOnes': WHATEVER THE INPUT: true; the input reads as it did. -/
def linkOnesSpec : ChangeSpec := { name := "linkOnes", fn := fun _ => fun
  | [d1, d2, d3] => { results := [.lit (.bool true)], args := [d1, d2, d3] }
  | _ => none }
def linkOnesRow : OpenClaim := { program := "ytddaeaimimdonaa", sum := "ff9d5969507a34d6ac873f009419aaefb5f25a5ce0524c8dcfa92263b09f8931", func := "tumbler/tumblerlaw19.LinkOnes", spec := "linkOnes", inPlace := ["maps.clone"], apart := false }
def LinkOnesSaid : Prop := linkOnesRow.holds Try.pinned (OpenSpec.ofChange linkOnesSpec)

/-- ITS FALSE NEIGHBOUR: 'it returns false'. Refute it at one input. -/
def linkOnesWrong : ChangeSpec := { name := "linkOnes", fn := fun _ => fun
  | [d1, d2, d3] => { results := [.lit (.bool false)], args := [d1, d2, d3] }
  | _ => none }
def LinkOnesWrongFalsely : Prop := linkOnesRow.holds Try.pinned (OpenSpec.ofChange linkOnesWrong)

/- THE SECOND FORM. 'bulk': how many values and letters a reading holds, each counted each time it is reached (what is shared counts as often as it is met; a slice's spare places count too). A statement '..UptoSaid' is the law's where the arguments, and the package variables that the reading takes, are together of bulk at most 1048576: NARROWER than '..Said'. Prove '..Said' where nothing that the law and all that it calls make is longer than what came in: it says more and counts as full. Else prove '..UptoSaid'. A law counts once. -/
mutual
def uptoBulk {H : Type} : DataW H → Nat
  | .lit (.string bytes) => bytes.length + 1
  | .lit _ => 1
  | .nil => 1
  | .ptr d => uptoBulk d + 1
  | .slice elems spare => uptoBulkAll elems + uptoBulkAll spare + 1
  | .agg parts => uptoBulkAll parts + 1
  | .iface _ d => uptoBulk d + 1
  | .map entries => uptoBulkEntries entries + 1
  | .held _ => 1
def uptoBulkAll {H : Type} : List (DataW H) → Nat
  | [] => 0
  | d :: r => uptoBulk d + uptoBulkAll r
def uptoBulkEntries {H : Type} : List (Lit × DataW H) → Nat
  | [] => 0
  | x :: r => uptoBulkEntry x + uptoBulkEntries r
def uptoBulkEntry {H : Type} : Lit × DataW H → Nat
  | (.string bytes, d) => bytes.length + uptoBulk d + 1
  | (_, d) => uptoBulk d + 1
 end
def uptoSmall : (H : Type) → List (DataW H) → Bool := fun _ ds => decide (uptoBulkAll ds ≤ 1048576)
def OpenSpec.upto (s : _root_.Go.ChangeSpec) : _root_.Go.OpenSpec := { _root_.Go.OpenSpec.ofChange s with cond := some uptoSmall }

/-- 'tumblerlaw06.ModelFuel', WHERE WHAT IT READS IS OF BULK AT MOST 1048576: true; the input reads as it did. -/
def modelFuelUptoRow : OpenClaim := { program := "ytddaeaimimdonaa", sum := "ff9d5969507a34d6ac873f009419aaefb5f25a5ce0524c8dcfa92263b09f8931", func := "tumbler/tumblerlaw06.ModelFuel", spec := "modelFuel", inPlace := ["maps.clone"], unfollowed := true, recurses := true, apart := false, narrowed := true }
def ModelFuelUptoSaid : Prop := modelFuelUptoRow.holds Try.pinned (OpenSpec.upto modelFuelSpec)

/-- 'tumblerlaw06.ModelBlocks', WHERE WHAT IT READS IS OF BULK AT MOST 1048576: true; the input reads as it did. -/
def modelBlocksUptoRow : OpenClaim := { program := "ytddaeaimimdonaa", sum := "ff9d5969507a34d6ac873f009419aaefb5f25a5ce0524c8dcfa92263b09f8931", func := "tumbler/tumblerlaw06.ModelBlocks", spec := "modelBlocks", inPlace := ["maps.clone"], unfollowed := true, recurses := true, apart := false, narrowed := true }
def ModelBlocksUptoSaid : Prop := modelBlocksUptoRow.holds Try.pinned (OpenSpec.upto modelBlocksSpec)

/-- 'tumblerlaw06.ModelWords', WHERE WHAT IT READS IS OF BULK AT MOST 1048576: true; the input reads as it did. -/
def modelWordsUptoRow : OpenClaim := { program := "ytddaeaimimdonaa", sum := "ff9d5969507a34d6ac873f009419aaefb5f25a5ce0524c8dcfa92263b09f8931", func := "tumbler/tumblerlaw06.ModelWords", spec := "modelWords", inPlace := ["maps.clone"], unfollowed := true, recurses := true, apart := false, narrowed := true }
def ModelWordsUptoSaid : Prop := modelWordsUptoRow.holds Try.pinned (OpenSpec.upto modelWordsSpec)

/-- 'tumblerlaw06.ModelKeeps', WHERE WHAT IT READS IS OF BULK AT MOST 1048576: true; the input reads as it did. -/
def modelKeepsUptoRow : OpenClaim := { program := "ytddaeaimimdonaa", sum := "ff9d5969507a34d6ac873f009419aaefb5f25a5ce0524c8dcfa92263b09f8931", func := "tumbler/tumblerlaw06.ModelKeeps", spec := "modelKeeps", inPlace := ["maps.clone"], unfollowed := true, recurses := true, apart := false, narrowed := true }
def ModelKeepsUptoSaid : Prop := modelKeepsUptoRow.holds Try.pinned (OpenSpec.upto modelKeepsSpec)

/-- 'tumblerlaw06.ModelMakes', WHERE WHAT IT READS IS OF BULK AT MOST 1048576: true; the input reads as it did. -/
def modelMakesUptoRow : OpenClaim := { program := "ytddaeaimimdonaa", sum := "ff9d5969507a34d6ac873f009419aaefb5f25a5ce0524c8dcfa92263b09f8931", func := "tumbler/tumblerlaw06.ModelMakes", spec := "modelMakes", inPlace := ["maps.clone"], unfollowed := true, recurses := true, apart := false, narrowed := true }
def ModelMakesUptoSaid : Prop := modelMakesUptoRow.holds Try.pinned (OpenSpec.upto modelMakesSpec)

/-- 'tumblerlaw06.ModelLongest', WHERE WHAT IT READS IS OF BULK AT MOST 1048576: true; the input reads as it did. -/
def modelLongestUptoRow : OpenClaim := { program := "ytddaeaimimdonaa", sum := "ff9d5969507a34d6ac873f009419aaefb5f25a5ce0524c8dcfa92263b09f8931", func := "tumbler/tumblerlaw06.ModelLongest", spec := "modelLongest", inPlace := ["maps.clone"], unfollowed := true, recurses := true, apart := false, narrowed := true }
def ModelLongestUptoSaid : Prop := modelLongestUptoRow.holds Try.pinned (OpenSpec.upto modelLongestSpec)

/-- 'tumblerlaw19.LinkJoins', WHERE WHAT IT READS IS OF BULK AT MOST 1048576: true; the input reads as it did. -/
def linkJoinsUptoRow : OpenClaim := { program := "ytddaeaimimdonaa", sum := "ff9d5969507a34d6ac873f009419aaefb5f25a5ce0524c8dcfa92263b09f8931", func := "tumbler/tumblerlaw19.LinkJoins", spec := "linkJoins", inPlace := ["maps.clone"], apart := false, narrowed := true }
def LinkJoinsUptoSaid : Prop := linkJoinsUptoRow.holds Try.pinned (OpenSpec.upto linkJoinsSpec)

/-- 'tumblerlaw19.LinkSizes', WHERE WHAT IT READS IS OF BULK AT MOST 1048576: true; the input reads as it did. -/
def linkSizesUptoRow : OpenClaim := { program := "ytddaeaimimdonaa", sum := "ff9d5969507a34d6ac873f009419aaefb5f25a5ce0524c8dcfa92263b09f8931", func := "tumbler/tumblerlaw19.LinkSizes", spec := "linkSizes", inPlace := ["maps.clone"], apart := false, narrowed := true }
def LinkSizesUptoSaid : Prop := linkSizesUptoRow.holds Try.pinned (OpenSpec.upto linkSizesSpec)

/-- 'tumblerlaw19.LinkRuns', WHERE WHAT IT READS IS OF BULK AT MOST 1048576: true; the input reads as it did. -/
def linkRunsUptoRow : OpenClaim := { program := "ytddaeaimimdonaa", sum := "ff9d5969507a34d6ac873f009419aaefb5f25a5ce0524c8dcfa92263b09f8931", func := "tumbler/tumblerlaw19.LinkRuns", spec := "linkRuns", inPlace := ["maps.clone"], apart := false, narrowed := true }
def LinkRunsUptoSaid : Prop := linkRunsUptoRow.holds Try.pinned (OpenSpec.upto linkRunsSpec)

/-- 'tumblerlaw19.LinkOnes', WHERE WHAT IT READS IS OF BULK AT MOST 1048576: true; the input reads as it did. -/
def linkOnesUptoRow : OpenClaim := { program := "ytddaeaimimdonaa", sum := "ff9d5969507a34d6ac873f009419aaefb5f25a5ce0524c8dcfa92263b09f8931", func := "tumbler/tumblerlaw19.LinkOnes", spec := "linkOnes", inPlace := ["maps.clone"], apart := false, narrowed := true }
def LinkOnesUptoSaid : Prop := linkOnesUptoRow.holds Try.pinned (OpenSpec.upto linkOnesSpec)

end Rows
end Go.Proofs.Ytddaeaimimdonaa
