/-
  No cell of these rows narrows 'for every input' (looked for: loops, veiled, ifaces, maps, wideKeys, modest, calm, conditions, laid).
  DERIVED. THE GIVEN ROWS OF THIS SEAT. 3 by the template 'for every input the law returns true; each argument reads behind the call as it read before'; 0 by the template 'total and deterministic' (their statements: YtjggmimaolddkaaTotals.lean).
  GIVEN WITH THE SEED: the statements are not yours to turn. If you find one false, say at which input.
  Laid BY PROGRAM, IN A SANDBOX (cutbox-rows.mjs): the forced cells as the released guide's own fill.sh prints them over the translation 8876fc94bd674800… (all of the seat's roots in one cut). By AI agents, Wed Nov 11 2026. No macro, syntax, notation, axiom, sorry.
-/
import Derived.Test.YtjggmimaolddkaaChecked
import GoSem.Claim
import GoSem.ClaimJoined
import GoSem.ClaimMapViews
import Derived.JoinedTies
import Derived.KernelRfl
namespace Go.Proofs.Ytjggmimaolddkaa
/- THE CELL 'sum', in the pinned program and in every row, IS THE sha256 OF THE DUMP (.gsa) THAT YtjggmimaolddkaaProg.lean LOADS. Nothing in Lean hashes anything: it is a label: what it is worth is what the hold of that sum in a sandbox is worth. -/
noncomputable def Try.pinned : Pinned := { name := "ytjggmimaolddkaa", sum := "8876fc94bd67480068fddf53852b11428173033c089c25070f4e6af9ffc5f6f3", checked := Try.checked }
namespace Rows
def none {H : Type} : Left H := { results := [], args := [] }

/-- 'tumblerlaw17.OrderBreaks': WHATEVER THE INPUT: true; the input reads as it did. -/
def orderBreaksSpec : ChangeSpec := { name := "orderBreaks", fn := fun _ => fun
  | [d1, d2, d3, d4] => { results := [.lit (.bool true)], args := [d1, d2, d3, d4] }
  | _ => none }
def orderBreaksRow : OpenClaim := { program := "ytjggmimaolddkaa", sum := "8876fc94bd67480068fddf53852b11428173033c089c25070f4e6af9ffc5f6f3", func := "tumbler/tumblerlaw17.OrderBreaks", spec := "orderBreaks", inPlace := ["maps.clone"], unfollowed := true, recurses := true, plainKeys := false, apart := false }
def OrderBreaksSaid : Prop := orderBreaksRow.holds Try.pinned (OpenSpec.ofChange orderBreaksSpec)

/-- ITS FALSE NEIGHBOUR: 'it returns false'. Refute it at one input. -/
def orderBreaksWrong : ChangeSpec := { name := "orderBreaks", fn := fun _ => fun
  | [d1, d2, d3, d4] => { results := [.lit (.bool false)], args := [d1, d2, d3, d4] }
  | _ => none }
def OrderBreaksWrongFalsely : Prop := orderBreaksRow.holds Try.pinned (OpenSpec.ofChange orderBreaksWrong)

/-- 'tumblerlaw17.OrderReplays': WHATEVER THE INPUT: true; the input reads as it did. -/
def orderReplaysSpec : ChangeSpec := { name := "orderReplays", fn := fun _ => fun
  | [d1, d2, d3, d4] => { results := [.lit (.bool true)], args := [d1, d2, d3, d4] }
  | _ => none }
def orderReplaysRow : OpenClaim := { program := "ytjggmimaolddkaa", sum := "8876fc94bd67480068fddf53852b11428173033c089c25070f4e6af9ffc5f6f3", func := "tumbler/tumblerlaw17.OrderReplays", spec := "orderReplays", inPlace := ["maps.clone"], unfollowed := true, recurses := true, plainKeys := false, apart := false }
def OrderReplaysSaid : Prop := orderReplaysRow.holds Try.pinned (OpenSpec.ofChange orderReplaysSpec)

/-- ITS FALSE NEIGHBOUR: 'it returns false'. Refute it at one input. -/
def orderReplaysWrong : ChangeSpec := { name := "orderReplays", fn := fun _ => fun
  | [d1, d2, d3, d4] => { results := [.lit (.bool false)], args := [d1, d2, d3, d4] }
  | _ => none }
def OrderReplaysWrongFalsely : Prop := orderReplaysRow.holds Try.pinned (OpenSpec.ofChange orderReplaysWrong)

/-- 'tumblerlaw17.OrderParts': WHATEVER THE INPUT: true; the input reads as it did. -/
def orderPartsSpec : ChangeSpec := { name := "orderParts", fn := fun _ => fun
  | [d1, d2, d3, d4, d5] => { results := [.lit (.bool true)], args := [d1, d2, d3, d4, d5] }
  | _ => none }
def orderPartsRow : OpenClaim := { program := "ytjggmimaolddkaa", sum := "8876fc94bd67480068fddf53852b11428173033c089c25070f4e6af9ffc5f6f3", func := "tumbler/tumblerlaw17.OrderParts", spec := "orderParts", inPlace := ["maps.clone"], unfollowed := true, recurses := true, plainKeys := false, apart := false }
def OrderPartsSaid : Prop := orderPartsRow.holds Try.pinned (OpenSpec.ofChange orderPartsSpec)

/-- ITS FALSE NEIGHBOUR: 'it returns false'. Refute it at one input. -/
def orderPartsWrong : ChangeSpec := { name := "orderParts", fn := fun _ => fun
  | [d1, d2, d3, d4, d5] => { results := [.lit (.bool false)], args := [d1, d2, d3, d4, d5] }
  | _ => none }
def OrderPartsWrongFalsely : Prop := orderPartsRow.holds Try.pinned (OpenSpec.ofChange orderPartsWrong)

/- THE SECOND FORM. 'bulk': how many values and letters a reading holds, each counted each time it is reached (what is shared counts as often as it is met; a slice's spare places count too). A statement '..UptoSaid' is the law's where the arguments, and the package variables that the reading takes, are together of bulk at most 1048576: NARROWER than '..Said'. Prove '..Said' where nothing that the law and all that it calls make is longer than what came in: it says more and counts as full. Else prove '..UptoSaid'. A law counts once. -/
mutual
def uptoBulk {H : Type} : DataW H → Nat
  | .lit (.string bytes) => bytes.length + 1
  | .lit _ => 1
  | .nil => 1
  | .ptr d => uptoBulk d + 1
  | .slice elems spare => uptoBulkAll elems + uptoBulkAll spare + 1
  | .agg parts => uptoBulkAll parts + 1
  | .iface _ d => uptoBulk d + 1
  | .map entries => uptoBulkEntries entries + 1
  | .held _ => 1
def uptoBulkAll {H : Type} : List (DataW H) → Nat
  | [] => 0
  | d :: r => uptoBulk d + uptoBulkAll r
def uptoBulkEntries {H : Type} : List (Lit × DataW H) → Nat
  | [] => 0
  | x :: r => uptoBulkEntry x + uptoBulkEntries r
def uptoBulkEntry {H : Type} : Lit × DataW H → Nat
  | (.string bytes, d) => bytes.length + uptoBulk d + 1
  | (_, d) => uptoBulk d + 1
 end
def uptoSmall : (H : Type) → List (DataW H) → Bool := fun _ ds => decide (uptoBulkAll ds ≤ 1048576)
def OpenSpec.upto (s : _root_.Go.ChangeSpec) : _root_.Go.OpenSpec := { _root_.Go.OpenSpec.ofChange s with cond := some uptoSmall }

/-- 'tumblerlaw17.OrderBreaks', WHERE WHAT IT READS IS OF BULK AT MOST 1048576: true; the input reads as it did. -/
def orderBreaksUptoRow : OpenClaim := { program := "ytjggmimaolddkaa", sum := "8876fc94bd67480068fddf53852b11428173033c089c25070f4e6af9ffc5f6f3", func := "tumbler/tumblerlaw17.OrderBreaks", spec := "orderBreaks", inPlace := ["maps.clone"], unfollowed := true, recurses := true, plainKeys := false, apart := false, narrowed := true }
def OrderBreaksUptoSaid : Prop := orderBreaksUptoRow.holds Try.pinned (OpenSpec.upto orderBreaksSpec)

/-- 'tumblerlaw17.OrderReplays', WHERE WHAT IT READS IS OF BULK AT MOST 1048576: true; the input reads as it did. -/
def orderReplaysUptoRow : OpenClaim := { program := "ytjggmimaolddkaa", sum := "8876fc94bd67480068fddf53852b11428173033c089c25070f4e6af9ffc5f6f3", func := "tumbler/tumblerlaw17.OrderReplays", spec := "orderReplays", inPlace := ["maps.clone"], unfollowed := true, recurses := true, plainKeys := false, apart := false, narrowed := true }
def OrderReplaysUptoSaid : Prop := orderReplaysUptoRow.holds Try.pinned (OpenSpec.upto orderReplaysSpec)

/-- 'tumblerlaw17.OrderParts', WHERE WHAT IT READS IS OF BULK AT MOST 1048576: true; the input reads as it did. -/
def orderPartsUptoRow : OpenClaim := { program := "ytjggmimaolddkaa", sum := "8876fc94bd67480068fddf53852b11428173033c089c25070f4e6af9ffc5f6f3", func := "tumbler/tumblerlaw17.OrderParts", spec := "orderParts", inPlace := ["maps.clone"], unfollowed := true, recurses := true, plainKeys := false, apart := false, narrowed := true }
def OrderPartsUptoSaid : Prop := orderPartsUptoRow.holds Try.pinned (OpenSpec.upto orderPartsSpec)

end Rows
end Go.Proofs.Ytjggmimaolddkaa
