/-
  Chapter 6: contracts of model.New, State.Root, State.Block.
-/
import Derived.Test.YtddaeaimimdonaaModK
import Derived.Carry
namespace Go.Proofs.Ytddaeaimimdonaa
open Go.RowKit
set_option linter.unusedVariables false

/-- A state, in block sb of w, all of it from block B on; at most n blocks. -/
structure StIn (w : World) (B n sb mb : Nat) (s : MSt) : Prop where
  st : BkS w sb s.roots mb
  map : OwnB w Try.prog 24 mb n s.blocks
  roots : s.roots.length = 16
  bs : B ≤ sb
  bm : B ≤ mb
def emptyS : MSt := ⟨zero16, fun _ => none⟩
def NewPost (w : World) (e : Ending) (w' : World) : Prop := ∃ sb mb, e = .returned (.pointer (some ⟨sb, 0, none⟩)) ∧ StIn w' w.heap.size 0 sb mb emptyS ∧ Below w.heap.size w w'
set_option maxRecDepth 100000 in
set_option maxHeartbeats 1000000 in
theorem mnew_any (w : World) : Calls Try.prog 16 #[] w (NewPost w) := by
  have hmm := @run_makeMap Try.prog
  go_enter Try.func16, Try.ntmps16
  go_wp2
  go_ret
  refine ⟨w.heap.size + 1, w.heap.size, by simp, ⟨?_, ?_, rfl, by omega, Nat.le_refl _⟩, ((Below.refl _ _).alloc (Nat.le_refl _) _).alloc (by simp) _⟩
  · have := Bk.new (w.alloc (.map #[] 0)) 86 (stCells zero16 w.heap.size).toArray
    have h2 : Bk ((w.alloc (.map #[] 0)).alloc (.cells (stCells zero16 w.heap.size).toArray 86)) (w.heap.size + 1) 86 (stCells zero16 w.heap.size).toArray := by simpa using this
    exact h2
  · exact (OwnB.made w Try.prog 24).alloc _
end Go.Proofs.Ytddaeaimimdonaa
