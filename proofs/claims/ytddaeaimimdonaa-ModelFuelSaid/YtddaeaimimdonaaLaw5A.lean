/-
  Chapter 5: the document's example: tumblerlaw05.alive is true.
-/
import Derived.Test.YtddaeaimimdonaaReachH
namespace Go.Proofs.Ytddaeaimimdonaa
open Go.RowKit
set_option linter.unusedVariables false

def live5 : List Ins := [{ op := 18, a := 1, b := 0, c := 0, imm := 2 }, { op := 20, a := 0, b := 0, c := 0, imm := 0 }, { op := 21, a := 0, b := 0, c := 0, imm := 7 }]
def live5b : List Ins := [{ op := 20, a := 0, b := 0, c := 0, imm := 0 }, { op := 8, a := 0, b := 0, c := 0, imm := 4 }]
theorem live5_right : rightP live5 = true := by decide
theorem live5_reads : readsP live5 = true := by decide
theorem live5b_fault : faultP live5b = (1, 1) := by decide
theorem live5_nil : rightP [] = false := by decide
theorem live5_ok : ∀ i ∈ live5, i.Ok := by
  intro i hi
  simp [live5] at hi
  rcases hi with rfl | rfl | rfl <;> constructor <;> decide
theorem live5b_ok : ∀ i ∈ live5b, i.Ok := by
  intro i hi
  simp [live5b] at hi
  rcases hi with rfl | rfl <;> constructor <;> decide
theorem live5_most : MostFrom live5 [2, 1, 1] 0 := by
  refine ⟨rfl, fun q i _ hi => ?_⟩
  match q, hi with
  | 0, hi =>
    obtain rfl : _ = i := by simpa [live5] using hi
    refine ⟨by decide, fun j hj hS => ?_, .inr ⟨1, by decide, by decide, by decide⟩⟩
    have : j = 1 ∨ j = 2 := by simp [nextP, endsB] at hS; omega
    rcases this with rfl | rfl <;> decide
  | 1, hi =>
    obtain rfl : _ = i := by simpa [live5] using hi
    exact ⟨by decide, fun j hj hS => by simp [nextP, endsB] at hS, .inl rfl⟩
  | 2, hi =>
    obtain rfl : _ = i := by simpa [live5] using hi
    exact ⟨by decide, fun j hj hS => by simp [nextP, endsB] at hS, .inl rfl⟩
  | q + 3, hi => simp [live5] at hi
theorem live5_longest : LongestIs live5 2 true := by
  refine .inr ⟨fun ⟨k, i, _, hi, ho⟩ => ?_, rfl, [2, 1, 1], live5_most, rfl⟩
  have := List.mem_of_getElem? hi
  simp [live5] at this
  rcases this with rfl | rfl | rfl <;> simp at ho
theorem live5_two {M : List Bool} (h : Marks live5 M) : M.length = 3 ∧ M.getD 2 false = true := by
  have h2 : Reaches live5 2 := .step .start (i := { op := 18, a := 1, b := 0, c := 0, imm := 2 }) rfl (by decide)
  have := (h.iff 2).2 h2
  refine ⟨h.len, ?_⟩
  rw [List.getD_eq_getElem?_getD, this]; rfl

end Go.Proofs.Ytddaeaimimdonaa
