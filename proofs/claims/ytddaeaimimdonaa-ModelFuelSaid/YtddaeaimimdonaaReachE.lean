/-
  Chapter 5: contract of tumblerref05.Reach.
-/
import Derived.Test.YtddaeaimimdonaaReachC
import Derived.Test.YtddaeaimimdonaaReachD
import Derived.Test.YtddaeaimimdonaaReachF
namespace Go.Proofs.Ytddaeaimimdonaa
open Go.RowKit
set_option linter.unusedVariables false

theorem bk_bool {w : World} {g : Nat} {t : TypeId} {M : List Bool} {k : Nat} (h : Bk w g t (bools M).toArray) (hk : k < M.length) : w.cell? ⟨g, k, none⟩ = some (.bool (M.getD k false)) := by
  rw [h.cell k, List.getElem?_toArray]; exact bools_at hk
theorem set_self {M : List Bool} {j : Nat} {b : Bool} (hj : j < M.length) (h : M.getD j false = b) : M.set j b = M := by
  apply List.ext_getElem?
  intro q
  rw [List.getElem?_set]
  split
  · rename_i e
    subst e
    rw [List.getElem?_eq_getElem hj]
    rw [List.getD_eq_getElem?_getD, List.getElem?_eq_getElem hj] at h
    simp at h
    rw [h]
  · rfl
theorem getD_some {M : List Bool} {j : Nat} {b : Bool} (hj : j < M.length) (h : M.getD j false = b) : M[j]? = some b := by
  rw [List.getD_eq_getElem?_getD, List.getElem?_eq_getElem hj] at h
  rw [List.getElem?_eq_getElem hj]
  simp at h
  rw [h]
theorem Round.next {l : List Ins} {M0 M : List Bool} {k j : Nat} {i : Ins} (h : Round l M0 M k j) (hi : l[k]? = some i) (hj : j < l.length) {x y z : Bool} (hx : M.getD j false = x) (hy : M.getD k false = y) (hz : decide ((j : Int) ∈ nextP i k) = z) :
    Round l M0 (M.set j (x || y && z)) k (j + 1) := by
  have hk : k < l.length := (List.getElem?_eq_some_iff.1 hi).1
  rw [← h.len] at hj hk
  have ex := getD_some hj hx
  have ey := getD_some hk hy
  cases x
  · cases y
    · show Round l M0 (M.set j false) k (j + 1)
      rw [set_self hj hx]
      exact h.pass hi (.inr (.inl (by rw [ey]; simp)))
    · cases z
      · show Round l M0 (M.set j false) k (j + 1)
        rw [set_self hj hx]
        exact h.pass hi (.inr (.inr (by simpa using hz)))
      · exact h.mark hi ey ex (by simpa using hz)
  · show Round l M0 (M.set j true) k (j + 1)
    rw [set_self hj hx]
    exact h.pass hi (.inl ex)

/-- What the document's Reach comes to. -/
def RReachPost (l : List Ins) (w : World) (e : Ending) (w' : World) : Prop :=
  ∃ v M, e = .returned v ∧ w'.ownsRow w.heap.size 4 1 v M.length (bools M) ∧ Below w.heap.size w w' ∧ Marks l M

end Go.Proofs.Ytddaeaimimdonaa
