/-
  Chapter 5: the walk of CheckWalks.
-/
import Derived.Test.YtddaeaimimdonaaLaw5A
namespace Go.Proofs.Ytddaeaimimdonaa
open Go.RowKit
set_option linter.unusedVariables false

/-- On a way: place k, behind q instructions. -/
structure OnWay (l : List Ins) (x : Int) (b : Bool) (k q : Nat) : Prop where
  reach : Reaches l k
  left : b = true → ∃ vs, ¬ GoesBack l ∧ MostFrom l vs 0 ∧ x = vs.getD 0 0 ∧ (q : Int) + vs.getD k 0 ≤ x
theorem OnWay.start {l : List Ins} {x : Int} {b : Bool} (h : LongestIs l x b) : OnWay l x b 0 0 := by
  refine ⟨.start, fun hb => ?_⟩
  rcases h with ⟨_, _, e⟩ | ⟨hg, _, vs, hv, e⟩
  · rw [e] at hb; simp at hb
  · exact ⟨vs, hg, hv, e, by rw [e]; omega⟩
theorem next_fwd {l : List Ins} (h : rightP l = true) {k j : Nat} {i : Ins} (hi : l[k]? = some i) (hne : i.op ≠ 19) (hj : (j : Int) ∈ nextP i k) : k < j := by
  obtain ⟨hn, h256, hall, _⟩ := right_parts h
  have hk : k < l.length := (List.getElem?_eq_some_iff.1 hi).1
  have ho := hall k hk
  rw [oneAt, hi] at ho
  obtain ⟨hp, h1, h2⟩ := oneE_zero ho
  unfold nextP at hj
  split at hj
  · simp at hj
  · split at hj
    · rename_i e
      simp at hj
      have := h1 (.inl e)
      omega
    · split at hj
      · rename_i e
        simp at hj
        rcases hj with hj | hj
        · omega
        · rcases e with e | e
          · have := h1 (.inr e); omega
          · exact absurd e hne
      · simp at hj
        omega
theorem OnWay.step {l : List Ins} {x : Int} {b : Bool} {k q j : Nat} {i : Ins} (h : OnWay l x b k q) (hp : rightP l = true) (hi : l[k]? = some i) (hj : (j : Int) ∈ nextP i k) : OnWay l x b j (q + 1) := by
  refine ⟨.step h.reach hi hj, fun hb => ?_⟩
  obtain ⟨vs, hg, hv, e, hle⟩ := h.left hb
  refine ⟨vs, hg, hv, e, ?_⟩
  have hne : i.op ≠ 19 := fun ho => hg ⟨k, i, h.reach, hi, ho⟩
  have := (hv.most k i (by omega) hi).ge j (next_fwd hp hi hne hj) hj
  omega
theorem OnWay.lt {l : List Ins} {x : Int} {k q : Nat} {i : Ins} (h : OnWay l x true k q) (hi : l[k]? = some i) : ¬ x ≤ (q : Int) := by
  obtain ⟨vs, hg, hv, e, hle⟩ := h.left rfl
  have := (hv.most k i (by omega) hi).one
  omega
/-- The next place, and that it is one. -/
theorem OnWay.next {l : List Ins} {x : Int} {b : Bool} {k q j : Nat} {i : Ins} (h : OnWay l x b k q) (hp : rightP l = true) (hok : ∀ i ∈ l, i.Ok) (hi : l[k]? = some i) (hj : (j : Int) ∈ nextP i k) : j < l.length ∧ OnWay l x b j (q + 1) :=
  ⟨right_lt hp hok k j i hi hj, h.step hp hi hj⟩

end Go.Proofs.Ytddaeaimimdonaa
