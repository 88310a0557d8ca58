/-
  Chapter 5, plain laws: which places can be come to.
-/
import Derived.Test.YtddaeaimimdonaaChkH
namespace Go.Proofs.Ytddaeaimimdonaa
open Go.RowKit
set_option linter.unusedVariables false

/-- A place that can be come to. -/
inductive Reaches (l : List Ins) : Nat → Prop
  | start : Reaches l 0
  | step {k j : Nat} {i : Ins} : Reaches l k → l[k]? = some i → (j : Int) ∈ nextP i k → Reaches l j

/-- Marks that hold for all that can be come to from a marked place; marks at places alone that can be come to. -/
def Closed (l : List Ins) (M : List Bool) : Prop := ∀ (k j : Nat) (i : Ins), M[k]? = some true → l[k]? = some i → (j : Int) ∈ nextP i k → M[j]? = some true
def Sound (l : List Ins) (M : List Bool) : Prop := ∀ k : Nat, M[k]? = some true → Reaches l k
/-- The marks are those of the places that can be come to. -/
structure Marks (l : List Ins) (M : List Bool) : Prop where
  len : M.length = l.length
  start : M[0]? = some true
  closed : Closed l M
  sound : Sound l M
theorem Marks.iff {l : List Ins} {M : List Bool} (h : Marks l M) (k : Nat) : M[k]? = some true ↔ Reaches l k := by
  refine ⟨h.sound k, fun hk => ?_⟩
  induction hk with
  | start => exact h.start
  | step _ hi hj ih => exact h.closed _ _ _ ih hi hj
theorem Marks.unique {l : List Ins} {M M' : List Bool} (h : Marks l M) (h' : Marks l M') : M = M' := by
  apply List.ext_getElem?
  intro k
  by_cases hk : k < l.length
  · have e1 := List.getElem?_eq_getElem (l := M) (i := k) (by rw [h.len]; exact hk)
    have e2 := List.getElem?_eq_getElem (l := M') (i := k) (by rw [h'.len]; exact hk)
    rw [e1, e2]
    congr 1
    have a := h.iff k
    have b := h'.iff k
    rw [e1] at a
    rw [e2] at b
    rw [Bool.eq_iff_iff]
    simp only [Option.some.injEq] at a b
    rw [a, b]
  · rw [List.getElem?_eq_none (by rw [h.len]; omega), List.getElem?_eq_none (by rw [h'.len]; omega)]

/-- What a right program is. -/
theorem right_parts {l : List Ins} (h : rightP l = true) : 0 < l.length ∧ l.length ≤ 256 ∧ (∀ k, k < l.length → oneAt l k = 0) ∧ lastEnds l = true := by
  simp only [rightP, decide_eq_true_eq] at h
  unfold faultP at h
  split at h
  · simp at h
  rename_i h0
  split at h
  · simp at h
  rename_i h1
  split at h
  · rename_i k hk
    have := List.find?_some hk
    simp at this
    exact absurd h this
  · rename_i hf
    rw [List.find?_eq_none] at hf
    refine ⟨by omega, by omega, fun k hk => ?_, ?_⟩
    · have := hf k (List.mem_range.2 hk)
      simpa using this
    · split at h
      · rename_i he; exact he
      · simp at h
theorem oneE_zero {n k : Nat} {i : Ins} (h : oneE n k i = 0) : i.plain = true ∧ ((i.op = 17 ∨ i.op = 18) → (k : Int) < i.imm ∧ i.imm < n) ∧ (i.op = 19 → i.imm ≤ k) := by
  unfold oneE at h
  split at h
  · omega
  rename_i hp
  refine ⟨by simpa using hp, fun ho => ?_, fun ho => ?_⟩
  · rcases ho with ho | ho <;> · rw [ho] at h; simp at h; omega
  · rw [ho] at h; simp at h; omega
theorem right_next {l : List Ins} (h : rightP l = true) {k : Nat} {i : Ins} (hi : l[k]? = some i) (h0 : 0 ≤ i.imm) {x : Int} (hx : x ∈ nextP i k) : ∃ j : Nat, x = j ∧ j < l.length := by
  obtain ⟨hn, h256, hall, hlast⟩ := right_parts h
  have hk : k < l.length := (List.getElem?_eq_some_iff.1 hi).1
  have ho := hall k hk
  rw [oneAt, hi] at ho
  obtain ⟨hp, h1, h2⟩ := oneE_zero ho
  have hk1 : endsB i.op = false → k + 1 < l.length := by
    intro he
    rcases Nat.lt_or_ge (k + 1) l.length with h | h
    · exact h
    · have : k = l.length - 1 := by omega
      rw [lastEnds, ← this, hi] at hlast
      simp only at hlast
      rw [he] at hlast; simp at hlast
  unfold nextP at hx
  cases he : endsB i.op
  · have hk2 := hk1 he
    rw [he] at hx
    simp only [Bool.false_eq_true, if_false] at hx
    split at hx
    · rename_i ho
      simp at hx
      subst hx
      have := h1 (.inl ho)
      exact ⟨i.imm.toNat, by omega, by omega⟩
    · split at hx
      · rename_i ho
        simp at hx
        rcases hx with hx | hx
        · exact ⟨k + 1, by omega, hk2⟩
        · subst hx
          refine ⟨i.imm.toNat, by omega, ?_⟩
          rcases ho with ho | ho
          · have := h1 (.inr ho); omega
          · have := h2 ho; omega
      · simp at hx
        exact ⟨k + 1, by omega, hk2⟩
  · rw [he] at hx; simp at hx
end Go.Proofs.Ytddaeaimimdonaa
