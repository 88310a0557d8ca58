/-
  Chapter 5: a stack as a row of the call's own (its last element, one less); marks as a whole block.
-/
import Derived.Test.YtddaeaimimdonaaReachA
namespace Go.Proofs.Ytddaeaimimdonaa
open Go.RowKit
set_option linter.unusedVariables false

theorem own_pop {w : World} {base : Nat} {e : TypeId} {A : Option Addr} {n c : Nat} {xs : List Value} (h : w.ownsRow base e 1 (.slice A (n + 1) c) (n + 1) xs) : w.ownsRow base e 1 (.slice A n c) n (xs.take n) := by
  obtain ⟨hl, h⟩ := h
  refine ⟨by rw [List.length_take]; omega, ?_⟩
  rcases h with ⟨h0, h1⟩ | ⟨g, cap, cur, h0, hb, hg, hnc, hcm, hcs, hx⟩
  · omega
  · injection h0 with h0 _ h2
    subst h0
    subst h2
    refine .inr ⟨g, c, cur, rfl, hb, hg, by omega, hcm, hcs, ?_⟩
    rw [← hx, List.take_take, Nat.min_eq_left (by omega), Nat.mul_one]

/-- Marks as cells. -/
def bools (M : List Bool) : List Value := M.map Value.bool
theorem bools_at {M : List Bool} {k : Nat} (h : k < M.length) : (bools M)[k]? = some (.bool (M.getD k false)) := by
  simp [bools, List.getElem?_map, List.getElem?_eq_getElem h]
theorem bools_set (M : List Bool) (k : Nat) (b : Bool) : bools (M.set k b) = (bools M).set k (.bool b) := by
  simp [bools, List.map_set]
theorem bools_arr (M : List Bool) (k : Nat) (b : Bool) : (bools M).toArray.setIfInBounds k (.bool b) = (bools (M.set k b)).toArray := by
  rw [bools_set]; simp

/-- What the stack and the marks are, on the way. -/
structure Going (l : List Ins) (M : List Bool) (T : List Nat) : Prop where
  len : M.length = l.length
  sound : Sound l M
  stack : ∀ k ∈ T, Reaches l k ∧ k < l.length
  start : M[0]? = some true ∨ 0 ∈ T
  closed : ∀ (k j : Nat) (i : Ins), M[k]? = some true → l[k]? = some i → (j : Int) ∈ nextP i k → M[j]? = some true ∨ j ∈ T
theorem Going.init {l : List Ins} (h : 0 < l.length) : Going l (List.replicate l.length false) [0] := by
  refine ⟨by simp, fun k hk => ?_, fun k hk => ?_, .inr (by simp), fun k j i hk => ?_⟩
  · simp [List.getElem?_replicate] at hk
  · simp at hk; subst hk; exact ⟨.start, h⟩
  · simp [List.getElem?_replicate] at hk
theorem Going.done {l : List Ins} {M : List Bool} (h : Going l M []) : Marks l M :=
  ⟨h.len, h.start.resolve_right (by simp), fun k j i hk hi hj => (h.closed k j i hk hi hj).resolve_right (by simp), h.sound⟩
theorem Going.seen {l : List Ins} {M : List Bool} {T : List Nat} {k : Nat} (h : Going l M (T ++ [k])) (hk : M[k]? = some true) : Going l M T := by
  refine ⟨h.len, h.sound, fun q hq => h.stack q (by simp [hq]), ?_, fun q j i hq hi hj => ?_⟩
  · rcases h.start with h0 | h0
    · exact .inl h0
    · simp at h0
      rcases h0 with h0 | h0
      · exact .inr h0
      · subst h0; exact .inl hk
  · rcases h.closed q j i hq hi hj with h0 | h0
    · exact .inl h0
    · simp at h0
      rcases h0 with h0 | h0
      · exact .inr h0
      · subst h0; exact .inl hk
theorem Going.mark {l : List Ins} {M : List Bool} {T N : List Nat} {k : Nat} {i : Ins} (h : Going l M (T ++ [k])) (hi : l[k]? = some i) (hN : ∀ j : Nat, (j : Int) ∈ nextP i k ↔ j ∈ N) (hb : ∀ j ∈ N, j < l.length) :
    Going l (M.set k true) (T ++ N) := by
  have hkl : k < l.length := (List.getElem?_eq_some_iff.1 hi).1
  have hr : Reaches l k := (h.stack k (by simp)).1
  have hset : ∀ q : Nat, (M.set k true)[q]? = some true ↔ (q = k ∨ M[q]? = some true) := by
    intro q
    rw [List.getElem?_set]
    by_cases e : k = q
    · subst e; simp [h.len, hkl]
    · rw [if_neg e]
      exact ⟨.inr, fun h => h.resolve_left (fun e2 => e e2.symm)⟩
  refine ⟨by simp [h.len], fun q hq => ?_, fun q hq => ?_, ?_, fun q j i' hq hi' hj => ?_⟩
  · rcases (hset q).1 hq with rfl | hq
    · exact hr
    · exact h.sound q hq
  · rcases List.mem_append.1 hq with hq | hq
    · exact h.stack q (by simp [hq])
    · exact ⟨.step hr hi ((hN q).2 hq), hb q hq⟩
  · rcases h.start with h0 | h0
    · exact .inl ((hset 0).2 (.inr h0))
    · simp at h0
      rcases h0 with h0 | h0
      · exact .inr (by simp [h0])
      · exact .inl ((hset 0).2 (.inl h0))
  · rcases (hset q).1 hq with rfl | hq
    · rw [hi] at hi'
      obtain rfl : i = i' := by simpa using hi'
      exact .inr (by simp [(hN j).1 hj])
    · rcases h.closed q j i' hq hi' hj with h0 | h0
      · exact .inl ((hset j).2 (.inr h0))
      · simp at h0
        rcases h0 with h0 | h0
        · exact .inr (by simp [h0])
        · exact .inl ((hset j).2 (.inl h0))
end Go.Proofs.Ytddaeaimimdonaa
