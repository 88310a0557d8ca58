/-
  Chapter 5, plain laws: marks by rounds over all pairs of places.
-/
import Derived.Test.YtddaeaimimdonaaReachC
namespace Go.Proofs.Ytddaeaimimdonaa
open Go.RowKit
set_option linter.unusedVariables false

/-- The marks behind some rounds. -/
structure Rounds (l : List Ins) (M : List Bool) (r : Nat) : Prop where
  len : M.length = l.length
  start : M[0]? = some true
  sound : Sound l M
  grow : Closed l M ∨ r + 1 ≤ M.countP id
/-- The marks within a round that began with M0: all pairs before (k, j) are done. -/
structure Round (l : List Ins) (M0 M : List Bool) (k j : Nat) : Prop where
  len : M.length = l.length
  start : M[0]? = some true
  sound : Sound l M
  grow : M = M0 ∨ M0.countP id < M.countP id
  done : M = M0 → ∀ (k' j' : Nat) (i : Ins), (k' < k ∨ (k' = k ∧ j' < j)) → M0[k']? = some true → l[k']? = some i → (j' : Int) ∈ nextP i k' → M0[j']? = some true
  keep : Closed l M0 → M = M0

theorem Rounds.init {l : List Ins} (h : 0 < l.length) : Rounds l ((List.replicate l.length false).set 0 true) 0 := by
  have e : ∀ k : Nat, ((List.replicate l.length false).set 0 true)[k]? = some true → k = 0 := by
    intro k hk
    rw [List.getElem?_set] at hk
    split at hk
    · rename_i e; exact e.symm
    · simp [List.getElem?_replicate] at hk
  refine ⟨by simp, by simp [h], fun k hk => ?_, .inr ?_⟩
  · rw [e k hk]; exact .start
  · have : true ∈ (List.replicate l.length false).set 0 true := List.mem_of_getElem? (i := 0) (by simp [h])
    have := List.countP_pos_iff (p := id) (l := (List.replicate l.length false).set 0 true) |>.2 ⟨true, this, rfl⟩
    omega
theorem Rounds.done {l : List Ins} {M : List Bool} (h : Rounds l M l.length) : Marks l M := by
  refine ⟨h.len, h.start, ?_, h.sound⟩
  rcases h.grow with h1 | h1
  · exact h1
  · have := List.countP_le_length (p := id) (l := M)
    rw [h.len] at this
    omega
theorem Round.init {l : List Ins} {M : List Bool} {r : Nat} (h : Rounds l M r) : Round l M M 0 0 :=
  ⟨h.len, h.start, h.sound, .inl rfl, fun _ k' j' i hk => by omega, fun _ => rfl⟩
theorem Round.row {l : List Ins} {M0 M : List Bool} {k : Nat} (hb : ∀ (k : Nat) (i : Ins), l[k]? = some i → ∀ j : Nat, (j : Int) ∈ nextP i k → j < l.length) (h : Round l M0 M k l.length) : Round l M0 M (k + 1) 0 := by
  refine ⟨h.len, h.start, h.sound, h.grow, fun e k' j' i hk hk' hi hj => ?_, h.keep⟩
  by_cases hlt : k' < k
  · exact h.done e k' j' i (.inl hlt) hk' hi hj
  · obtain rfl : k' = k := by omega
    by_cases hjl : j' < l.length
    · exact h.done e k' j' i (.inr ⟨rfl, hjl⟩) hk' hi hj
    · exact absurd (hb k' i hi j' hj) hjl
theorem Round.finish {l : List Ins} {M0 M : List Bool} {r : Nat} (h0 : Rounds l M0 r) (h : Round l M0 M l.length 0) : Rounds l M (r + 1) := by
  refine ⟨h.len, h.start, h.sound, ?_⟩
  rcases h.grow with e | hg
  · subst e
    refine .inl fun k j i hk hi hj => h.done rfl k j i (.inl (List.getElem?_eq_some_iff.1 hi).1) hk hi hj
  · rcases h0.grow with hc | hc
    · rw [h.keep hc] at hg; omega
    · exact .inr (by omega)
theorem countP_mark {M : List Bool} {j : Nat} (h : M[j]? = some false) : (M.set j true).countP id = M.countP id + 1 := by
  induction M generalizing j with
  | nil => simp at h
  | cons b M ih =>
    cases j with
    | zero => simp at h; subst h; simp
    | succ j =>
      simp at h
      have := ih h
      rw [List.set_cons_succ, List.countP_cons, List.countP_cons]
      omega
/-- A pair that marks. -/
theorem Round.mark {l : List Ins} {M0 M : List Bool} {k j : Nat} {i : Ins} (h : Round l M0 M k j) (hi : l[k]? = some i) (hk : M[k]? = some true) (hj : M[j]? = some false) (hn : (j : Int) ∈ nextP i k) : Round l M0 (M.set j true) k (j + 1) := by
  have hc := countP_mark hj
  have hjl : j < M.length := (List.getElem?_eq_some_iff.1 hj).1
  have hne : M.set j true ≠ M0 := by
    intro e
    rcases h.grow with g | g
    · rw [← g] at e
      rw [e] at hc; omega
    · rw [e] at hc; omega
  have hget : ∀ q : Nat, (M.set j true)[q]? = some true → q = j ∨ M[q]? = some true := by
    intro q hq
    rw [List.getElem?_set] at hq
    split at hq
    · rename_i e; exact .inl e.symm
    · exact .inr hq
  refine ⟨by simp [h.len], ?_, fun q hq => ?_, .inr ?_, fun e => absurd e hne, fun hcl => ?_⟩
  · rw [List.getElem?_set]
    split
    · simp
    · exact h.start
  · rcases hget q hq with rfl | hq
    · exact .step (h.sound k hk) hi hn
    · exact h.sound q hq
  · rcases h.grow with g | g
    · rw [← g]; omega
    · omega
  · have e := h.keep hcl
    rw [e] at hk hj
    have := hcl k j i hk hi hn
    rw [this] at hj; simp at hj
/-- A pair that marks nothing. -/
theorem Round.pass {l : List Ins} {M0 M : List Bool} {k j : Nat} {i : Ins} (h : Round l M0 M k j) (hi : l[k]? = some i) (hp : M[j]? = some true ∨ ¬ (M[k]? = some true) ∨ ¬ ((j : Int) ∈ nextP i k)) : Round l M0 M k (j + 1) := by
  refine ⟨h.len, h.start, h.sound, h.grow, fun e k' j' i' hk hk' hi' hj => ?_, h.keep⟩
  by_cases hlt : k' < k ∨ (k' = k ∧ j' < j)
  · exact h.done e k' j' i' hlt hk' hi' hj
  · obtain ⟨rfl, rfl⟩ : k' = k ∧ j' = j := by omega
    rw [hi] at hi'
    obtain rfl : i = i' := by simpa using hi'
    subst e
    rcases hp with hp | hp | hp
    · exact hp
    · exact absurd hk' hp
    · exact absurd hj hp
end Go.Proofs.Ytddaeaimimdonaa
