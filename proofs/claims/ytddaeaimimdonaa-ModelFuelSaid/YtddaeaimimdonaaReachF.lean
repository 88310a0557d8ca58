/-
  Chapter 5, plain laws: how many instructions are done at most.
-/
import Derived.Test.YtddaeaimimdonaaReachB
namespace Go.Proofs.Ytddaeaimimdonaa
open Go.RowKit
set_option linter.unusedVariables false

/-- m is the most of 1 and of what the places of S behind k give, and one. -/
structure IsMost (vs : List Int) (k : Nat) (S : Nat → Prop) (m : Int) : Prop where
  one : 1 ≤ m
  ge : ∀ j : Nat, k < j → S j → vs.getD j 0 + 1 ≤ m
  is : m = 1 ∨ ∃ j : Nat, k < j ∧ S j ∧ m = vs.getD j 0 + 1
theorem IsMost.init (vs : List Int) (k : Nat) {S : Nat → Prop} (h : ∀ j, k < j → ¬ S j) : IsMost vs k S 1 :=
  ⟨by omega, fun j hk hj => absurd hj (h j hk), .inl rfl⟩
theorem IsMost.congr {vs vs' : List Int} {k : Nat} {S S' : Nat → Prop} {m : Int} (h : IsMost vs k S m) (hv : ∀ j, k < j → vs'.getD j 0 = vs.getD j 0) (hS : ∀ j, k < j → (S' j ↔ S j)) : IsMost vs' k S' m := by
  refine ⟨h.one, fun j hk hj => ?_, ?_⟩
  · rw [hv j hk]; exact h.ge j hk ((hS j hk).1 hj)
  · rcases h.is with e | ⟨j, hk, hj, e⟩
    · exact .inl e
    · exact .inr ⟨j, hk, (hS j hk).2 hj, by rw [hv j hk]; exact e⟩
theorem IsMost.more {vs : List Int} {k q : Nat} {S S' : Nat → Prop} {m : Int} (h : IsMost vs k S m) (hq : k < q) (hS : ∀ j, k < j → (S' j ↔ (S j ∨ j = q))) : IsMost vs k S' (max m (vs.getD q 0 + 1)) := by
  refine ⟨by have := h.one; omega, fun j hk hj => ?_, ?_⟩
  · rcases (hS j hk).1 hj with hj | rfl
    · have := h.ge j hk hj; omega
    · omega
  · by_cases hm : vs.getD q 0 + 1 ≤ m
    · have e : max m (vs.getD q 0 + 1) = m := by omega
      rw [e]
      rcases h.is with e | ⟨j, hk, hj, e⟩
      · exact .inl e
      · exact .inr ⟨j, hk, (hS j hk).2 (.inl hj), e⟩
    · exact .inr ⟨q, hq, (hS q hq).2 (.inr rfl), by omega⟩
theorem IsMost.unique {vs vs' : List Int} {k : Nat} {S : Nat → Prop} {m m' : Int} (h : IsMost vs k S m) (h' : IsMost vs' k S m') (hv : ∀ j, k < j → S j → vs'.getD j 0 = vs.getD j 0) : m = m' := by
  apply Int.le_antisymm
  · rcases h.is with e | ⟨j, hk, hj, e⟩
    · have := h'.one; omega
    · have := h'.ge j hk hj; rw [hv j hk hj] at this; omega
  · rcases h'.is with e | ⟨j, hk, hj, e⟩
    · have := h.one; omega
    · have := h.ge j hk hj; rw [← hv j hk hj] at this; omega

/-- From k on the list holds how many instructions are done at most from each place. -/
structure MostFrom (l : List Ins) (vs : List Int) (k : Nat) : Prop where
  len : vs.length = l.length
  most : ∀ (q : Nat) (i : Ins), k ≤ q → l[q]? = some i → IsMost vs q (fun j => (j : Int) ∈ nextP i q) (vs.getD q 0)
theorem MostFrom.end_ {l : List Ins} {vs : List Int} (h : vs.length = l.length) : MostFrom l vs l.length :=
  ⟨h, fun q i hq hi => by have := (List.getElem?_eq_some_iff.1 hi).1; omega⟩
theorem getD_set_ne {vs : List Int} {k j : Nat} {m : Int} (h : k ≠ j) : (vs.set k m).getD j 0 = vs.getD j 0 := by
  rw [List.getD_eq_getElem?_getD, List.getD_eq_getElem?_getD, List.getElem?_set, if_neg h]
theorem getD_set_eq {vs : List Int} {k : Nat} {m : Int} (h : k < vs.length) : (vs.set k m).getD k 0 = m := by
  rw [List.getD_eq_getElem?_getD, List.getElem?_set, if_pos rfl, if_pos h]; rfl
theorem MostFrom.set_ {l : List Ins} {vs : List Int} {k : Nat} (h : MostFrom l vs (k + 1)) (m : Int) : MostFrom l (vs.set k m) (k + 1) :=
  ⟨by simp [h.len], fun q i hq hi => by
    rw [getD_set_ne (by omega)]
    exact (h.most q i hq hi).congr (fun j hj => getD_set_ne (by omega)) fun j _ => Iff.rfl⟩
theorem MostFrom.down {l : List Ins} {vs : List Int} {k : Nat} {i : Ins} (h : MostFrom l vs (k + 1)) (hi : l[k]? = some i) (hm : IsMost vs k (fun j => (j : Int) ∈ nextP i k) (vs.getD k 0)) : MostFrom l vs k :=
  ⟨h.len, fun q i' hq hi' => by
    by_cases e : q = k
    · subst e
      rw [hi] at hi'
      obtain rfl : i = i' := by simpa using hi'
      exact hm
    · exact h.most q i' (by omega) hi'⟩
theorem MostFrom.unique {l : List Ins} {vs vs' : List Int} {k : Nat} (h : MostFrom l vs k) (h' : MostFrom l vs' k) : ∀ (d q : Nat), l.length ≤ q + d → k ≤ q → q < l.length → vs'.getD q 0 = vs.getD q 0
  | 0, q, hd, _, hq => by omega
  | d + 1, q, hd, hk, hq => by
    obtain ⟨i, hi⟩ : ∃ i, l[q]? = some i := ⟨l[q], List.getElem?_eq_getElem hq⟩
    refine ((h.most q i hk hi).unique (h'.most q i hk hi) fun j hj _ => ?_).symm
    by_cases hjl : j < l.length
    · exact MostFrom.unique h h' d j (by omega) (by omega) hjl
    · rw [List.getD_eq_getElem?_getD, List.getD_eq_getElem?_getD, List.getElem?_eq_none (by have := h.len; have := h'.len; omega), List.getElem?_eq_none (by have := h.len; have := h'.len; omega)]
/-- Each number lies between 1 and what is left of the program. -/
theorem MostFrom.bound {l : List Ins} {vs : List Int} {k : Nat} (h : MostFrom l vs k) (hb : ∀ (q j : Nat) (i : Ins), l[q]? = some i → (j : Int) ∈ nextP i q → j < l.length) : ∀ (d q : Nat), l.length ≤ q + d → k ≤ q → q < l.length → 1 ≤ vs.getD q 0 ∧ vs.getD q 0 ≤ l.length - q
  | 0, q, hd, _, hq => by omega
  | d + 1, q, hd, hk, hq => by
    obtain ⟨i, hi⟩ : ∃ i, l[q]? = some i := ⟨l[q], List.getElem?_eq_getElem hq⟩
    have hm := h.most q i hk hi
    refine ⟨hm.one, ?_⟩
    rcases hm.is with e | ⟨j, hj, hS, e⟩
    · rw [e]; omega
    · have := MostFrom.bound h hb d j (by omega) (by omega) (hb q j i hi hS)
      rw [e]; omega
theorem right_lt {l : List Ins} (h : rightP l = true) (hok : ∀ i ∈ l, i.Ok) (q j : Nat) (i : Ins) (hi : l[q]? = some i) (hj : (j : Int) ∈ nextP i q) : j < l.length := by
  obtain ⟨j', e, hl⟩ := right_next h hi (hok i (List.mem_of_getElem? hi)).imm.1 hj
  have : j = j' := Int.ofNat.inj e
  omega

/-- A place that can be come to goes back. -/
def GoesBack (l : List Ins) : Prop := ∃ k i, Reaches l k ∧ l[k]? = some i ∧ i.op = 19
/-- How many instructions are done at most; can that be told? -/
def LongestIs (l : List Ins) (x : Int) (b : Bool) : Prop := (GoesBack l ∧ x = 0 ∧ b = false) ∨ (¬ GoesBack l ∧ b = true ∧ ∃ vs, MostFrom l vs 0 ∧ x = vs.getD 0 0)
theorem LongestIs.unique {l : List Ins} {x x' : Int} {b b' : Bool} (h0 : 0 < l.length) (h : LongestIs l x b) (h' : LongestIs l x' b') : x = x' ∧ b = b' := by
  rcases h with ⟨hg, rfl, rfl⟩ | ⟨hg, rfl, vs, hv, rfl⟩ <;> rcases h' with ⟨hg', rfl, rfl⟩ | ⟨hg', rfl, vs', hv', rfl⟩
  · exact ⟨rfl, rfl⟩
  · exact absurd hg hg'
  · exact absurd hg' hg
  · exact ⟨(MostFrom.unique hv hv' l.length 0 (by omega) (by omega) h0).symm, rfl⟩

/-- On the way down, no place that can be come to goes back from k on. -/
structure Down (l : List Ins) (vs : List Int) (k : Nat) : Prop where
  most : MostFrom l vs k
  noback : ∀ (q : Nat) (i : Ins), k ≤ q → Reaches l q → l[q]? = some i → i.op ≠ 19
theorem Down.done {l : List Ins} {vs : List Int} (h : Down l vs 0) : LongestIs l (vs.getD 0 0) true :=
  .inr ⟨fun ⟨k, i, hr, hi, ho⟩ => h.noback k i (by omega) hr hi ho, rfl, vs, h.most, rfl⟩
theorem ints_at {vs : List Int} {k : Nat} (h : k < vs.length) : (ints vs)[k]? = some (.int .i64 (vs.getD k 0)) := by
  simp [ints, List.getElem?_map, List.getElem?_eq_getElem h]
theorem ints_arr (vs : List Int) (k : Nat) (x : Int) : (ints vs).toArray.setIfInBounds k (.int .i64 x) = (ints (vs.set k x)).toArray := by
  simp [ints, List.map_set]
theorem bk_int {w : World} {g : Nat} {t : TypeId} {vs : List Int} {k : Nat} (h : Bk w g t (ints vs).toArray) (hk : k < vs.length) : w.cell? ⟨g, k, none⟩ = some (.int .i64 (vs.getD k 0)) := by
  rw [h.cell k, List.getElem?_toArray]; exact ints_at hk
theorem made_ints (n : Nat) : madeCells (Value.int .i64 0).cells n = (ints (List.replicate n 0)).toArray := by
  apply Array.ext'
  show (madeCells #[Value.int .i64 0] n).toList = _
  rw [toList_madeCells_one, ints, List.map_replicate]
end Go.Proofs.Ytddaeaimimdonaa
