/-
  Chapter 19, plain: which registers a program uses, and what clears them.
-/
import Derived.Test.YtddaeaimimdonaaLkP
import Derived.Test.YtddaeaimimdonaaReachB
namespace Go.Proofs.Ytddaeaimimdonaa
open Go.RowKit
set_option linter.unusedVariables false

def useAt (M : List Bool) (a : Nat) (b : Bool) : List Bool := M.set a (M.getD a false || b)
def useI (M : List Bool) (i : Ins) : List Bool := useAt (useAt (useAt M i.a.toNat (decide (0 < regsOf i.op))) i.b.toNat (decide (1 < regsOf i.op))) i.c.toNat (decide (2 < regsOf i.op))
def usedOf (code : List Ins) : List Bool := code.foldl useI (List.replicate 16 false)
structure RegOk (i : Ins) : Prop where
  a : 0 ≤ i.a ∧ i.a < 16
  b : 0 ≤ i.b ∧ i.b < 16
  c : 0 ≤ i.c ∧ i.c < 16
theorem useAt_len (M : List Bool) (a : Nat) (b : Bool) : (useAt M a b).length = M.length := by simp [useAt]
theorem useAt_get {M : List Bool} {a : Nat} (b : Bool) (ha : a < M.length) (r : Nat) : (useAt M a b).getD r false = (M.getD r false || (b && decide (a = r))) := by
  unfold useAt
  rw [List.getD_eq_getElem?_getD, List.getElem?_set]
  by_cases h : a = r
  · subst h
    simp [ha]
  · simp [h]
theorem useI_len (M : List Bool) (i : Ins) : (useI M i).length = M.length := by simp [useI, useAt_len]
theorem useI_get {M : List Bool} {i : Ins} (hM : M.length = 16) (hi : RegOk i) (r : Nat) : (useI M i).getD r false = (M.getD r false || usesOf i r) := by
  obtain ⟨⟨a0, a1⟩, ⟨b0, b1⟩, ⟨c0, c1⟩⟩ := hi
  unfold useI
  rw [useAt_get _ (by simp [useAt_len]; omega), useAt_get _ (by simp [useAt_len]; omega), useAt_get _ (by omega)]
  unfold usesOf
  have ea : (i.a.toNat = r) ↔ (i.a = (r : Int)) := by omega
  have eb : (i.b.toNat = r) ↔ (i.b = (r : Int)) := by omega
  have ec : (i.c.toNat = r) ↔ (i.c = (r : Int)) := by omega
  rw [Bool.eq_iff_iff]
  simp [ea, eb, ec, or_assoc]
theorem foldI : ∀ (code : List Ins) (M : List Bool), (∀ i ∈ code, RegOk i) → M.length = 16 → (code.foldl useI M).length = 16 ∧ ∀ r, (code.foldl useI M).getD r false = (M.getD r false || code.any fun i => usesOf i r)
  | [], M, _, hM => ⟨hM, fun r => by simp⟩
  | i :: l, M, h, hM => by
    have hi := h i (by simp)
    have := foldI l (useI M i) (fun j hj => h j (List.mem_cons_of_mem _ hj)) (by rw [useI_len]; exact hM)
    refine ⟨this.1, fun r => ?_⟩
    rw [List.foldl_cons, this.2 r, useI_get hM hi, List.any_cons, Bool.or_assoc]
theorem usedOf_len {code : List Ins} (h : ∀ i ∈ code, RegOk i) : (usedOf code).length = 16 := (foldI code _ h (by simp)).1
theorem usedOf_get {code : List Ins} (h : ∀ i ∈ code, RegOk i) {r : Nat} (hr : r < 16) : (usedOf code).getD r false = code.any fun i => usesOf i r := by
  rw [usedOf, (foldI code _ h (by simp)).2 r]
  have : (List.replicate 16 false).getD r false = false := by
    rw [List.getD_eq_getElem?_getD, List.getElem?_replicate]; split <;> rfl
  rw [this, Bool.false_or]
theorem usedOf_snoc {code : List Ins} {k : Nat} {i : Ins} (hi : code[k]? = some i) : usedOf (code.take (k + 1)) = useI (usedOf (code.take k)) i := by
  unfold usedOf
  rw [List.take_add_one, hi, List.foldl_append]; rfl
def setI (r : Nat) : Ins := ⟨0, (r : Int), 0, 0, 0⟩
def clearTo (M : List Bool) (q : Nat) : List Ins := ((List.range q).filter fun r => M.getD r false).map setI
theorem clearTo_snoc (M : List Bool) (q : Nat) : clearTo M (q + 1) = clearTo M q ++ (if M.getD q false = true then [setI q] else []) := by
  unfold clearTo
  rw [List.range_succ, List.filter_append, List.map_append]
  by_cases h : M.getD q false = true
  · rw [if_pos h]; simp only [List.filter_cons, h, if_true, List.filter_nil, List.map_cons, List.map_nil]
  · have h : M.getD q false = false := by simpa using h
    rw [if_neg (by rw [h]; decide)]; simp only [List.filter_cons, h, List.filter_nil]; rfl
theorem clearTo_len (M : List Bool) (q : Nat) : (clearTo M q).length ≤ q := by
  unfold clearTo
  rw [List.length_map]
  exact Nat.le_trans (List.length_filter_le _ _) (by simp)
theorem clearTo_all {code : List Ins} (h : ∀ i ∈ code, RegOk i) : clearTo (usedOf code) 16 = clearL code := by
  unfold clearTo clearL
  have : (List.range 16).filter (fun r => (usedOf code).getD r false) = (List.range 16).filter fun r => code.any fun i => usesOf i r := by
    refine List.filter_congr fun r hr => ?_
    exact usedOf_get h (List.mem_range.1 hr)
  rw [this]; rfl
theorem clearL_len (code : List Ins) : (clearL code).length ≤ 16 := by
  unfold clearL
  rw [List.length_map]
  exact Nat.le_trans (List.length_filter_le _ _) (by simp)
end Go.Proofs.Ytddaeaimimdonaa
