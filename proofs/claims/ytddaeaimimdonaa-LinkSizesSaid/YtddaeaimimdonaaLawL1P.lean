/-
  Chapter 19, plain: what stands for the first parts is the same whichever parts stand behind them.
-/
import Derived.Test.YtddaeaimimdonaaLkF
namespace Go.Proofs.Ytddaeaimimdonaa
open Go.RowKit
set_option linter.unusedVariables false

theorem Rd.first {w : World} {B size n m : Nat} {A : Option Addr} {xs : List Value} (h : Rd w B size A n xs) (hm : m ≤ n) : Rd w B size A m (xs.take (m * size)) := by
  refine ⟨?_, Nat.le_trans hm h.le, fun h0 => ?_⟩
  · rw [List.length_take, h.len]
    exact Nat.min_eq_left (Nat.mul_le_mul_right _ hm)
  · obtain ⟨b, o, e, hb, hc⟩ := h.at_ (Nat.lt_of_lt_of_le h0 hm)
    refine ⟨b, o, e, hb, fun j u hu => hc j u ?_⟩
    rw [List.getElem?_take] at hu
    split at hu
    · exact hu
    · cases hu
theorem flat_take {α : Type} (cells : α → List Value) {size : Nat} : ∀ {l : List α} (m : Nat), (∀ y ∈ l, (cells y).length = size) → (l.take m).flatMap cells = (l.flatMap cells).take (m * size)
  | [], m, _ => by simp
  | y :: l, 0, _ => by simp
  | y :: l, m + 1, h => by
    rw [List.take_succ_cons, List.flatMap_cons, List.flatMap_cons, flat_take cells m (fun z hz => h z (List.mem_cons_of_mem _ hz)), Nat.succ_mul, Nat.add_comm (m * size) size, ← h y (by simp), List.take_length_add_append]
theorem RdP.first {w : World} {B n m : Nat} {A : Option Addr} {l : List Prt} (h : RdP w B A n l) (hm : m ≤ n) : RdP w B A m (l.take m) := by
  refine ⟨?_, by rw [List.length_take, h.len]; exact Nat.min_eq_left hm, fun j hj => h.all j (List.mem_of_mem_take hj)⟩
  rw [flat_take Prt.cells m (fun y hy => (h.all y hy).cells_len)]
  exact h.rd.first hm
theorem insFirst (l : List Ins) (p : Nat) (hp : p ≤ l.length) : insCells (l.take p) = (insCells l).take (p * 5) := by
  have e : insCells l = insCells (l.take p) ++ insCells (l.drop p) := by rw [← insCells_append, List.take_append_drop]
  rw [e, List.take_left' (by rw [insCells_length, List.length_take]; omega)]
theorem rdI_first {w : World} {B n m : Nat} {A : Option Addr} {l : List Ins} (h : RdI w B A n l) (hm : m ≤ n) : RdI w B A m (l.take m) := by
  show Rd _ _ _ _ _ _
  rw [insFirst l m (by rw [h.insLen]; exact hm)]
  exact h.first hm
theorem allL_take (l : List Prt) (m : Nat) : ∀ j, j ≤ m → allL (l.take m) j = allL l j
  | 0, _ => rfl
  | j + 1, h => by
    have e : (l.take m).getD j ⟨none, 0, 0, [], []⟩ = l.getD j ⟨none, 0, 0, [], []⟩ := by
      rw [List.getD_eq_getElem?_getD, List.getD_eq_getElem?_getD, List.getElem?_take, if_pos (by omega)]
    rw [allL, allL, allL_take l m j (by omega), e]
theorem addL_pre (out : List Ins) (k : Nat) (code : List Ins) (args : List PArg) : ∃ t, addL out k code args = out ++ t := by
  unfold addL startL
  split
  · exact ⟨_, rfl⟩
  · exact ⟨_, List.append_assoc _ _ _⟩
theorem allL_pre (l : List Prt) (m : Nat) : ∀ d, ∃ t, allL l (m + d) = allL l m ++ t
  | 0 => ⟨[], by simp⟩
  | d + 1 => by
    obtain ⟨t, ht⟩ := allL_pre l m d
    obtain ⟨t2, h2⟩ := addL_pre (allL l (m + d)) (m + d) (l.getD (m + d) ⟨none, 0, 0, [], []⟩).code (l.getD (m + d) ⟨none, 0, 0, [], []⟩).args
    refine ⟨t ++ t2, ?_⟩
    rw [show m + (d + 1) = (m + d) + 1 by omega, allL, h2, ht, List.append_assoc]
theorem faults_take : ∀ (l : List Prt) (k m : Nat), faultsL l k = 0 → faultsL (l.take m) k = 0
  | [], k, m, _ => by simp [faultsL]
  | y :: l, k, 0, _ => by simp [faultsL]
  | y :: l, k, m + 1, h => by
    rw [List.take_succ_cons]
    unfold faultsL at h ⊢
    split at h
    · rename_i h1; exact absurd h h1
    · rename_i h1
      rw [if_neg h1]
      exact faults_take l (k + 1) m h
/-- The join of the first parts. -/
structure JoinsFirst (l : List Prt) (m : Nat) (L S : List Ins) : Prop where
  some : joinL (l.take m) = (S, 0)
  le : S.length ≤ L.length
  one : 1 ≤ S.length
  same : L.take (S.length - 1) = S.take (S.length - 1)
theorem joins_first {l : List Prt} {L : List Ins} {m : Nat} (h : joinL l = (L, 0)) (h1 : 1 ≤ m) (hm : m ≤ l.length) : ∃ S, JoinsFirst l m L S := by
  unfold joinL at h
  split at h
  · injection h with _ h; exact absurd h (by decide)
  rename_i g1
  split at h
  · injection h with _ h; exact absurd h (by decide)
  rename_i g2
  split at h
  · rename_i g3; injection h with _ h; exact absurd h g3
  rename_i g3
  split at h
  · injection h with _ h; exact absurd h (by decide)
  rename_i g4
  injection h with h _
  have g3 : faultsL l 0 = 0 := by simpa using g3
  have hlm : (l.take m).length = m := by rw [List.length_take]; omega
  obtain ⟨t, ht⟩ := allL_pre l m (l.length - m)
  rw [show m + (l.length - m) = l.length by omega] at ht
  have hS : wholeL (l.take m) = allL l m ++ [⟨20, 11 + (m : Int), 0, 0, 0⟩] := by
    unfold wholeL
    rw [hlm, allL_take l m m (Nat.le_refl _)]
  have hW : L = (allL l m ++ t) ++ [⟨20, 11 + (l.length : Int), 0, 0, 0⟩] := by rw [← h, wholeL, ht]
  have hlen : (wholeL (l.take m)).length ≤ L.length := by rw [hS, hW]; simp
  refine ⟨wholeL (l.take m), ?_, hlen, by rw [hS]; simp, ?_⟩
  · unfold joinL
    rw [hlm, if_neg (by omega), if_neg (by omega), if_neg (by rw [faults_take l 0 m g3]; decide), if_neg (by rw [← h] at hlen; omega)]
  · rw [hS, hW]
    simp
end Go.Proofs.Ytddaeaimimdonaa
