/-
  Chapter 5, plain laws: a right program, cut and joined.
-/
import Derived.Test.YtkkbgpfimapnoaaLaw5A
namespace Go.Proofs.Ytkkbgpfimapnoaa
open Go.RowKit
set_option linter.unusedVariables false

theorem right_of {l : List Ins} (h0 : 0 < l.length) (h256 : l.length ≤ 256) (hall : ∀ (k : Nat) (i : Ins), l[k]? = some i → oneE l.length k i = 0) (hl : lastEnds l = true) : rightP l = true := by
  have hf : (List.range l.length).find? (fun k => oneAt l k != 0) = none := by
    rw [List.find?_eq_none]
    intro x hx
    have hx : x < l.length := by simpa using hx
    have e : oneAt l x = 0 := by rw [oneAt, List.getElem?_eq_getElem hx]; exact hall x _ (List.getElem?_eq_getElem hx)
    simp [e]
  rw [rightP, faultP, if_neg (by omega), if_neg (by omega), hf, hl]
  rfl
theorem right_one {l : List Ins} (h : rightP l = true) (k : Nat) (i : Ins) (hi : l[k]? = some i) : oneE l.length k i = 0 := by
  obtain ⟨_, _, hall, _⟩ := right_parts h
  have := hall k (List.getElem?_eq_some_iff.1 hi).1
  rw [oneAt, hi] at this
  exact this
theorem lastEnds_append (l : List Ins) (i : Ins) : lastEnds (l ++ [i]) = endsB i.op := by
  rw [lastEnds]; simp
theorem oneE_more {N M k : Nat} {i : Ins} (h : oneE N k i = 0) (hM : N ≤ M) : oneE M k i = 0 := by
  unfold oneE at h ⊢
  repeat' split at h
  all_goals first | omega | skip
  all_goals simp_all
  all_goals omega
/-- Whether an instruction goes forth to a place. -/
def goesTo (N : Nat) (i : Ins) : Bool := (i.op == 17 || i.op == 18) && i.imm == (N : Int)
theorem oneE_less {N k : Nat} {i : Ins} (h : oneE (N + 1) k i = 0) : oneE N k i = 0 ↔ goesTo N i = false := by
  unfold oneE at h ⊢
  unfold goesTo
  by_cases h1 : i.plain = false
  · simp [h1] at h
  by_cases h2 : i.op = 8
  · simp_all
  by_cases h3 : i.op = 11 ∨ i.op = 13
  · rcases h3 with h3 | h3 <;> simp_all
  by_cases h4 : i.op = 21
  · simp_all
  by_cases h5 : i.op = 17 ∨ i.op = 18
  · have h5' : (i.op == 17 || i.op == 18) = true := by simpa using h5
    rw [h5']
    have h5'' : ¬ (i.op = 11 ∨ i.op = 13) := h3
    rw [if_neg h1, if_neg h2, if_neg h3, if_neg h4, if_pos h5] at h ⊢
    split at h
    · omega
    · rename_i h6
      simp
      omega
  · have h5' : (i.op == 17 || i.op == 18) = false := by simpa using h5
    rw [h5']
    rw [if_neg h1, if_neg h2, if_neg h3, if_neg h4, if_neg h5] at h ⊢
    simp [h]

/-- Whether a program without its last instruction is right. -/
def cutOk (l : List Ins) : Bool := decide (0 < l.length - 1) && lastEnds (l.take (l.length - 1)) && (l.take (l.length - 1)).all fun i => !goesTo (l.length - 1) i
theorem right_cut {l : List Ins} (h : rightP l = true) : rightP (l.take (l.length - 1)) = cutOk l := by
  obtain ⟨h0, h256, _, _⟩ := right_parts h
  have hl : (l.take (l.length - 1)).length = l.length - 1 := by rw [List.length_take]; omega
  have hget : ∀ k i, (l.take (l.length - 1))[k]? = some i → l[k]? = some i := fun k i hi => by
    rw [List.getElem?_take] at hi
    split at hi
    · exact hi
    · cases hi
  have hless : ∀ k i, (l.take (l.length - 1))[k]? = some i → (oneE (l.length - 1) k i = 0 ↔ goesTo (l.length - 1) i = false) := fun k i hi => by
    refine oneE_less ?_
    have := right_one h k i (hget k i hi)
    rw [show l.length = l.length - 1 + 1 by omega] at this
    exact this
  rw [Bool.eq_iff_iff]
  constructor
  · intro hr
    obtain ⟨g0, _, _, g3⟩ := right_parts hr
    rw [hl] at g0
    rw [cutOk, g3]
    simp only [decide_eq_true g0, Bool.true_and, List.all_eq_true]
    intro i hi
    obtain ⟨k, hk, rfl⟩ := List.getElem_of_mem hi
    have hk' := List.getElem?_eq_getElem hk
    have := right_one hr k _ hk'
    rw [hl] at this
    rw [(hless k _ hk').1 this]; rfl
  · intro hc
    rw [cutOk, Bool.and_eq_true, Bool.and_eq_true] at hc
    obtain ⟨⟨g0, g1⟩, g2⟩ := hc
    have g0 := of_decide_eq_true g0
    refine right_of (by omega) (by omega) (fun k i hi => ?_) g1
    rw [hl, hless k i hi]
    have := List.all_eq_true.1 g2 i (List.mem_of_getElem? hi)
    simpa using this
theorem right_more {l : List Ins} (h : rightP l = true) (h40 : l.length ≤ 40) {i : Ins} (hi : ∀ N k, oneE N k i = 0) (he : endsB i.op = true) : rightP (l ++ [i]) = true := by
  refine right_of (by simp) (by simp; omega) (fun k j hj => ?_) (by rw [lastEnds_append, he])
  rw [List.getElem?_append] at hj
  split at hj
  · exact oneE_more (right_one h k j hj) (by simp)
  · have : j = i := by
      rename_i hk
      rcases Nat.eq_zero_or_pos (k - l.length) with e | e
      · rw [e] at hj; simpa using hj.symm
      · rw [List.getElem?_eq_none (by simp; omega)] at hj; cases hj
    rw [this]; exact hi _ _
theorem right_not {l : List Ins} {i : Ins} (he : endsB i.op = false) : rightP (l ++ [i]) = false := by
  cases hp : rightP (l ++ [i])
  · rfl
  · obtain ⟨_, _, _, g⟩ := right_parts hp
    rw [lastEnds_append, he] at g
    cases g
def ins20 : Ins := { op := 20, a := 0, b := 0, c := 0, imm := 0 }
def ins1 : Ins := { op := 1, a := 0, b := 0, c := 0, imm := 0 }
theorem ins20_one (N k : Nat) : oneE N k ins20 = 0 := by
  have : ins20.plain = true := by decide
  unfold oneE
  rw [this]
  simp [ins20]
end Go.Proofs.Ytkkbgpfimapnoaa
