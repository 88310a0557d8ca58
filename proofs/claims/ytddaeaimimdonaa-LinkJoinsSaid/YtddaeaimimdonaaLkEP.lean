/-
  Chapter 19, plain: places, lengths; what a right part is like.
-/
import Derived.Test.YtddaeaimimdonaaLkDP
import Derived.Test.YtddaeaimimdonaaLkC
namespace Go.Proofs.Ytddaeaimimdonaa
open Go.RowKit
set_option linter.unusedVariables false

theorem sizeL_two (code : List Ins) (j : Nat) : 1 ≤ sizeL code j ∧ sizeL code j ≤ 2 := by unfold sizeL; split <;> omega
theorem beforeL_two (code : List Ins) : ∀ j, j ≤ beforeL code j ∧ beforeL code j ≤ 2 * j
  | 0 => by simp [beforeL]
  | j + 1 => by
    have := beforeL_two code j
    have := sizeL_two code j
    rw [beforeL]; omega
theorem beforeL_mono (code : List Ins) {p : Nat} : ∀ {q : Nat}, p ≤ q → beforeL code p ≤ beforeL code q
  | 0, h => by obtain rfl : p = 0 := by omega
               exact Nat.le_refl _
  | q + 1, h => by
    by_cases e : p = q + 1
    · subst e; exact Nat.le_refl _
    · have := beforeL_mono code (p := p) (q := q) (by omega)
      rw [beforeL]; omega
def tosL (at_ : Nat) (code : List Ins) (j : Nat) : List Int := (List.range j).map fun q => ((at_ + beforeL code q : Nat) : Int)
theorem tosL_len (at_ : Nat) (code : List Ins) (j : Nat) : (tosL at_ code j).length = j := by simp [tosL]
theorem tosL_snoc (at_ : Nat) (code : List Ins) (j : Nat) : tosL at_ code (j + 1) = tosL at_ code j ++ [((at_ + beforeL code j : Nat) : Int)] := by simp [tosL, List.range_succ]
theorem tosL_get {at_ : Nat} {code : List Ins} {j q : Nat} (h : q < j) : (tosL at_ code j).getD q 0 = ((at_ + beforeL code q : Nat) : Int) := by
  rw [List.getD_eq_getElem?_getD, tosL, List.getElem?_map, List.getElem?_range h]; rfl
theorem oneL_len (code : List Ins) (args : List PArg) (k at_ j : Nat) : 1 ≤ (oneL code args k at_ j).length ∧ (oneL code args k at_ j).length ≤ 2 := by
  unfold oneL
  simp only []
  split
  · simp
  split
  · simp
  split
  · split <;> simp
  · simp
theorem onesL_snoc (code : List Ins) (args : List PArg) (k at_ n : Nat) : onesL code args k at_ (n + 1) = onesL code args k at_ n ++ oneL code args k at_ n := by simp [onesL, List.range_succ]
theorem onesL_len (code : List Ins) (args : List PArg) (k at_ : Nat) : ∀ n, n ≤ (onesL code args k at_ n).length ∧ (onesL code args k at_ n).length ≤ 2 * n
  | 0 => by simp [onesL]
  | n + 1 => by
    have h1 := onesL_len code args k at_ n
    have h2 := oneL_len code args k at_ n
    rw [onesL_snoc, List.length_append]; omega
theorem startL_len (out : List Ins) (k : Nat) (code : List Ins) : out.length ≤ (startL out k code).length ∧ (startL out k code).length ≤ out.length + 16 := by
  unfold startL
  split
  · omega
  · have := clearL_len code
    rw [List.length_append]; omega
theorem addL_len (out : List Ins) (k : Nat) (code : List Ins) (args : List PArg) : out.length ≤ (addL out k code args).length ∧ (addL out k code args).length ≤ out.length + 16 + 2 * code.length := by
  have h1 := startL_len out k code
  have h2 := onesL_len code args k (startL out k code).length code.length
  unfold addL
  rw [List.length_append]; omega
structure PartOk (code : List Ins) (args : List PArg) (k : Nat) : Prop where
  right : rightP code = true
  low : ∀ i ∈ code, highP i = false
  args : ∀ a ∈ args, badArg k a = false
theorem part_ok {code : List Ins} {args : List PArg} {k : Nat} (h : faultL code args k = 0) : PartOk code args k := by
  unfold faultL at h
  split at h
  · omega
  rename_i h1
  split at h
  · omega
  rename_i h2
  split at h
  · omega
  rename_i h3
  refine ⟨by simpa using h1, fun i hi => ?_, fun a ha => ?_⟩
  · cases hh : highP i
    · rfl
    · exact absurd (List.any_eq_true.2 ⟨i, hi, hh⟩) h2
  · cases hh : badArg k a
    · rfl
    · exact absurd (List.any_eq_true.2 ⟨a, ha, hh⟩) h3
theorem PartOk.len {code : List Ins} {args : List PArg} {k : Nat} (h : PartOk code args k) : 0 < code.length ∧ code.length ≤ 256 := ⟨(right_parts h.right).1, (right_parts h.right).2.1⟩
theorem PartOk.reg {code : List Ins} {args : List PArg} {k : Nat} (h : PartOk code args k) (hok : ∀ i ∈ code, i.Ok) : ∀ i ∈ code, RegOk i := fun i hi => by
  obtain ⟨q, hq, e⟩ := List.getElem_of_mem hi
  have hr := (right_insOk h.right hok (k := q) (i := i) (by rw [List.getElem?_eq_getElem hq, e])).regs
  exact ⟨hr.a, hr.b, hr.c⟩
theorem PartOk.one {code : List Ins} {args : List PArg} {k : Nat} (h : PartOk code args k) (hok : ∀ i ∈ code, i.Ok) (ha : ∀ a ∈ args, a.Ok) (hk : k ≤ 1000) : ∀ i ∈ code, OneOk i code.length args := fun i hi => by
  obtain ⟨q, hq, e⟩ := List.getElem_of_mem hi
  have hi' : code[q]? = some i := by rw [List.getElem?_eq_getElem hq, e]
  have hins := right_insOk h.right hok hi'
  have ho := (right_parts h.right).2.2.1 q hq
  rw [oneAt, hi'] at ho
  have ho : oneE code.length q i = 0 := ho
  obtain ⟨hp, g1, g2⟩ := oneE_zero ho
  refine ⟨fun hj => ⟨hins.imm.1, ?_⟩, fun h8 => ⟨hins.imm.1, hins.arg h8⟩, fun a hm h1 => ?_, ⟨hins.regs.a.1, by have := hins.regs.a.2; omega⟩⟩
  · rcases hj with e | e | e
    · have := g1 (.inl e); omega
    · have := g1 (.inr e); omega
    · have := g2 e; omega
  · have hb := h.args a hm
    have h0 := (ha a hm).val.1
    unfold badArg at hb
    have := of_decide_eq_false hb
    omega
end Go.Proofs.Ytddaeaimimdonaa
