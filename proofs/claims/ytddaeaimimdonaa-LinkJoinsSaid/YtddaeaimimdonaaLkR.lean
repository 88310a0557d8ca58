/-
  Chapter 19, plain: what the linker makes is a right program.
-/
import Derived.Test.YtddaeaimimdonaaLkEP
namespace Go.Proofs.Ytddaeaimimdonaa
open Go.RowKit
set_option linter.unusedVariables false
set_option linter.unusedSimpArgs false

theorem right_of {l : List Ins} (h0 : 0 < l.length) (h1 : l.length ≤ 256) (h : ∀ k i, l[k]? = some i → oneE l.length k i = 0) (hl : lastEnds l = true) : rightP l = true := by
  unfold rightP faultP
  have hf : ((List.range l.length).find? fun k => oneAt l k != 0) = none := by
    rw [List.find?_eq_none]
    intro k hk
    have hk := List.mem_range.1 hk
    unfold oneAt
    rw [List.getElem?_eq_getElem hk]
    simp only
    rw [h k _ (List.getElem?_eq_getElem hk)]
    decide
  rw [if_neg (by omega), if_neg (by omega), hf, hl]
  rfl
theorem before_lt (code : List Ins) {p q : Nat} (h : p < q) : beforeL code p < beforeL code q := by
  have h1 := beforeL_mono code (p := p + 1) (q := q) h
  have h2 := sizeL_two code p
  rw [beforeL] at h1
  omega
theorem field_ok {x : Int} (h : 0 ≤ x ∧ x < 16) : fieldB x true = true := by
  unfold fieldB
  simp
  omega
theorem one_right {code : List Ins} {A : List PArg} {k at_ N : Nat} (h : PartOk code A k) (hok : ∀ i ∈ code, i.Ok) (hA : ∀ a ∈ A, a.Ok) (hA4 : A.length = 4) (hk : k < 4) {j : Nat} (hj : j < code.length) {x : Nat} (hx : x < (oneL code A k at_ j).length) (hN : at_ + beforeL code code.length < N) :
    oneE N (at_ + beforeL code j + x) ((oneL code A k at_ j).getD x noIns) = 0 := by
  have hij : code[j]? = some (code[j]'hj) := List.getElem?_eq_getElem hj
  obtain ⟨i, hi'⟩ : ∃ i, code[j]'hj = i := ⟨_, rfl⟩
  rw [hi'] at hij
  have hgj : code.getD j noIns = i := by rw [List.getD_eq_getElem?_getD, hij]; rfl
  have hmem := List.mem_of_getElem? hij
  have hreg := h.reg hok i hmem
  have hins := right_insOk h.right hok hij
  have ho := (right_parts h.right).2.2.1 j hj
  rw [oneAt, hij] at ho
  have ho : oneE code.length j i = 0 := ho
  obtain ⟨hp, g1, g2⟩ := oneE_zero ho
  have hlt := before_lt code hj
  unfold oneL at hx ⊢
  simp only [hgj] at hx ⊢
  by_cases hjmp : i.op = 17 ∨ i.op = 18 ∨ i.op = 19
  · simp only [if_pos hjmp] at hx ⊢
    obtain rfl : x = 0 := by simpa using hx
    obtain ⟨op, a, b, c, imm⟩ := i
    simp only [List.getD_cons_zero] at *
    have hpl : Ins.plain ⟨op, a, b, c, ((at_ + beforeL code imm.toNat : Nat) : Int)⟩ = true := by
      unfold Ins.plain plainB at hp ⊢
      simp only [Bool.and_eq_true] at hp ⊢
      refine ⟨hp.1, ?_⟩
      have : immOf op = true := by unfold immOf; exact decide_eq_true (by omega)
      rw [this]; rfl
    unfold oneE
    rw [hpl]
    rcases hjmp with e | e | e
    · have g := g1 (.inl e)
      have hb1 := before_lt code (p := j) (q := imm.toNat) (by omega)
      have hb2 := beforeL_mono code (p := imm.toNat) (q := code.length) (by omega)
      subst e
      simp (decide := true) only [↓reduceIte]
      rw [if_neg (by omega)]
    · have g := g1 (.inr e)
      have hb1 := before_lt code (p := j) (q := imm.toNat) (by omega)
      have hb2 := beforeL_mono code (p := imm.toNat) (q := code.length) (by omega)
      subst e
      simp (decide := true) only [↓reduceIte]
      rw [if_neg (by omega)]
    · have g := g2 e
      have hb1 := beforeL_mono code (p := imm.toNat) (q := j) (by omega)
      subst e
      simp (decide := true) only [↓reduceIte]
      rw [if_neg (by omega)]
  simp only [if_neg hjmp] at hx ⊢
  by_cases h8 : i.op = 8
  · simp only [if_pos h8] at hx ⊢
    obtain rfl : x = 0 := by simpa using hx
    simp only [List.getD_cons_zero]
    have him := hins.arg h8
    have him0 := hins.imm.1
    have hm4 : i.imm.toNat < A.length := by omega
    have hga : A.getD i.imm.toNat ⟨0, 0⟩ = A[i.imm.toNat]'hm4 := by rw [List.getD_eq_getElem?_getD, List.getElem?_eq_getElem hm4]; rfl
    have hmA := List.getElem_mem hm4
    rw [← hga] at hmA
    obtain ⟨⟨kd, vl⟩, hG⟩ : ∃ G, A.getD i.imm.toNat ⟨0, 0⟩ = G := ⟨_, rfl⟩
    rw [hG] at hmA ⊢
    have hb := h.args _ hmA
    have hv := (hA _ hmA).val.1
    unfold badArg at hb
    have hb := of_decide_eq_false hb
    simp only at hb hv
    have hfa := field_ok hreg.a
    unfold handedP
    simp only
    by_cases h0 : kd = 0
    · rw [if_pos h0]
      have hpl : Ins.plain ⟨0, i.a, 0, 0, vl⟩ = true := by
        unfold Ins.plain plainB
        simp (decide := true) [regsOf, immOf, hfa, fieldB]
        simpa [fieldB] using hfa
      unfold oneE
      rw [hpl]
      simp (decide := true) only [↓reduceIte]
    rw [if_neg h0]
    by_cases h1 : kd = 1
    · rw [if_pos h1]
      have hfb : fieldB (12 + vl) true = true := field_ok (by omega)
      have hpl : Ins.plain ⟨1, i.a, 12 + vl, 0, 0⟩ = true := by
        unfold Ins.plain plainB
        rw [show regsOf 1 = 2 from rfl]
        simp (decide := true) [hfa, hfb, fieldB]
        exact ⟨by simpa [fieldB] using hfa, by simpa [fieldB] using hfb⟩
      unfold oneE
      rw [hpl]
      simp (decide := true) only [↓reduceIte]
    · rw [if_neg h1]
      have hpl : Ins.plain ⟨8, i.a, 0, 0, vl⟩ = true := by
        unfold Ins.plain plainB
        simp (decide := true) [regsOf, immOf, hfa, fieldB]
        simpa [fieldB] using hfa
      unfold oneE
      rw [hpl]
      simp (decide := true) only [↓reduceIte]
      rw [if_neg (by omega)]
  simp only [if_neg h8] at hx ⊢
  by_cases h20 : i.op = 20
  · simp only [if_pos h20] at hx ⊢
    rcases x with _ | x
    · simp only [List.getD_cons_zero]
      have hfa := field_ok hreg.a
      have hfb : fieldB (12 + (k : Int)) true = true := field_ok (by omega)
      have hpl : Ins.plain ⟨1, 12 + (k : Int), i.a, 0, 0⟩ = true := by
        unfold Ins.plain plainB
        rw [show regsOf 1 = 2 from rfl]
        simp (decide := true) [hfa, hfb, fieldB]
        exact ⟨by simpa [fieldB] using hfb, by simpa [fieldB] using hfa⟩
      unfold oneE
      rw [hpl]
      simp (decide := true) only [↓reduceIte]
    · by_cases hlt2 : j + 1 < code.length
      · simp only [if_pos hlt2] at hx ⊢
        obtain rfl : x = 0 := by simp at hx; omega
        simp only [List.getD_cons_succ, List.getD_cons_zero]
        have hsz : sizeL code j = 2 := by unfold sizeL; rw [hgj, if_pos ⟨h20, hlt2⟩]
        have hb3 := before_lt code hlt2
        rw [beforeL, hsz] at hb3
        have hpl : Ins.plain ⟨17, 0, 0, 0, ((at_ + beforeL code code.length : Nat) : Int)⟩ = true := by
          unfold Ins.plain plainB
          simp (decide := true) [regsOf, immOf, fieldB]
        unfold oneE
        rw [hpl]
        simp (decide := true) only [↓reduceIte]
        rw [if_neg (by omega)]
      · simp only [if_neg hlt2] at hx
        simp at hx
  simp only [if_neg h20] at hx ⊢
  obtain rfl : x = 0 := by simpa using hx
  simp only [List.getD_cons_zero]
  unfold oneE at ho ⊢
  have n17 : ¬ (i.op = 17 ∨ i.op = 18) := by omega
  have n19 : ¬ i.op = 19 := by omega
  rw [if_neg n17, if_neg n19] at ho ⊢
  exact ho
end Go.Proofs.Ytddaeaimimdonaa
