/-
  Chapter 2, plain: a fault's place lies in the text.
-/
import Derived.Test.YthfienjmajllpaaDoorLexJ
namespace Go.Proofs.YthfienjmajllpaaDoor
open Go.RowKit
open Go.Lib (decodeL decodeN)
set_option linter.unusedVariables false

/-- The open run began ahead of here. -/
def Begun (q : RSt) (pos : Nat) : Prop := ∀ a w, q.run = some (a, w) → a < pos
theorem shutR_place {q : RSt} {pos : Nat} (h : Begun q pos) (he : (shutR q).2.1 ≠ 0) : 0 ≤ (shutR q).1 ∧ (shutR q).1 < (pos : Int) := by
  unfold shutR at he ⊢
  rcases hr : q.run with _ | ⟨a, w⟩
  · rw [hr] at he; exact absurd rfl he
  · have ha := h a w hr
    simp only
    split
    · split
      · simp only; omega
      · simp only; omega
    · split
      · simp only; omega
      · simp only; omega
theorem runeR_place {q : RSt} {pos c : Nat} {b : List UInt8} (h : Begun q pos) (hb : 1 ≤ b.length) :
    ((runeR pos c b q).2.1 ≠ 0 → 0 ≤ (runeR pos c b q).1 ∧ (runeR pos c b q).1 < ((pos + b.length : Nat) : Int)) ∧ Begun (runeR pos c b q).2.2 (pos + b.length) := by
  have hk := shutR_kept q
  rw [runeR]
  split
  · refine ⟨fun e => absurd rfl e, fun a w e => ?_⟩
    simp only [growR] at e
    rcases hr : q.run with _ | ⟨a', w'⟩
    · rw [hr] at e; simp only [Option.some.injEq, Prod.mk.injEq] at e; omega
    · rw [hr] at e
      simp only [Option.some.injEq, Prod.mk.injEq] at e
      have := h a' w' hr
      omega
  · split
    · rename_i he
      have := shutR_place h he
      refine ⟨fun _ => ⟨this.1, by omega⟩, fun a w e => ?_⟩
      rw [hk.1] at e; cases e
    · have hn : ∀ z : RSt, z.run = none → Begun z (pos + b.length) := fun z hz a w e => by rw [hz] at e; cases e
      unfold restR
      split
      · exact ⟨fun _ => by simp only; omega, hn _ (by simp only [putR_run]; exact hk.1)⟩
      · split
        · exact ⟨fun e => absurd rfl e, hn _ hk.1⟩
        · split
          · exact ⟨fun e => absurd rfl e, hn _ hk.1⟩
          · split
            · exact ⟨fun _ => by simp only; omega, hn _ (by simp only [putR_run]; exact hk.1)⟩
            · exact ⟨fun _ => by simp only; omega, hn _ hk.1⟩
theorem bytesOf_cons (y : Nat × List UInt8) (x : List (Nat × List UInt8)) : bytesOf (y :: x) = y.2.length + bytesOf x := by simp [bytesOf]
theorem lexR_place : ∀ (x : List (Nat × List UInt8)) (pos : Nat) (q : RSt), (∀ y ∈ x, 1 ≤ y.2.length) → Begun q pos → (lexR x pos q).2.2 ≠ 0 → 0 ≤ (lexR x pos q).2.1 ∧ (lexR x pos q).2.1 < ((pos + bytesOf x : Nat) : Int)
  | [], pos, q, _, hq, he => by
    rw [lexR, endR] at he ⊢
    by_cases h : (shutR q).2.1 ≠ 0
    · rw [if_pos h]
      exact shutR_place hq h
    · rw [if_neg h] at he; exact absurd rfl he
  | (c, b) :: r, pos, q, hx, hq, he => by
    have hb : 1 ≤ b.length := hx (c, b) (by simp)
    have hr := runeR_place (c := c) hq hb
    rw [lexR] at he ⊢
    rw [bytesOf_cons]
    by_cases h : (runeR pos c b q).2.1 ≠ 0
    · rw [if_pos h]
      have := hr.1 h
      simp only
      omega
    · rw [if_neg h] at he ⊢
      have := lexR_place r (pos + b.length) _ (fun y hy => hx y (by simp [hy])) hr.2 he
      refine ⟨this.1, ?_⟩
      have h2 := this.2
      simp only
      omega
theorem runesOf_some : ∀ (n : Nat) (l : List UInt8), l.length ≤ n → ∀ x ∈ runesOf l, 1 ≤ x.2.length
  | 0, l, hn, x, hx => by
    obtain rfl : l = [] := List.eq_nil_of_length_eq_zero (by omega)
    simp [runesOf_nil] at hx
  | n + 1, l, hn, x, hx => by
    by_cases hl : l = []
    · subst hl; simp [runesOf_nil] at hx
    · have hp := decodeL_pos hl
      have h0 : 0 < l.length := List.length_pos_iff.2 hl
      rw [runesOf_cons hl] at hx
      rcases List.mem_cons.1 hx with rfl | hx
      · simp only [List.length_take]; omega
      · exact runesOf_some n _ (by rw [List.length_drop]; omega) x hx
theorem lexP_place {s : ByteArray} {l : List Tok} {p e : Int} (h : lexP s = (l, p, e)) (hs : s.size ≤ 65536) (he : e ≠ 0) : 0 ≤ p ∧ p < (s.size : Int) := by
  rw [lexP_R s hs] at h
  have h1 := lexR_place (runesOf s.data.toList) 0 r0 (runesOf_some _ _ (Nat.le_refl _)) (fun a w e => by simp [r0] at e) (by rw [h]; exact he)
  rw [h, bytesOf_runes _ _ (Nat.le_refl _)] at h1
  have h2 : s.data.toList.length = s.size := rfl
  rw [Nat.zero_add, h2] at h1
  exact h1
end Go.Proofs.YthfienjmajllpaaDoor
