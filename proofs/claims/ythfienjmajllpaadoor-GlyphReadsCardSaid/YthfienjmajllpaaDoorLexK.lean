/-
  Chapter 2, plain: blanks and remarks are passed over.
-/
import Derived.Test.YthfienjmajllpaaDoorLexJ
namespace Go.Proofs.YthfienjmajllpaaDoor
open Go.RowKit
open Go.Lib (decodeL decodeN)
set_option linter.unusedVariables false

theorem rune_remark {pos c : Nat} {b : List UInt8} {st : RSt} (hc : c ≠ 10) (hr : st.run = none) (hm : st.remark = true) : runeR pos c b st = (0, 0, st) := by
  rw [runeR, hm, shutR_none hr]
  simp only [Bool.not_true, Bool.and_false, Bool.false_eq_true, if_false, ne_eq, not_true_eq_false]
  rw [restR, if_neg hc, if_pos (.inl hm)]
theorem pass_remark (y : List (Nat × List UInt8)) : ∀ (x : List (Nat × List UInt8)) (pos : Nat) (st : RSt), (∀ z ∈ x, z.1 ≠ 10) → st.run = none → st.remark = true → lexR (x ++ y) pos st = lexR y (pos + bytesOf x) st
  | [], pos, st, _, _, _ => by simp [bytesOf]
  | (c, b) :: r, pos, st, h, hr, hm => by
    rw [List.cons_append, lexR, rune_remark (h (c, b) (by simp)) hr hm]
    simp only [ne_eq, not_true_eq_false, if_false]
    rw [pass_remark y r _ st (fun z hz => h z (by simp [hz])) hr hm]
    simp [bytesOf, Nat.add_assoc]
theorem rune_blank {pos c : Nat} {b : List UInt8} {st : RSt} (hc : c = 32 ∨ c = 9) (hr : st.run = none) : runeR pos c b st = (0, 0, st) := by
  have hi : inR c st = false := by rcases hc with rfl | rfl <;> simp [inR, isLetter, isDigit]
  rw [runeR, hi, shutR_none hr]
  simp only [Bool.false_and, Bool.false_eq_true, if_false, ne_eq, not_true_eq_false]
  rw [restR, if_neg (by omega), if_pos (by rcases hc with h | h <;> simp [h])]
theorem pass_blanks (rest : List UInt8) : ∀ (l : List UInt8) (pos : Nat) (st : RSt), (∀ x ∈ l, x = 32 ∨ x = 9) → st.run = none → lexR (runesOf (l ++ rest)) pos st = lexR (runesOf rest) (pos + l.length) st
  | [], pos, st, _, _ => rfl
  | x :: l, pos, st, h, hr => by
    have hx := h x (by simp)
    have hs : x.toNat < 128 := by rcases hx with rfl | rfl <;> decide
    rw [List.cons_append, runesOf_ascii x _ hs, lexR, rune_blank (by rcases hx with rfl | rfl; exact .inl rfl; exact .inr rfl) hr]
    simp only [ne_eq, not_true_eq_false, if_false]
    rw [pass_blanks rest l _ st (fun y hy => h y (by simp [hy])) hr]
    rw [show pos + [x].length + l.length = pos + (x :: l).length by simp; omega]
end Go.Proofs.YthfienjmajllpaaDoor
