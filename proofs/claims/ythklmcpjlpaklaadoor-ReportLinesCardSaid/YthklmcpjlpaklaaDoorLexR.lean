/-
  Chapter 2, plain: a text as a list of runes; the lexer over that list (no places in bytes are looked up); the two are one.
-/
import Derived.Test.YthklmcpjlpaklaaDoorLexP
import Derived.Lib.MapLaws
import Derived.Lib.TrimAscii
namespace Go.Proofs.YthklmcpjlpaklaaDoor
open Go.RowKit
open Go.Lib (decodeL decodeN)
set_option linter.unusedVariables false

/-- A text's runes, each with its bytes. -/
def runesN : Nat → List UInt8 → List (Nat × List UInt8)
  | 0, _ => []
  | f + 1, l => if l = [] then [] else ((decodeL l).1, l.take (decodeL l).2) :: runesN f (l.drop (decodeL l).2)
def runesOf (l : List UInt8) : List (Nat × List UInt8) := runesN l.length l
theorem decodeL_pos {l : List UInt8} (h : l ≠ []) : 1 ≤ (decodeL l).2 := by
  rw [Lib.decodeL_N]
  rcases Lib.decodeN_shape l.length (l.getD 0 0).toNat (l.getD 1 0).toNat (l.getD 2 0).toNat (l.getD 3 0).toNat with ⟨_, h⟩ | ⟨_, _, _, _, h⟩ | ⟨_, _, _, _, _, _, h⟩ | ⟨_, _, _, _, _, _, _, h⟩ | h <;> rw [h] <;> simp
theorem runesN_more : ∀ (f g : Nat) (l : List UInt8), l.length ≤ f → l.length ≤ g → runesN f l = runesN g l
  | 0, 0, _, _, _ => rfl
  | 0, g + 1, l, h, _ => by
    obtain rfl : l = [] := List.eq_nil_of_length_eq_zero (by omega)
    rfl
  | f + 1, 0, l, _, h => by
    obtain rfl : l = [] := List.eq_nil_of_length_eq_zero (by omega)
    rfl
  | f + 1, g + 1, l, h, h' => by
    rw [runesN, runesN]
    by_cases hl : l = []
    · rw [if_pos hl, if_pos hl]
    · rw [if_neg hl, if_neg hl]
      have := decodeL_pos hl
      rw [runesN_more f g _ (by rw [List.length_drop]; omega) (by rw [List.length_drop]; omega)]
theorem runesOf_nil : runesOf [] = [] := rfl
theorem runesOf_cons {l : List UInt8} (h : l ≠ []) : runesOf l = ((decodeL l).1, l.take (decodeL l).2) :: runesOf (l.drop (decodeL l).2) := by
  have hp := decodeL_pos h
  have h0 : 0 < l.length := List.length_pos_iff.2 h
  rw [runesOf, runesOf, runesN_more l.length ((l.length - 1) + 1) l (Nat.le_refl _) (by omega), runesN, if_neg h]
  rw [runesN_more (l.length - 1) _ _ (by rw [List.length_drop]; omega) (Nat.le_refl _)]
theorem runesOf_ascii (c : UInt8) (l : List UInt8) (h : c.toNat < 128) : runesOf (c :: l) = (c.toNat, [c]) :: runesOf l := by
  rw [runesOf_cons (by simp), Lib.decodeL_ascii c l h]; rfl
theorem decodeN_next (n m b0 b1 b2 b3 c1 c2 c3 : Nat) (h0 : 1 ≤ n) (h1 : n ≤ m) (e1 : 1 < n → b1 = c1) (e2 : 2 < n → b2 = c2) (e3 : 3 < n → b3 = c3)
    (g1 : n = 1 → m = n ∨ c1 < 128) (g2 : n = 2 → m = n ∨ c2 < 128) (g3 : n = 3 → m = n ∨ c3 < 128) : decodeN m b0 c1 c2 c3 = decodeN n b0 b1 b2 b3 := by
  unfold decodeN
  by_cases k1 : 1 < n
  · obtain rfl := e1 k1
    by_cases k2 : 2 < n
    · obtain rfl := e2 k2
      by_cases k3 : 3 < n
      · obtain rfl := e3 k3
        simp only [k1, k2, k3, show 1 < m by omega, show 2 < m by omega, show 3 < m by omega]
      · obtain rfl : n = 3 := by omega
        have : ¬ (3 < m ∧ c3 / 64 = 2) := by rcases g3 rfl with h | h <;> omega
        simp only [k1, k2, k3, show 1 < m by omega, show 2 < m by omega, this, false_and, and_false, true_and, if_false]
    · obtain rfl : n = 2 := by omega
      have : ¬ (2 < m ∧ c2 / 64 = 2) := by rcases g2 rfl with h | h <;> omega
      simp only [k1, k2, show 1 < m by omega, this, false_and, and_false, true_and, if_false]
  · obtain rfl : n = 1 := by omega
    have : ¬ (1 < m ∧ c1 / 64 = 2) := by rcases g1 rfl with h | h <;> omega
    simp only [k1, this, false_and, and_false, if_false]
/-- What follows begins with a byte below 128, or there is nothing. -/
def plainHead (r : List UInt8) : Prop := r = [] ∨ ∃ c r', r = c :: r' ∧ c.toNat < 128
theorem decodeL_next {l r : List UInt8} (h : l ≠ []) (hr : plainHead r) : decodeL (l ++ r) = decodeL l := by
  have h0 : 0 < l.length := List.length_pos_iff.2 h
  have hin : ∀ k, k < l.length → (l ++ r).getD k 0 = l.getD k 0 := fun k hk => by
    rw [List.getD_eq_getElem?_getD, List.getD_eq_getElem?_getD, List.getElem?_append_left hk]
  have hout : (l ++ r).length = l.length ∨ ((l ++ r).getD l.length 0).toNat < 128 := by
    rcases hr with rfl | ⟨c, r', rfl, hc⟩
    · left; simp
    · right
      rw [List.getD_eq_getElem?_getD, List.getElem?_append_right (Nat.le_refl _), Nat.sub_self]
      simpa using hc
  rw [Lib.decodeL_N, Lib.decodeL_N, hin 0 h0]
  refine decodeN_next _ _ _ _ _ _ _ _ _ (by omega) (by rw [List.length_append]; omega) (fun k => by rw [hin 1 k]) (fun k => by rw [hin 2 k]) (fun k => by rw [hin 3 k]) (fun k => ?_) (fun k => ?_) (fun k => ?_)
  all_goals
    rw [k] at hout
    exact hout.imp (fun e => e.trans k.symm) id
theorem runesOf_append (r : List UInt8) (hr : plainHead r) : ∀ (n : Nat) (l : List UInt8), l.length ≤ n → runesOf (l ++ r) = runesOf l ++ runesOf r
  | 0, l, hn => by
    obtain rfl : l = [] := List.eq_nil_of_length_eq_zero (by omega)
    rfl
  | n + 1, l, hn => by
    by_cases hl : l = []
    · subst hl; rfl
    · have hp := decodeL_pos hl
      have hle := Lib.decodeL_le l hl
      rw [runesOf_cons (l := l ++ r) (by simp [hl]), runesOf_cons hl, decodeL_next hl hr, List.take_append_of_le_length hle, List.drop_append_of_le_length hle,
        runesOf_append r hr n _ (by rw [List.length_drop]; omega)]
      rfl
end Go.Proofs.YthklmcpjlpaklaaDoor
