/-
  Chapter 2, plain: two texts, a remark and a line's end between.
-/
import Derived.Test.YthfienjmajllpaaDoorLexK
namespace Go.Proofs.YthfienjmajllpaaDoor
open Go.RowKit
open Go.Lib (decodeL decodeN)
set_option linter.unusedVariables false

/-- An error at the text's end comes at the next rune that stands in no run, at the same place. -/
theorem lexR_fault {rest : List UInt8} {c : UInt8} (hc : c = 10 ∨ c = 32 ∨ c = 9 ∨ c = 35) {pos : Nat} {st : RSt} (he : (shutR st).2.1 ≠ 0) :
    lexR (runesOf (c :: rest)) pos st = ([], (shutR st).1, (shutR st).2.1) := by
  have hs : c.toNat < 128 := by rcases hc with rfl | rfl | rfl | rfl <;> decide
  have hi : inR c.toNat st = false := by rcases hc with rfl | rfl | rfl | rfl <;> simp [inR, isLetter, isDigit]
  have hr : runeR pos c.toNat [c] st = shutR st := by
    rw [runeR, hi, if_neg (by simp), if_pos he]
  rw [runesOf_ascii c rest hs, lexR, hr, if_pos he]
/-- From the shut state behind the first text on. -/
theorem join_rest (P note B : List UInt8) (hP : ∀ x ∈ P, x = 32 ∨ x = 9) (hn : ∀ x ∈ runesOf note, x.1 ≠ 10) (pos : Nat) (q : RSt) (hr : q.run = none) (hl : q.list.length + 1 + B.length < 16384) :
    lexR (runesOf (P ++ (35 :: (note ++ (10 :: (P ++ B)))))) pos q =
      if (lexR (runesOf B) 0 r0).2.2 = 0 then (q.list ++ [⟨3, ⟨#[]⟩, 0, (pos + P.length + 1 + note.length : Nat), q.line⟩] ++ (lexR (runesOf B) 0 r0).1.map (moveT (q.line + 1) (pos + 2 * P.length + note.length + 2)), 0, 0)
      else ([], (lexR (runesOf B) 0 r0).2.1 + ((pos + 2 * P.length + note.length + 2 : Nat) : Int), (lexR (runesOf B) 0 r0).2.2) := by
  have h35 : runeR (pos + P.length) (35 : UInt8).toNat [35] q = (0, 0, { q with remark := true }) := by
    show runeR (pos + P.length) 35 [35] q = _
    by_cases hm : q.remark = true
    · rw [rune_remark (by omega) hr hm]
      rw [show ({ q with remark := true } : RSt) = q by rw [← hm]]
    · have hi : inR 35 q = false := by simp [inR, isLetter, isDigit]
      rw [runeR, hi, shutR_none hr]
      simp [restR, hm]
  have h10 : ∀ p, runeR p (10 : UInt8).toNat [10] { q with remark := true } = ((p : Int), 0, { list := q.list ++ [⟨3, ⟨#[]⟩, 0, p, q.line⟩], line := q.line + 1, run := none, remark := false }) := by
    intro p
    show runeR p 10 [10] { q with remark := true } = _
    have hi : inR 10 { q with remark := true } = false := by simp [inR, isLetter, isDigit]
    rw [runeR, hi, shutR_none (by exact hr)]
    simp only [Bool.false_and, Bool.false_eq_true, if_false, ne_eq, not_true_eq_false]
    rw [restR, if_pos rfl, putR_ok _ (by show q.list.length < _; omega)]
    simp [hr]
  rw [pass_blanks _ P pos q hP hr, runesOf_ascii 35 _ (by decide), lexR, h35]
  simp only [ne_eq, not_true_eq_false, if_false]
  rw [runesOf_append (10 :: (P ++ B)) (.inr ⟨10, _, rfl, by decide⟩) _ note (Nat.le_refl _), pass_remark _ _ _ { q with remark := true } hn hr rfl, bytesOf_runes _ note (Nat.le_refl _),
    runesOf_ascii 10 _ (by decide), lexR, h10]
  simp only [ne_eq, not_true_eq_false, if_false]
  rw [pass_blanks B P _ { list := q.list ++ [⟨3, ⟨#[]⟩, 0, (pos + P.length + [(35 : UInt8)].length + note.length : Nat), q.line⟩], line := q.line + 1, run := none, remark := false } hP rfl]
  have hm := lexR_move (q.list ++ [⟨3, ⟨#[]⟩, 0, (pos + P.length + [(35 : UInt8)].length + note.length : Nat), q.line⟩]) (q.line + 1) (pos + P.length + [(35 : UInt8)].length + note.length + [(10 : UInt8)].length + P.length) (runesOf B) 0 0 r0 ⟨fun t ht => by simp [r0] at ht, fun a w e => (by cases e), by simp [r0]⟩ (runesOf_proper _ _ (Nat.le_refl _)) (by have := runesOf_length _ B (Nat.le_refl _); simp; omega)
  have e0 : moveR (q.list ++ [⟨3, ⟨#[]⟩, 0, (pos + P.length + [(35 : UInt8)].length + note.length : Nat), q.line⟩]) (q.line + 1) (pos + P.length + [(35 : UInt8)].length + note.length + [(10 : UInt8)].length + P.length) r0 = { list := q.list ++ [⟨3, ⟨#[]⟩, 0, (pos + P.length + [(35 : UInt8)].length + note.length : Nat), q.line⟩], line := q.line + 1, run := none, remark := false } := by simp [moveR, r0]
  rw [e0, Nat.zero_add] at hm
  rw [hm]
  have e1 : pos + P.length + [(35 : UInt8)].length + note.length + [(10 : UInt8)].length + P.length = pos + 2 * P.length + note.length + 2 := by simp; omega
  rw [e1]
  rfl
theorem join_plain (A P note B : List UInt8) (hP : ∀ x ∈ P, x = 32 ∨ x = 9) (hn : ∀ x ∈ runesOf note, x.1 ≠ 10) (hl : A.length + 1 + B.length < 16384) :
    ((lexR (runesOf A) 0 r0).2.2 ≠ 0 → lexR (runesOf (A ++ (P ++ (35 :: (note ++ (10 :: (P ++ B))))))) 0 r0 = ([], (lexR (runesOf A) 0 r0).2.1, (lexR (runesOf A) 0 r0).2.2)) ∧
    ((lexR (runesOf A) 0 r0).2.2 = 0 → (lexR (runesOf B) 0 r0).2.2 ≠ 0 → lexR (runesOf (A ++ (P ++ (35 :: (note ++ (10 :: (P ++ B))))))) 0 r0 = ([], (lexR (runesOf B) 0 r0).2.1 + ((A.length + 2 * P.length + note.length + 2 : Nat) : Int), (lexR (runesOf B) 0 r0).2.2)) ∧
    ((lexR (runesOf A) 0 r0).2.2 = 0 → (lexR (runesOf B) 0 r0).2.2 = 0 → ∃ p n k d, lexR (runesOf (A ++ (P ++ (35 :: (note ++ (10 :: (P ++ B))))))) 0 r0 = ((lexR (runesOf A) 0 r0).1 ++ [⟨3, ⟨#[]⟩, 0, p, n⟩] ++ (lexR (runesOf B) 0 r0).1.map (moveT k d), 0, 0)) := by
  have hhead : ∃ c r, P ++ (35 :: (note ++ (10 :: (P ++ B)))) = c :: r ∧ (c = 10 ∨ c = 32 ∨ c = 9 ∨ c = 35) := by
    cases P with
    | nil => exact ⟨35, _, rfl, by simp⟩
    | cons x P =>
      refine ⟨x, _, rfl, ?_⟩
      rcases hP x (by simp) with h | h <;> simp [h]
  have hR := fun pos q => join_rest P note B hP hn pos q
  obtain ⟨c, r, hcr, hc⟩ := hhead
  generalize P ++ (35 :: (note ++ (10 :: (P ++ B)))) = rest at hcr hR ⊢
  have hpl : plainHead rest := .inr ⟨c, r, hcr, by rcases hc with rfl | rfl | rfl | rfl <;> decide⟩
  have happ := lexR_app (runesOf rest) (runesOf A) 0 r0
  rw [← runesOf_append rest hpl _ A (Nat.le_refl _), bytesOf_runes _ A (Nat.le_refl _), Nat.zero_add] at happ
  have hend := lexR_end (runesOf A) 0 r0
  have hforms := lexR_forms (runesOf A) 0 0 r0 ⟨fun t ht => by simp [r0] at ht, fun a w e => (by cases e), by simp [r0]⟩ (runesOf_proper _ _ (Nat.le_refl _))
  have hrl := runesOf_length _ A (Nat.le_refl _)
  rw [happ]
  by_cases h1 : (stR (runesOf A) 0 r0).2.1 ≠ 0
  · rw [if_pos h1] at hend
    rw [if_pos h1, hend]
    exact ⟨fun _ => rfl, fun h => absurd h h1, fun h => absurd h h1⟩
  · rw [if_neg h1] at hend
    rw [if_neg h1, hend]
    generalize (stR (runesOf A) 0 r0).2.2 = qa at hend ⊢
    by_cases h2 : (shutR qa).2.1 ≠ 0
    · have he : endR qa = ([], (shutR qa).1, (shutR qa).2.1) := by rw [endR, if_pos h2]
      rw [he, hcr, lexR_fault hc h2]
      exact ⟨fun _ => rfl, fun h => absurd h h2, fun h => absurd h h2⟩
    · have h2' : (shutR qa).2.1 = 0 := Decidable.not_not.1 h2
      have he : endR qa = ((shutR qa).2.2.list, 0, 0) := by rw [endR, if_neg h2]
      rw [hend, he] at hforms
      have hll : (shutR qa).2.2.list.length ≤ A.length := by have := hforms.2; simp only at this; omega
      rw [he]
      have hclose := lexR_close (rest := rest) (.inr ⟨c, r, hcr, hc⟩) (pos := A.length) h2'
      rw [hclose, hR A.length _ (shutR_kept qa).1 (by omega)]
      refine ⟨fun h => absurd rfl h, fun _ h => by rw [if_neg h], fun _ h => ?_⟩
      rw [if_pos h]
      exact ⟨_, _, _, _, rfl⟩
end Go.Proofs.YthfienjmajllpaaDoor
