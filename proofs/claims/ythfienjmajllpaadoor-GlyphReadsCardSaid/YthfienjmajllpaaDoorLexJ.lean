/-
  Chapter 2, plain: one text behind the other: the lexer's state behind the first; the second from there on, moved.
-/
import Derived.Test.YthfienjmajllpaaDoorBackP
namespace Go.Proofs.YthfienjmajllpaaDoor
open Go.RowKit
open Go.Lib (decodeL decodeN)
set_option linter.unusedVariables false

/-- The place and the number of a fault, and the state, behind some runes. -/
def stR : List (Nat × List UInt8) → Nat → RSt → Int × Int × RSt
  | [], _, st => (0, 0, st)
  | (c, b) :: r, pos, st => if (runeR pos c b st).2.1 ≠ 0 then runeR pos c b st else stR r (pos + b.length) (runeR pos c b st).2.2
def bytesOf (x : List (Nat × List UInt8)) : Nat := (x.map fun y => y.2.length).sum
theorem lexR_app (y : List (Nat × List UInt8)) : ∀ (x : List (Nat × List UInt8)) (pos : Nat) (st : RSt), lexR (x ++ y) pos st =
    if (stR x pos st).2.1 ≠ 0 then ([], (stR x pos st).1, (stR x pos st).2.1) else lexR y (pos + bytesOf x) (stR x pos st).2.2
  | [], pos, st => by simp [stR, bytesOf]
  | (c, b) :: r, pos, st => by
    rw [List.cons_append, lexR, stR]
    by_cases h : (runeR pos c b st).2.1 ≠ 0
    · rw [if_pos h, if_pos h, if_pos h]
    · rw [if_neg h, if_neg h, lexR_app y r]
      simp [bytesOf, Nat.add_assoc]
theorem lexR_end (x : List (Nat × List UInt8)) (pos : Nat) (st : RSt) : lexR x pos st = if (stR x pos st).2.1 ≠ 0 then ([], (stR x pos st).1, (stR x pos st).2.1) else endR (stR x pos st).2.2 := by
  have := lexR_app [] x pos st
  rw [List.append_nil] at this
  exact this
theorem bytesOf_runes : ∀ (n : Nat) (l : List UInt8), l.length ≤ n → bytesOf (runesOf l) = l.length
  | 0, l, hn => by
    obtain rfl : l = [] := List.eq_nil_of_length_eq_zero (by omega)
    rfl
  | n + 1, l, hn => by
    by_cases hl : l = []
    · subst hl; rfl
    · have hp := decodeL_pos hl
      have hle := Lib.decodeL_le l hl
      have h0 : 0 < l.length := List.length_pos_iff.2 hl
      rw [runesOf_cons hl]
      have := bytesOf_runes n (l.drop (decodeL l).2) (by rw [List.length_drop]; omega)
      rw [List.length_drop] at this
      simp only [bytesOf] at this ⊢
      rw [List.map_cons, List.sum_cons, this, List.length_take]
      omega
/-- A token, a state, moved by d bytes and k lines, behind the tokens L0. -/
def moveT (k d : Nat) (t : Tok) : Tok := { t with at_ := t.at_ + (d : Int), line := t.line + (k : Int) }
def moveR (L0 : List Tok) (k d : Nat) (q : RSt) : RSt := { list := L0 ++ q.list.map (moveT k d), line := q.line + k, run := q.run.map fun x => (x.1 + d, x.2), remark := q.remark }
theorem put_move (L0 : List Tok) (k d : Nat) (q : RSt) (t t' : Tok) (h : L0.length + q.list.length < 16384) (ht : t' = { t with at_ := t.at_ + (d : Int) }) :
    (putR q t).1 = 0 ∧ putR (moveR L0 k d q) t' = (0, moveR L0 k d (putR q t).2) := by
  subst ht
  rw [putR_ok t (by omega)]
  refine ⟨rfl, ?_⟩
  rw [putR_ok _ (by simp [moveR]; omega)]
  simp [moveR, moveT]
theorem moveR_clear (L0 : List Tok) (k d : Nat) (q : RSt) : ({ moveR L0 k d q with run := none } : RSt) = moveR L0 k d { q with run := none } := rfl
theorem shut_move (L0 : List Tok) (k d : Nat) (q : RSt) (h : L0.length + q.list.length < 16384) :
    (shutR (moveR L0 k d q)).2 = ((shutR q).2.1, moveR L0 k d (shutR q).2.2) ∧ ((shutR q).2.1 ≠ 0 → (shutR (moveR L0 k d q)).1 = (shutR q).1 + (d : Int)) := by
  rcases hr : q.run with _ | ⟨a, w⟩
  · rw [shutR_none hr, shutR_none (by simp [moveR, hr])]
    exact ⟨rfl, fun h => absurd rfl h⟩
  · have hm : (moveR L0 k d q).run = some (a + d, w) := by simp [moveR, hr]
    rw [shutR, shutR, hr, hm]
    simp only
    rw [moveR_clear]
    by_cases hh : headR w = true
    · rw [if_pos hh, if_pos hh]
      cases hn : numP w with
      | none => exact ⟨rfl, fun _ => by simp⟩
      | some n =>
        obtain ⟨h1, h2⟩ := put_move L0 k d { q with run := none } { kind := 1, text := ⟨#[]⟩, num := n, at_ := (a : Int), line := 0 } { kind := 1, text := ⟨#[]⟩, num := n, at_ := ((a + d : Nat) : Int), line := 0 } h (by simp)
        simp only
        rw [h2, h1]
        exact ⟨rfl, fun h => absurd rfl h⟩
    · rw [if_neg hh, if_neg hh]
      by_cases h24 : 24 < w.length
      · rw [if_pos h24, if_pos h24]; exact ⟨rfl, fun _ => by simp⟩
      · rw [if_neg h24, if_neg h24]
        obtain ⟨h1, h2⟩ := put_move L0 k d { q with run := none } { kind := 0, text := ⟨w.toArray⟩, num := 0, at_ := (a : Int), line := 0 } { kind := 0, text := ⟨w.toArray⟩, num := 0, at_ := ((a + d : Nat) : Int), line := 0 } h (by simp)
        rw [h2, h1]
        exact ⟨rfl, fun h => absurd rfl h⟩
theorem rest_move (L0 : List Tok) (k d pos c : Nat) (q : RSt) (h : L0.length + q.list.length < 16384) :
    (restR (pos + d) c (moveR L0 k d q)).2 = ((restR pos c q).2.1, moveR L0 k d (restR pos c q).2.2) ∧ ((restR pos c q).2.1 ≠ 0 → (restR (pos + d) c (moveR L0 k d q)).1 = (restR pos c q).1 + (d : Int)) := by
  rw [restR, restR]
  by_cases h10 : c = 10
  · rw [if_pos h10, if_pos h10]
    obtain ⟨h1, h2⟩ := put_move L0 k d { q with remark := false } { kind := 3, text := ⟨#[]⟩, num := 0, at_ := (pos : Int), line := 0 } { kind := 3, text := ⟨#[]⟩, num := 0, at_ := ((pos + d : Nat) : Int), line := 0 } h (by simp)
    have e : ({ moveR L0 k d q with remark := false } : RSt) = moveR L0 k d { q with remark := false } := rfl
    rw [e, h2, h1]
    refine ⟨?_, fun h => absurd rfl h⟩
    simp [moveR, Nat.add_right_comm]
  · rw [if_neg h10, if_neg h10]
    by_cases hb : q.remark = true ∨ c = 32 ∨ c = 9 ∨ c = 13
    · rw [if_pos hb, if_pos (by exact hb)]
      exact ⟨rfl, fun h => absurd rfl h⟩
    · rw [if_neg hb, if_neg (by exact hb)]
      by_cases h35 : c = 35
      · rw [if_pos h35, if_pos h35]
        exact ⟨rfl, fun h => absurd rfl h⟩
      · rw [if_neg h35, if_neg h35]
        by_cases hs : isSign c = true
        · rw [if_pos hs, if_pos hs]
          generalize Utf8.encode (c : Int) = tx
          obtain ⟨h1, h2⟩ := put_move L0 k d q { kind := 2, text := tx, num := 0, at_ := (pos : Int), line := 0 } { kind := 2, text := tx, num := 0, at_ := ((pos + d : Nat) : Int), line := 0 } h (by simp)
          rw [h2, h1]
          exact ⟨rfl, fun h => absurd rfl h⟩
        · rw [if_neg hs, if_neg hs]
          exact ⟨rfl, fun _ => by simp⟩
theorem rune_move (L0 : List Tok) (k d pos c N : Nat) (b : List UInt8) (q : RSt) (hI : RInv q N) (h : L0.length + N < 16384) :
    (runeR (pos + d) c b (moveR L0 k d q)).2 = ((runeR pos c b q).2.1, moveR L0 k d (runeR pos c b q).2.2) ∧ ((runeR pos c b q).2.1 ≠ 0 → (runeR (pos + d) c b (moveR L0 k d q)).1 = (runeR pos c b q).1 + (d : Int)) := by
  have hi : inR c (moveR L0 k d q) = inR c q := by simp [inR, moveR]
  have hr : (moveR L0 k d q).remark = q.remark := rfl
  obtain ⟨s1, s2⟩ := shut_move L0 k d q (by have := hI.len; omega)
  have hl := (shutR_inv hI).len
  rw [runeR, runeR, hi, hr]
  by_cases hc : (inR c q && !q.remark) = true
  · rw [if_pos hc, if_pos hc]
    refine ⟨?_, fun h => absurd rfl h⟩
    rcases hq : q.run with _ | ⟨a, w⟩ <;> simp [growR, moveR, hq]
  · rw [if_neg hc, if_neg hc, s1]
    by_cases he : (shutR q).2.1 ≠ 0
    · rw [if_pos he, if_pos he, s1]
      exact ⟨rfl, s2⟩
    · rw [if_neg he, if_neg he]
      exact rest_move L0 k d pos c _ (by omega)
theorem lexR_move (L0 : List Tok) (k d : Nat) : ∀ (x : List (Nat × List UInt8)) (pos N : Nat) (q : RSt), RInv q N → (∀ y ∈ x, Proper y) → L0.length + N + x.length < 16384 →
    lexR x (pos + d) (moveR L0 k d q) = if (lexR x pos q).2.2 = 0 then (L0 ++ (lexR x pos q).1.map (moveT k d), 0, 0) else ([], (lexR x pos q).2.1 + (d : Int), (lexR x pos q).2.2)
  | [], pos, N, q, hI, _, h => by
    obtain ⟨s1, s2⟩ := shut_move L0 k d q (by have := hI.len; simp at h; omega)
    rw [lexR, lexR, endR, endR, s1]
    by_cases he : (shutR q).2.1 ≠ 0
    · rw [if_pos he, if_pos he, s2 he]
      simp only
      rw [if_neg he]
    · rw [if_neg he, if_neg he]
      simp [moveR]
  | (c, b) :: r, pos, N, q, hI, hx, h => by
    rw [List.length_cons] at h
    obtain ⟨s1, s2⟩ := rune_move L0 k d pos c N b q hI (by omega)
    have hI2 := runeR_inv (pos := pos) hI (hx (c, b) (by simp))
    rw [lexR, lexR, s1]
    by_cases he : (runeR pos c b q).2.1 ≠ 0
    · rw [if_pos he, if_pos he, s2 he]
      simp only
      rw [if_neg he]
    · rw [if_neg he, if_neg he]
      have := lexR_move L0 k d r (pos + b.length) (N + 1) _ hI2 (fun y hy => hx y (by simp [hy])) (by omega)
      rw [← this, Nat.add_right_comm]
end Go.Proofs.YthfienjmajllpaaDoor
