/-
  Texts of one proof, joined (wip/gen/pack.py): LexJ, LexK, SegP, EraP, ClsP, TxtP, TxtQ.
-/
import Derived.Test.YthdlihiehfkceaaDoorPtAE
import Derived.Test.YthdlihiehfkceaaDoorPtAA
import Derived.Test.YthdlihiehfkceaaDoorPtAG
import Derived.Test.YthdlihiehfkceaaDoorPtAI
namespace Go.Proofs.YthdlihiehfkceaaDoor
open Go.RowKit
open Go.Lib (decodeL decodeN)
set_option linter.unusedVariables false

/-- The place and the number of a fault, and the state, behind some runes. -/
def stR : List (Nat × List UInt8) → Nat → RSt → Int × Int × RSt
  | [], _, st => (0, 0, st)
  | (c, b) :: r, pos, st => if (runeR pos c b st).2.1 ≠ 0 then runeR pos c b st else stR r (pos + b.length) (runeR pos c b st).2.2
def bytesOf (x : List (Nat × List UInt8)) : Nat := (x.map fun y => y.2.length).sum
theorem lexR_app (y : List (Nat × List UInt8)) : ∀ (x : List (Nat × List UInt8)) (pos : Nat) (st : RSt), lexR (x ++ y) pos st =
    if (stR x pos st).2.1 ≠ 0 then ([], (stR x pos st).1, (stR x pos st).2.1) else lexR y (pos + bytesOf x) (stR x pos st).2.2
  | [], pos, st => by simp [stR, bytesOf]
  | (c, b) :: r, pos, st => by
    rw [List.cons_append, lexR, stR]
    by_cases h : (runeR pos c b st).2.1 ≠ 0
    · rw [if_pos h, if_pos h, if_pos h]
    · rw [if_neg h, if_neg h, lexR_app y r]
      simp [bytesOf, Nat.add_assoc]
theorem lexR_end (x : List (Nat × List UInt8)) (pos : Nat) (st : RSt) : lexR x pos st = if (stR x pos st).2.1 ≠ 0 then ([], (stR x pos st).1, (stR x pos st).2.1) else endR (stR x pos st).2.2 := by
  have := lexR_app [] x pos st
  rw [List.append_nil] at this
  exact this
theorem bytesOf_runes : ∀ (n : Nat) (l : List UInt8), l.length ≤ n → bytesOf (runesOf l) = l.length
  | 0, l, hn => by
    obtain rfl : l = [] := List.eq_nil_of_length_eq_zero (by omega)
    rfl
  | n + 1, l, hn => by
    by_cases hl : l = []
    · subst hl; rfl
    · have hp := decodeL_pos hl
      have hle := Lib.decodeL_le l hl
      have h0 : 0 < l.length := List.length_pos_iff.2 hl
      rw [runesOf_cons hl]
      have := bytesOf_runes n (l.drop (decodeL l).2) (by rw [List.length_drop]; omega)
      rw [List.length_drop] at this
      simp only [bytesOf] at this ⊢
      rw [List.map_cons, List.sum_cons, this, List.length_take]
      omega
/-- A token, a state, moved by d bytes and k lines, behind the tokens L0. -/
def moveT (k d : Nat) (t : Tok) : Tok := { t with at_ := t.at_ + (d : Int), line := t.line + (k : Int) }
def moveR (L0 : List Tok) (k d : Nat) (q : RSt) : RSt := { list := L0 ++ q.list.map (moveT k d), line := q.line + k, run := q.run.map fun x => (x.1 + d, x.2), remark := q.remark }
theorem put_move (L0 : List Tok) (k d : Nat) (q : RSt) (t t' : Tok) (h : L0.length + q.list.length < 16384) (ht : t' = { t with at_ := t.at_ + (d : Int) }) :
    (putR q t).1 = 0 ∧ putR (moveR L0 k d q) t' = (0, moveR L0 k d (putR q t).2) := by
  subst ht
  rw [putR_ok t (by omega)]
  refine ⟨rfl, ?_⟩
  rw [putR_ok _ (by simp [moveR]; omega)]
  simp [moveR, moveT]
theorem moveR_clear (L0 : List Tok) (k d : Nat) (q : RSt) : ({ moveR L0 k d q with run := none } : RSt) = moveR L0 k d { q with run := none } := rfl
theorem shut_move (L0 : List Tok) (k d : Nat) (q : RSt) (h : L0.length + q.list.length < 16384) :
    (shutR (moveR L0 k d q)).2 = ((shutR q).2.1, moveR L0 k d (shutR q).2.2) ∧ ((shutR q).2.1 ≠ 0 → (shutR (moveR L0 k d q)).1 = (shutR q).1 + (d : Int)) := by
  rcases hr : q.run with _ | ⟨a, w⟩
  · rw [shutR_none hr, shutR_none (by simp [moveR, hr])]
    exact ⟨rfl, fun h => absurd rfl h⟩
  · have hm : (moveR L0 k d q).run = some (a + d, w) := by simp [moveR, hr]
    rw [shutR, shutR, hr, hm]
    simp only
    rw [moveR_clear]
    by_cases hh : headR w = true
    · rw [if_pos hh, if_pos hh]
      cases hn : numP w with
      | none => exact ⟨rfl, fun _ => by simp⟩
      | some n =>
        obtain ⟨h1, h2⟩ := put_move L0 k d { q with run := none } { kind := 1, text := ⟨#[]⟩, num := n, at_ := (a : Int), line := 0 } { kind := 1, text := ⟨#[]⟩, num := n, at_ := ((a + d : Nat) : Int), line := 0 } h (by simp)
        simp only
        rw [h2, h1]
        exact ⟨rfl, fun h => absurd rfl h⟩
    · rw [if_neg hh, if_neg hh]
      by_cases h24 : 24 < w.length
      · rw [if_pos h24, if_pos h24]; exact ⟨rfl, fun _ => by simp⟩
      · rw [if_neg h24, if_neg h24]
        obtain ⟨h1, h2⟩ := put_move L0 k d { q with run := none } { kind := 0, text := ⟨w.toArray⟩, num := 0, at_ := (a : Int), line := 0 } { kind := 0, text := ⟨w.toArray⟩, num := 0, at_ := ((a + d : Nat) : Int), line := 0 } h (by simp)
        rw [h2, h1]
        exact ⟨rfl, fun h => absurd rfl h⟩
theorem rest_move (L0 : List Tok) (k d pos c : Nat) (q : RSt) (h : L0.length + q.list.length < 16384) :
    (restR (pos + d) c (moveR L0 k d q)).2 = ((restR pos c q).2.1, moveR L0 k d (restR pos c q).2.2) ∧ ((restR pos c q).2.1 ≠ 0 → (restR (pos + d) c (moveR L0 k d q)).1 = (restR pos c q).1 + (d : Int)) := by
  rw [restR, restR]
  by_cases h10 : c = 10
  · rw [if_pos h10, if_pos h10]
    obtain ⟨h1, h2⟩ := put_move L0 k d { q with remark := false } { kind := 3, text := ⟨#[]⟩, num := 0, at_ := (pos : Int), line := 0 } { kind := 3, text := ⟨#[]⟩, num := 0, at_ := ((pos + d : Nat) : Int), line := 0 } h (by simp)
    have e : ({ moveR L0 k d q with remark := false } : RSt) = moveR L0 k d { q with remark := false } := rfl
    rw [e, h2, h1]
    refine ⟨?_, fun h => absurd rfl h⟩
    simp [moveR, Nat.add_right_comm]
  · rw [if_neg h10, if_neg h10]
    by_cases hb : q.remark = true ∨ c = 32 ∨ c = 9 ∨ c = 13
    · rw [if_pos hb, if_pos (by exact hb)]
      exact ⟨rfl, fun h => absurd rfl h⟩
    · rw [if_neg hb, if_neg (by exact hb)]
      by_cases h35 : c = 35
      · rw [if_pos h35, if_pos h35]
        exact ⟨rfl, fun h => absurd rfl h⟩
      · rw [if_neg h35, if_neg h35]
        by_cases hs : isSign c = true
        · rw [if_pos hs, if_pos hs]
          generalize Utf8.encode (c : Int) = tx
          obtain ⟨h1, h2⟩ := put_move L0 k d q { kind := 2, text := tx, num := 0, at_ := (pos : Int), line := 0 } { kind := 2, text := tx, num := 0, at_ := ((pos + d : Nat) : Int), line := 0 } h (by simp)
          rw [h2, h1]
          exact ⟨rfl, fun h => absurd rfl h⟩
        · rw [if_neg hs, if_neg hs]
          exact ⟨rfl, fun _ => by simp⟩
theorem rune_move (L0 : List Tok) (k d pos c N : Nat) (b : List UInt8) (q : RSt) (hI : RInv q N) (h : L0.length + N < 16384) :
    (runeR (pos + d) c b (moveR L0 k d q)).2 = ((runeR pos c b q).2.1, moveR L0 k d (runeR pos c b q).2.2) ∧ ((runeR pos c b q).2.1 ≠ 0 → (runeR (pos + d) c b (moveR L0 k d q)).1 = (runeR pos c b q).1 + (d : Int)) := by
  have hi : inR c (moveR L0 k d q) = inR c q := by simp [inR, moveR]
  have hr : (moveR L0 k d q).remark = q.remark := rfl
  obtain ⟨s1, s2⟩ := shut_move L0 k d q (by have := hI.len; omega)
  have hl := (shutR_inv hI).len
  rw [runeR, runeR, hi, hr]
  by_cases hc : (inR c q && !q.remark) = true
  · rw [if_pos hc, if_pos hc]
    refine ⟨?_, fun h => absurd rfl h⟩
    rcases hq : q.run with _ | ⟨a, w⟩ <;> simp [growR, moveR, hq]
  · rw [if_neg hc, if_neg hc, s1]
    by_cases he : (shutR q).2.1 ≠ 0
    · rw [if_pos he, if_pos he, s1]
      exact ⟨rfl, s2⟩
    · rw [if_neg he, if_neg he]
      exact rest_move L0 k d pos c _ (by omega)
theorem lexR_move (L0 : List Tok) (k d : Nat) : ∀ (x : List (Nat × List UInt8)) (pos N : Nat) (q : RSt), RInv q N → (∀ y ∈ x, Proper y) → L0.length + N + x.length < 16384 →
    lexR x (pos + d) (moveR L0 k d q) = if (lexR x pos q).2.2 = 0 then (L0 ++ (lexR x pos q).1.map (moveT k d), 0, 0) else ([], (lexR x pos q).2.1 + (d : Int), (lexR x pos q).2.2)
  | [], pos, N, q, hI, _, h => by
    obtain ⟨s1, s2⟩ := shut_move L0 k d q (by have := hI.len; simp at h; omega)
    rw [lexR, lexR, endR, endR, s1]
    by_cases he : (shutR q).2.1 ≠ 0
    · rw [if_pos he, if_pos he, s2 he]
      simp only
      rw [if_neg he]
    · rw [if_neg he, if_neg he]
      simp [moveR]
  | (c, b) :: r, pos, N, q, hI, hx, h => by
    rw [List.length_cons] at h
    obtain ⟨s1, s2⟩ := rune_move L0 k d pos c N b q hI (by omega)
    have hI2 := runeR_inv (pos := pos) hI (hx (c, b) (by simp))
    rw [lexR, lexR, s1]
    by_cases he : (runeR pos c b q).2.1 ≠ 0
    · rw [if_pos he, if_pos he, s2 he]
      simp only
      rw [if_neg he]
    · rw [if_neg he, if_neg he]
      have := lexR_move L0 k d r (pos + b.length) (N + 1) _ hI2 (fun y hy => hx y (by simp [hy])) (by omega)
      rw [← this, Nat.add_right_comm]
end Go.Proofs.YthdlihiehfkceaaDoor

namespace Go.Proofs.YthdlihiehfkceaaDoor
open Go.RowKit
open Go.Lib (decodeL decodeN)
set_option linter.unusedVariables false

theorem rune_remark {pos c : Nat} {b : List UInt8} {st : RSt} (hc : c ≠ 10) (hr : st.run = none) (hm : st.remark = true) : runeR pos c b st = (0, 0, st) := by
  rw [runeR, hm, shutR_none hr]
  simp only [Bool.not_true, Bool.and_false, Bool.false_eq_true, if_false, ne_eq, not_true_eq_false]
  rw [restR, if_neg hc, if_pos (.inl hm)]
theorem pass_remark (y : List (Nat × List UInt8)) : ∀ (x : List (Nat × List UInt8)) (pos : Nat) (st : RSt), (∀ z ∈ x, z.1 ≠ 10) → st.run = none → st.remark = true → lexR (x ++ y) pos st = lexR y (pos + bytesOf x) st
  | [], pos, st, _, _, _ => by simp [bytesOf]
  | (c, b) :: r, pos, st, h, hr, hm => by
    rw [List.cons_append, lexR, rune_remark (h (c, b) (by simp)) hr hm]
    simp only [ne_eq, not_true_eq_false, if_false]
    rw [pass_remark y r _ st (fun z hz => h z (by simp [hz])) hr hm]
    simp [bytesOf, Nat.add_assoc]
theorem rune_blank {pos c : Nat} {b : List UInt8} {st : RSt} (hc : c = 32 ∨ c = 9) (hr : st.run = none) : runeR pos c b st = (0, 0, st) := by
  have hi : inR c st = false := by rcases hc with rfl | rfl <;> simp [inR, isLetter, isDigit]
  rw [runeR, hi, shutR_none hr]
  simp only [Bool.false_and, Bool.false_eq_true, if_false, ne_eq, not_true_eq_false]
  rw [restR, if_neg (by omega), if_pos (by rcases hc with h | h <;> simp [h])]
theorem pass_blanks (rest : List UInt8) : ∀ (l : List UInt8) (pos : Nat) (st : RSt), (∀ x ∈ l, x = 32 ∨ x = 9) → st.run = none → lexR (runesOf (l ++ rest)) pos st = lexR (runesOf rest) (pos + l.length) st
  | [], pos, st, _, _ => rfl
  | x :: l, pos, st, h, hr => by
    have hx := h x (by simp)
    have hs : x.toNat < 128 := by rcases hx with rfl | rfl <;> decide
    rw [List.cons_append, runesOf_ascii x _ hs, lexR, rune_blank (by rcases hx with rfl | rfl; exact .inl rfl; exact .inr rfl) hr]
    simp only [ne_eq, not_true_eq_false, if_false]
    rw [pass_blanks rest l _ st (fun y hy => h y (by simp [hy])) hr]
    rw [show pos + [x].length + l.length = pos + (x :: l).length by simp; omega]
end Go.Proofs.YthdlihiehfkceaaDoor

namespace Go.Proofs.YthdlihiehfkceaaDoor
open Go.RowKit
set_option linter.unusedVariables false

theorem same_app : ∀ {l r l' r' : List Tok}, sameP l r = true → sameP l' r' = true → sameP (l ++ l') (r ++ r') = true
  | [], [], l', r', _, h => h
  | x :: l, [], _, _, h, _ => by simp [sameP] at h
  | [], y :: r, _, _, h, _ => by simp [sameP] at h
  | x :: l, y :: r, l', r', h, h' => by
    simp only [sameP, Bool.and_eq_true] at h
    simp only [List.cons_append, sameP, Bool.and_eq_true]
    exact ⟨h.1, same_app h.2 h'⟩
/-- A byte that ends a run ahead of it. -/
def stopB (c : UInt8) : Bool := decide (c.toNat < 128) && !isLetter c.toNat && !isDigit c.toNat && !(c == 46)
def stopHead (l : List UInt8) : Prop := l = [] ∨ ∃ c r, l = c :: r ∧ stopB c = true
theorem stop_in {c : UInt8} (h : stopB c = true) (st : RSt) : c.toNat < 128 ∧ inR c.toNat st = false := by
  simp only [stopB, Bool.and_eq_true, decide_eq_true_eq, Bool.not_eq_true', beq_eq_false_iff_ne] at h
  obtain ⟨⟨⟨h1, h2⟩, h3⟩, h4⟩ := h
  refine ⟨h1, ?_⟩
  have h46 : (c.toNat == 46) = false := by
    rw [beq_eq_false_iff_ne]
    intro e
    exact h4 (UInt8.toNat_inj.1 (by rw [e]; rfl))
  simp [inR, h2, h3, h46]
theorem lexR_closeS {rest : List UInt8} (h : stopHead rest) {pos : Nat} {st : RSt} (he : (shutR st).2.1 = 0) :
    lexR (runesOf rest) pos st = lexR (runesOf rest) pos (shutR st).2.2 := by
  rcases h with rfl | ⟨c, r, rfl, hc⟩
  · exact endR_shut he
  · obtain ⟨hs, hi⟩ := stop_in hc st
    rw [runesOf_ascii c r hs, lexR, lexR, runeR_shut (.inl hi) he]
/-- What is read of a piece, from a state between tokens. -/
def Reads (x rest : List UInt8) (l : List Tok) (pos : Nat) (st : RSt) : Prop :=
  ∃ l' pos' st', sameP l' l = true ∧ st'.list = st.list ++ l' ∧ st'.run = none ∧ st'.remark = false ∧ lexR (runesOf (x ++ rest)) pos st = lexR (runesOf rest) pos' st'
/-- A piece, whatever stands behind. -/
def SegA (x : List UInt8) (l : List Tok) : Prop := ∀ rest pos st, st.run = none → st.remark = false → st.list.length + l.length ≤ 16384 → Reads x rest l pos st
/-- A piece behind which stands nothing, or a byte that ends a run. -/
def SegS (x : List UInt8) (l : List Tok) : Prop := ∀ rest pos st, stopHead rest → st.run = none → st.remark = false → st.list.length + l.length ≤ 16384 → Reads x rest l pos st
theorem SegA.toS {x : List UInt8} {l : List Tok} (h : SegA x l) : SegS x l := fun rest pos st _ h1 h2 h3 => h rest pos st h1 h2 h3
theorem SegA.nil : SegA [] [] := fun rest pos st h1 h2 _ => ⟨[], pos, st, rfl, by simp, h1, h2, rfl⟩
theorem Reads.app {x y rest : List UInt8} {l m : List Tok} {pos : Nat} {st : RSt} (h : Reads x (y ++ rest) l pos st)
    (k : ∀ pos' st', st'.run = none → st'.remark = false → st'.list.length = st.list.length + l.length → Reads y rest m pos' st') : Reads (x ++ y) rest (l ++ m) pos st := by
  obtain ⟨l', p1, s1, e1, e2, e3, e4, e5⟩ := h
  obtain ⟨m', p2, s2, f1, f2, f3, f4, f5⟩ := k p1 s1 e3 e4 (by rw [e2, List.length_append, sameP_length e1])
  exact ⟨l' ++ m', p2, s2, same_app e1 f1, by rw [f2, e2, List.append_assoc], f3, f4, by rw [List.append_assoc, e5, f5]⟩
theorem SegA.app {x y : List UInt8} {l m : List Tok} (h : SegA x l) (k : SegA y m) : SegA (x ++ y) (l ++ m) := fun rest pos st h1 h2 h3 =>
  (h (y ++ rest) pos st h1 h2 (by rw [List.length_append] at h3; omega)).app fun p s h4 h5 h6 => k rest p s h4 h5 (by rw [List.length_append] at h3; omega)
theorem SegA.appS {x y : List UInt8} {l m : List Tok} (h : SegA x l) (k : SegS y m) : SegS (x ++ y) (l ++ m) := fun rest pos st h0 h1 h2 h3 =>
  (h (y ++ rest) pos st h1 h2 (by rw [List.length_append] at h3; omega)).app fun p s h4 h5 h6 => k rest p s h0 h4 h5 (by rw [List.length_append] at h3; omega)
theorem SegS.appA {x y : List UInt8} {l m : List Tok} (h : SegS x l) (hy : ∃ c r, y = c :: r ∧ stopB c = true) (k : SegA y m) : SegA (x ++ y) (l ++ m) := fun rest pos st h1 h2 h3 => by
  obtain ⟨c, r, rfl, hc⟩ := hy
  exact (h (c :: r ++ rest) pos st (.inr ⟨c, r ++ rest, rfl, hc⟩) h1 h2 (by rw [List.length_append] at h3; omega)).app fun p s h4 h5 h6 => k rest p s h4 h5 (by rw [List.length_append] at h3; omega)
theorem SegS.appS {x y : List UInt8} {l m : List Tok} (h : SegS x l) (hy : ∃ c r, y = c :: r ∧ stopB c = true) (k : SegS y m) : SegS (x ++ y) (l ++ m) := fun rest pos st h0 h1 h2 h3 => by
  obtain ⟨c, r, rfl, hc⟩ := hy
  exact (h (c :: r ++ rest) pos st (.inr ⟨c, r ++ rest, rfl, hc⟩) h1 h2 (by rw [List.length_append] at h3; omega)).app fun p s h4 h5 h6 => k rest p s h0 h4 h5 (by rw [List.length_append] at h3; omega)
theorem seg_blank {c : UInt8} (hc : c = 32 ∨ c = 9 ∨ c = 13) : SegA [c] [] := fun rest pos st h1 h2 _ => by
  have hs : c.toNat < 128 := by rcases hc with rfl | rfl | rfl <;> decide
  have hi : inR c.toNat st = false := by rcases hc with rfl | rfl | rfl <;> simp [inR, isLetter, isDigit]
  have hrr : runeR pos c.toNat [c] st = (0, 0, st) := by
    rw [runeR, hi, shutR_none h1]
    simp only [Bool.false_and, Bool.false_eq_true, if_false, ne_eq, not_true_eq_false]
    rcases hc with rfl | rfl | rfl <;> simp [restR]
  refine ⟨[], pos + [c].length, st, rfl, by simp, h1, h2, ?_⟩
  show lexR (runesOf (c :: rest)) pos st = _
  rw [runesOf_ascii c rest hs, lexR, hrr]
  simp
def endT : Tok := ⟨3, ⟨#[]⟩, 0, 0, 0⟩
theorem rune_nl {pos : Nat} {st : RSt} (h1 : st.run = none) (hl : st.list.length < 16384) : runeR pos (10 : UInt8).toNat [10] st = ((pos : Int), 0, { list := st.list ++ [⟨3, ⟨#[]⟩, 0, pos, st.line⟩], line := st.line + 1, run := none, remark := false }) := by
  show runeR pos 10 [10] st = _
  have hi : inR 10 st = false := by simp [inR, isLetter, isDigit]
  rw [runeR, hi, shutR_none h1]
  simp only [Bool.false_and, Bool.false_eq_true, if_false, ne_eq, not_true_eq_false]
  rw [restR, if_pos rfl, putR_ok _ (by show st.list.length < _; omega)]
  simp [h1]
theorem seg_nl : SegA [10] [endT] := fun rest pos st h1 h2 h3 => by
  refine ⟨[⟨3, ⟨#[]⟩, 0, pos, st.line⟩], pos + [(10 : UInt8)].length, { list := st.list ++ [⟨3, ⟨#[]⟩, 0, pos, st.line⟩], line := st.line + 1, run := none, remark := false }, rfl, rfl, rfl, rfl, ?_⟩
  show lexR (runesOf (10 :: rest)) pos st = _
  rw [runesOf_ascii 10 rest (by decide), lexR, rune_nl h1 (by simp at h3; omega)]
  simp
/-- A remark, up to its line's end. -/
theorem seg_remark {note : List UInt8} (hn : ∀ x ∈ runesOf note, x.1 ≠ 10) : SegA (35 :: (note ++ [10])) [endT] := fun rest pos st h1 h2 h3 => by
  have h35 : runeR pos (35 : UInt8).toNat [35] st = (0, 0, { st with remark := true }) := by
    show runeR pos 35 [35] st = _
    have hi : inR 35 st = false := by simp [inR, isLetter, isDigit]
    rw [runeR, hi, shutR_none h1]
    simp [restR, h2]
  have hl : st.list.length < 16384 := by simp at h3; omega
  refine ⟨[⟨3, ⟨#[]⟩, 0, (pos + [(35 : UInt8)].length + note.length : Nat), st.line⟩], pos + [(35 : UInt8)].length + note.length + [(10 : UInt8)].length, { list := st.list ++ [⟨3, ⟨#[]⟩, 0, (pos + [(35 : UInt8)].length + note.length : Nat), st.line⟩], line := st.line + 1, run := none, remark := false }, rfl, rfl, rfl, rfl, ?_⟩
  have e : 35 :: (note ++ [10]) ++ rest = 35 :: (note ++ (10 :: rest)) := by simp
  rw [e, runesOf_ascii 35 _ (by decide), lexR, h35]
  simp only [ne_eq, not_true_eq_false, if_false]
  rw [runesOf_append (10 :: rest) (.inr ⟨10, _, rfl, by decide⟩) _ note (Nat.le_refl _), pass_remark _ _ _ { st with remark := true } hn h1 rfl, bytesOf_runes _ note (Nat.le_refl _),
    runesOf_ascii 10 _ (by decide), lexR, rune_nl (st := { st with remark := true }) h1 hl]
  simp
theorem seg_run {w : List UInt8} {x : Tok} (hw : RunOk w) (hs : ∀ (p : Nat) (st : RSt), st.run = none → st.list.length < 16384 → ∃ y, sameTok y x ∧ shutR { st with run := some (p, w) } = ((p : Int), 0, { st with list := st.list ++ [y] })) : SegS w [x] := fun rest pos st h0 h1 h2 h3 => by
  obtain ⟨y, z, rfl, hy, hz⟩ := hw
  obtain ⟨t, ht, hsh⟩ := hs pos st h1 (by simp at h3; omega)
  refine ⟨[t], pos + (y :: z).length, { st with list := st.list ++ [t] }, by simp [sameP, ht], rfl, h1, h2, ?_⟩
  rw [lexR_run rest y z pos st hy hz h1 h2, lexR_closeS h0 (by rw [hsh]), hsh]
theorem st_run {st : RSt} (h : st.run = none) : ({ st with run := none } : RSt) = st := by rw [← h]
theorem seg_word {t : Tok} (hk0 : t.kind = 0) (hro : RunOk t.text.data.toList) (hh : headR t.text.data.toList = false) (h24 : t.text.data.toList.length ≤ 24) (hn : t.num = 0) : SegS (tokText t) [t] := by
  have e : tokText t = t.text.data.toList := by rw [tokText, if_neg (by omega)]
  rw [e]
  refine seg_run hro fun p st h1 hl => ⟨⟨0, t.text, 0, p, st.line⟩, ⟨hk0.symm, rfl, hn.symm⟩, ?_⟩
  rw [shutR]
  simp only
  rw [hh, if_neg (by simp), if_neg (by omega), st_run h1, putR_ok _ (by omega), mk_toList]
theorem seg_num {t : Tok} {u : Nat} (hk1 : t.kind = 1) (ht : t.text = ⟨#[]⟩) (hu : u < 18446744073709551616) (hn : t.num = u) : SegS (tokText t) [t] := by
  have e : tokText t = Lib.decDigits u := by rw [tokText, if_pos hk1, hn]; simp
  rw [e]
  refine seg_run (dec_run u) fun p st h1 hl => ⟨⟨1, ⟨#[]⟩, u, p, st.line⟩, ⟨hk1.symm, ht.symm, hn.symm⟩, ?_⟩
  rw [shutR]
  simp only
  rw [dec_headR, if_pos rfl, numP_dec u hu]
  simp only
  rw [st_run h1, putR_ok _ (by omega)]
theorem rune_sign {c : Nat} (hc : isSign c = true) (pos : Nat) (st : RSt) (b : List UInt8) (h1 : st.run = none) (h2 : st.remark = false) (hlt : st.list.length < 16384) :
    runeR pos c b st = ((pos : Int), 0, { st with list := st.list ++ [⟨2, Utf8.encode (c : Int), 0, pos, st.line⟩] }) := by
  obtain ⟨s1, s2, s3, s4⟩ := sign_plain hc st h1
  rw [runeR, s1, shutR_none h1]
  simp only [Bool.false_and, Bool.false_eq_true, if_false, ne_eq, not_true_eq_false]
  have hb : ¬ (st.remark = true ∨ c = 32 ∨ c = 9 ∨ c = 13) := by
    rintro (h | h)
    · rw [h2] at h; cases h
    · exact s3 h
  rw [restR, if_neg s2, if_neg hb, if_neg s4, if_pos hc, putR_ok _ hlt]
theorem seg_signE {c : Nat} {E : ByteArray} (hrs : ∀ rest, runesOf (E.data.toList ++ rest) = (c, E.data.toList) :: runesOf rest)
    (hrr : ∀ (pos : Nat) (st : RSt) (b : List UInt8), st.run = none → st.remark = false → st.list.length < 16384 → runeR pos c b st = ((pos : Int), 0, { st with list := st.list ++ [⟨2, E, 0, pos, st.line⟩] }))
    {t : Tok} (hk2 : t.kind = 2) (hn : t.num = 0) (ht : t.text = E) : SegA E.data.toList [t] := by
  intro rest pos st h1 h2 h3
  refine ⟨[⟨2, E, 0, pos, st.line⟩], pos + E.data.toList.length, { st with list := st.list ++ [⟨2, E, 0, pos, st.line⟩] }, ?_, rfl, h1, h2, ?_⟩
  · simp only [sameP, Bool.and_true, decide_eq_true_eq]
    exact ⟨hk2.symm, ht.symm, hn.symm⟩
  · rw [hrs, lexR, hrr pos st _ h1 h2 (by simp at h3; omega)]
    simp
theorem seg_sign {c : Nat} (hc : isSign c = true) {t : Tok} (hk2 : t.kind = 2) (hn : t.num = 0) (ht : t.text = Utf8.encode (c : Int)) : SegA t.text.data.toList [t] := by
  have h := seg_signE (runesOf_sign hc) (rune_sign hc) hk2 hn ht
  rw [← ht] at h
  exact h
/-- A token that is no line's end, printed. -/
theorem seg_tok {t : Tok} (h : Form t) (h3 : t.kind ≠ 3) : SegS (tokText t) [t] := by
  rcases h with ⟨a, b, c, d, e⟩ | ⟨a, b, u, hu, hn⟩ | ⟨a, b, c, hc, ht⟩ | h
  · exact seg_word a b c d e
  · exact seg_num a b hu hn
  · have e : tokText t = t.text.data.toList := by rw [tokText, if_neg (by omega)]
    rw [e]
    exact (seg_sign hc a b ht).toS
  · exact absurd h.1 h3
/-- A line, printed. -/
theorem seg_line : ∀ (l : List Tok) (fresh : Bool), l ≠ [] → (∀ t ∈ l, Form t ∧ t.kind ≠ 3) → SegS (printGo l fresh) l
  | [], _, h, _ => absurd rfl h
  | t :: r, fresh, _, h => by
    obtain ⟨hf, h3⟩ := h t (by simp)
    have hk : ¬ (t.kind < 0 ∨ 3 < t.kind) := by
      rcases hf with h | h | h | h <;> have := h.1 <;> omega
    rw [printGo, if_neg h3, if_neg hk]
    have hb : SegA (if fresh = true then [] else [32]) [] := by
      cases fresh
      · exact seg_blank (.inl rfl)
      · exact SegA.nil
    have ht := hb.appS (seg_tok hf h3)
    rw [List.nil_append] at ht
    by_cases hr : r = []
    · subst hr
      rw [printGo, List.append_nil]
      exact ht
    · have ih := seg_line r false hr (fun x hx => h x (by simp [hx]))
      refine ht.appS ?_ ih
      obtain ⟨y, r', rfl⟩ := List.exists_cons_of_ne_nil hr
      obtain ⟨hf', h3'⟩ := h y (by simp)
      have hk' : ¬ (y.kind < 0 ∨ 3 < y.kind) := by
        rcases hf' with h | h | h | h <;> have := h.1 <;> omega
      rw [printGo, if_neg h3', if_neg hk']
      exact ⟨32, _, rfl, rfl⟩
/-- Behind a whole text of such pieces: it is read. -/
theorem seg_lex {x : List UInt8} {l : List Tok} (h : SegA x l) (hx : x.length ≤ 65536) (hl : l.length ≤ 16384) : ∃ l', lexP ⟨x.toArray⟩ = (l', 0, 0) ∧ sameP l' l = true := by
  obtain ⟨l', p, st, e1, e2, e3, e4, e5⟩ := h [] 0 r0 rfl rfl (by show 0 + _ ≤ _; omega)
  refine ⟨l', ?_, e1⟩
  rw [lexP_R _ (by show x.toArray.size ≤ _; simp; omega)]
  show lexR (runesOf x) 0 r0 = _
  rw [List.append_nil] at e5
  rw [e5]
  show endR st = _
  rw [endR, shutR_none e3]
  simp only [ne_eq, not_true_eq_false, if_false]
  rw [e2]; rfl
end Go.Proofs.YthdlihiehfkceaaDoor

namespace Go.Proofs.YthdlihiehfkceaaDoor
open Go.RowKit
set_option linter.unusedVariables false

def Tok.era (t : Tok) : Tok := ⟨t.kind, t.text, t.num, 0, 0⟩
def Ord.era (o : Ord) : Ord := { o with at_ := 0 }
def Lin.era : Lin → Lin
  | .mark s _ => .mark s 0
  | .order o => .order o.era
def Prg.era (p : Prg) : Prg := { p with orders := p.orders.map Ord.era }
theorem same_era : ∀ {l r : List Tok}, sameP l r = true → l.map Tok.era = r.map Tok.era
  | [], [], _ => rfl
  | x :: l, [], h => by simp [sameP] at h
  | [], y :: r, h => by simp [sameP] at h
  | x :: l, y :: r, h => by
    simp only [sameP, Bool.and_eq_true, decide_eq_true_eq] at h
    obtain ⟨⟨h1, h2, h3⟩, h4⟩ := h
    rw [List.map_cons, List.map_cons, same_era h4]
    congr 1
    unfold Tok.era
    rw [h1, h2, h3]
theorem linesGo_era : ∀ (l cur : List Tok), linesGo (l.map Tok.era) (cur.map Tok.era) = (linesGo l cur).map (List.map Tok.era)
  | [], cur => by
    rw [List.map_nil, linesGo, linesGo]
    cases cur <;> simp
  | t :: l, cur => by
    rw [List.map_cons, linesGo, linesGo]
    have hk : (Tok.era t).kind = t.kind := rfl
    rw [hk]
    split
    · rw [List.map_cons, ← linesGo_era l []]; rfl
    · have := linesGo_era l (cur ++ [t])
      rw [List.map_append] at this
      exact this
theorem take_era (c : Nat) (t : Tok) (o : Ord) : takeP c t.era o.era = ((takeP c t o).1.era, (takeP c t o).2) := by
  unfold takeP Tok.era Ord.era
  simp only
  repeat' split
  all_goals rfl
theorem matchGo_era : ∀ (f : List Nat) (l : List Tok) (o : Ord), matchGo f (l.map Tok.era) o.era = (matchGo f l o).map Ord.era
  | [], l, o => by
    rw [matchGo, matchGo]
    cases l <;> simp
  | c :: f, [], o => rfl
  | c :: f, t :: l, o => by
    rw [List.map_cons, matchGo, matchGo, take_era]
    simp only
    split
    · exact matchGo_era f l _
    · rfl
theorem ord0_era (op : Int) (l : List Tok) : ord0 op (l.map Tok.era) = (ord0 op l).era := by
  unfold ord0 Ord.era
  cases l <;> rfl
theorem match_era (op : Int) (l : List Tok) : matchP op (l.map Tok.era) = (matchP op l).map Ord.era := by
  unfold matchP
  rw [ord0_era, matchGo_era]
theorem ops_era (l : List Tok) : ∀ f k, opsGo (l.map Tok.era) f k = (opsGo l f k).map Ord.era
  | 0, _ => rfl
  | f + 1, k => by
    rw [opsGo, opsGo, match_era]
    cases matchP (k : Int) l with
    | none => exact ops_era l f (k + 1)
    | some o => rfl
theorem isMark_era (l : List Tok) : isMark (l.map Tok.era) = (isMark l).map fun x => (x.1, 0) := by
  match l with
  | [] => rfl
  | [_] => rfl
  | [x, y] =>
    show (if _ then _ else _) = Option.map _ (if _ then _ else _)
    have h : (x.era.kind = 0 ∧ freeP x.era.text = true ∧ y.era.kind = 2 ∧ y.era.text = ⟨#[58]⟩) ↔ (x.kind = 0 ∧ freeP x.text = true ∧ y.kind = 2 ∧ y.text = ⟨#[58]⟩) := Iff.rfl
    by_cases hc : x.kind = 0 ∧ freeP x.text = true ∧ y.kind = 2 ∧ y.text = ⟨#[58]⟩
    · rw [if_pos (h.2 hc), if_pos hc]; rfl
    · rw [if_neg (fun e => hc (h.1 e)), if_neg hc]; rfl
  | _ :: _ :: _ :: _ => rfl
theorem parse_era (l : List Tok) : parseP (l.map Tok.era) = (parseP l).map Lin.era := by
  unfold parseP
  rw [isMark_era]
  cases isMark l with
  | none =>
    simp only [Option.map_none]
    rw [ops_era]
    cases opsGo l 22 0 <;> rfl
  | some x => rfl
theorem find_era (p : Prg) (s : ByteArray) : p.era.find s = p.find s := rfl
theorem add_era (p : Prg) (x : Lin) : addP p.era x.era = ((addP p x).1.era, (addP p x).2) := by
  cases x with
  | mark s a =>
    unfold addP Lin.era
    simp only
    rw [find_era]
    have hl : p.era.orders.length = p.orders.length := by simp [Prg.era]
    rw [hl]
    split <;> rfl
  | order o =>
    unfold addP Lin.era
    simp only
    have hl : p.era.orders.length = p.orders.length := by simp [Prg.era]
    rw [hl]
    split
    · rfl
    · simp [Prg.era]
theorem readGo_era : ∀ (L : List (List Tok)) (p : Prg), (readGo (L.map (List.map Tok.era)) p.era).1 = (readGo L p).1.era ∧ (readGo (L.map (List.map Tok.era)) p.era).2.2 = (readGo L p).2.2
  | [], p => ⟨rfl, rfl⟩
  | l :: L, p => by
    rw [List.map_cons, readGo, readGo]
    by_cases hl : l = []
    · subst hl
      rw [if_pos rfl, if_pos (by rfl)]
      exact readGo_era L p
    · rw [if_neg hl, if_neg (by simpa using hl), parse_era]
      cases parseP l with
      | none => exact ⟨rfl, rfl⟩
      | some x =>
        simp only [Option.map_some]
        rw [add_era]
        simp only
        split
        · exact ⟨rfl, rfl⟩
        · exact readGo_era L _
theorem codeGo_era (p : Prg) : ∀ (l : List Ord) (k : Nat) (out : List Ins), (codeGo p.era (l.map Ord.era) k out).1 = (codeGo p l k out).1 ∧ (codeGo p.era (l.map Ord.era) k out).2.2 = (codeGo p l k out).2.2
  | [], k, out => ⟨rfl, rfl⟩
  | o :: l, k, out => by
    rw [List.map_cons, codeGo, codeGo]
    have hn : o.era.name = o.name := rfl
    have hi : o.era.i = o.i := rfl
    rw [hn, hi, find_era]
    split
    · exact codeGo_era p l (k + 1) _
    · cases p.find o.name with
      | none => exact ⟨rfl, rfl⟩
      | some q =>
        simp only
        split
        · exact codeGo_era p l (k + 1) _
        · exact ⟨rfl, rfl⟩
/-- Lines' program, and the error. -/
def asmL (L : List (List Tok)) : List Ins × Int := if (readGo L ⟨[], []⟩).2.2 ≠ 0 then ([], (readGo L ⟨[], []⟩).2.2)
  else ((codeGo (readGo L ⟨[], []⟩).1 (readGo L ⟨[], []⟩).1.orders 0 []).1, (codeGo (readGo L ⟨[], []⟩).1 (readGo L ⟨[], []⟩).1.orders 0 []).2.2)
theorem asmL_era (L : List (List Tok)) : asmL (L.map (List.map Tok.era)) = asmL L := by
  obtain ⟨h1, h2⟩ := readGo_era L ⟨[], []⟩
  have h0 : (⟨[], []⟩ : Prg).era = ⟨[], []⟩ := rfl
  rw [h0] at h1 h2
  obtain ⟨h3, h4⟩ := codeGo_era (readGo L ⟨[], []⟩).1 (readGo L ⟨[], []⟩).1.orders 0 []
  unfold asmL
  rw [h1, h2]
  rw [show (readGo L ⟨[], []⟩).1.era.orders = (readGo L ⟨[], []⟩).1.orders.map Ord.era from rfl, h3, h4]
theorem asmL_same {l r : List Tok} (h : sameP l r = true) : asmL (linesP l) = asmL (linesP r) := by
  have hl : ∀ x : List Tok, linesP (x.map Tok.era) = (linesP x).map (List.map Tok.era) := fun x => linesGo_era x []
  rw [← asmL_era (linesP l), ← asmL_era (linesP r), ← hl, ← hl, same_era h]
theorem asmP_of {s : ByteArray} {l : List Tok} {a : Int} (h : lexP s = (l, a, 0)) : ((asmP s).1, (asmP s).2.2) = asmL (linesP l) := by
  unfold asmP asmL
  rw [h]
  simp only [ne_eq, not_true_eq_false, if_false]
  obtain ⟨p, a, e⟩ := readGo (linesP l) ⟨[], []⟩
  simp only
  split <;> rfl
/-- A text of pieces: its program. -/
theorem asm_seg {x : List UInt8} {l : List Tok} (h : SegA x l) (hx : x.length ≤ 65536) (hl : l.length ≤ 16384) : ((asmP ⟨x.toArray⟩).1, (asmP ⟨x.toArray⟩).2.2) = asmL (linesP l) := by
  obtain ⟨l', h1, h2⟩ := seg_lex h hx hl
  rw [asmP_of h1, asmL_same h2]
/-- Lines as tokens. -/
def toks (L : List (List Tok)) : List Tok := L.flatMap fun l => l ++ [endT]
theorem linesGo_line : ∀ (l cur r : List Tok), (∀ t ∈ l, t.kind ≠ 3) → linesGo (l ++ endT :: r) cur = (cur ++ l) :: linesGo r []
  | [], cur, r, _ => by rw [List.nil_append, linesGo, if_pos (show endT.kind = 3 from rfl), List.append_nil]
  | t :: l, cur, r, h => by
    rw [List.cons_append, linesGo, if_neg (h t (by simp)), linesGo_line l _ r (fun x hx => h x (by simp [hx])), List.append_assoc]; rfl
theorem lines_toks : ∀ (L : List (List Tok)), (∀ l ∈ L, ∀ t ∈ l, t.kind ≠ 3) → linesP (toks L) = L
  | [], _ => rfl
  | l :: L, h => by
    have ih := lines_toks L (fun x hx => h x (by simp [hx]))
    have e : toks (l :: L) = l ++ endT :: toks L := by simp [toks]
    unfold linesP at ih ⊢
    rw [e, linesGo_line l [] _ (h l (by simp)), ih, List.nil_append]
theorem readGo_app : ∀ (L M : List (List Tok)) (p : Prg), (readGo L p).2.2 = 0 → readGo (L ++ M) p = readGo M (readGo L p).1
  | [], M, p, _ => rfl
  | l :: L, M, p, h => by
    rw [List.cons_append, readGo, readGo]
    rw [readGo] at h
    by_cases hl : l = []
    · rw [if_pos hl] at h ⊢
      rw [if_pos hl]
      exact readGo_app L M p h
    · rw [if_neg hl] at h ⊢
      rw [if_neg hl]
      cases hp : parseP l with
      | none => rw [hp] at h; simp at h
      | some x =>
        rw [hp] at h
        simp only at h ⊢
        split
        · rename_i hn; rw [if_pos hn] at h; exact absurd h hn
        · rename_i hn
          rw [if_neg hn] at h
          exact readGo_app L M _ h
end Go.Proofs.YthdlihiehfkceaaDoor

namespace Go.Proofs.YthdlihiehfkceaaDoor
open Go.RowKit
set_option linter.unusedVariables false

/-- A token's class: a register 0, a number 1, a word 2, a word with a meaning 3, a sign 4. -/
def clsT (t : Tok) : Nat × ByteArray :=
  if t.kind = 1 then (1, ⟨#[]⟩) else if t.kind = 2 then (4, t.text) else if t.kind = 0 then (if keyP t.text = true then (3, t.text) else if 0 ≤ regP t.text then (0, ⟨#[]⟩) else (2, ⟨#[]⟩)) else (5, ⟨#[]⟩)
def clsF (c : Nat) : Nat × ByteArray :=
  if c = 97 ∨ c = 98 ∨ c = 99 then (0, ⟨#[]⟩) else if c = 105 then (1, ⟨#[]⟩) else if c = 108 then (2, ⟨#[]⟩) else if wordP c ≠ ⟨#[]⟩ then (3, wordP c) else (4, Utf8.encode (c : Int))
theorem key_mem {s : ByteArray} : keyP s = true ↔ ∃ c ∈ keyRunes, wordP c = s := by
  unfold keyP
  rw [List.any_eq_true]
  simp only [decide_eq_true_eq]
theorem key_reg {s : ByteArray} (h : keyP s = true) : regP s < 0 := by
  obtain ⟨c, hc, rfl⟩ := key_mem.1 h
  have : ∀ c ∈ keyRunes, regP (wordP c) < 0 := by decide +kernel
  exact this c hc
theorem word_key {c : Nat} (h : wordP c ≠ ⟨#[]⟩) : keyP (wordP c) = true := by
  refine key_mem.2 ⟨c, ?_, rfl⟩
  unfold wordP at h
  simp only [keyRunes, List.mem_cons, List.not_mem_nil, or_false]
  repeat' (split at h; · omega)
  exact absurd rfl h
theorem take_ok (c : Nat) (t : Tok) (o : Ord) : (takeP c t o).2 = true ↔ clsT t = clsF c := by
  unfold takeP clsF
  by_cases h1 : c = 97 ∨ c = 98 ∨ c = 99
  · rw [if_pos h1]
    have hl : (takeP c t o).2 = decide (0 ≤ (if t.kind = 0 then regP t.text else -1)) := by
      unfold takeP
      rcases h1 with rfl | rfl | rfl
      · rfl
      · rfl
      · rfl
    have hg : ((takeP c t o).2 = true) ↔ clsT t = (0, ⟨#[]⟩) := by
      rw [hl, decide_eq_true_eq]
      unfold clsT
      by_cases k0 : t.kind = 0
      · rw [if_pos k0, if_neg (by omega), if_neg (by omega), if_pos k0]
        by_cases hk : keyP t.text = true
        · rw [if_pos hk]
          have := key_reg hk
          constructor
          · intro h; omega
          · intro h; cases h
        · rw [if_neg hk]
          by_cases hr : 0 ≤ regP t.text
          · rw [if_pos hr]; exact ⟨fun _ => rfl, fun _ => hr⟩
          · rw [if_neg hr]
            exact ⟨fun h => absurd h hr, fun h => by cases h⟩
      · rw [if_neg k0]
        constructor
        · intro h; omega
        · intro h
          rw [if_neg k0] at h
          split at h
          · cases h
          · split at h <;> cases h
    exact hg
  · rw [if_neg h1]
    have e1 : ¬ c = 97 := fun e => h1 (.inl e)
    have e2 : ¬ c = 98 := fun e => h1 (.inr (.inl e))
    have e3 : ¬ c = 99 := fun e => h1 (.inr (.inr e))
    simp only [if_neg e1, if_neg e2, if_neg e3]
    by_cases h2 : c = 105
    · rw [if_pos h2, if_pos h2]
      simp only [decide_eq_true_eq]
      unfold clsT
      constructor
      · intro h; rw [if_pos h]
      · intro h
        by_cases k1 : t.kind = 1
        · exact k1
        · rw [if_neg k1] at h
          split at h
          · cases h
          · split at h
            · split at h
              · cases h
              · split at h <;> cases h
            · cases h
    · rw [if_neg h2, if_neg h2]
      by_cases h3 : c = 108
      · rw [if_pos h3, if_pos h3]
        simp only [Bool.and_eq_true, decide_eq_true_eq]
        unfold clsT freeP
        simp only [Bool.and_eq_true, Bool.not_eq_true', decide_eq_true_eq]
        constructor
        · rintro ⟨k0, hk, hr⟩
          rw [if_neg (by omega), if_neg (by omega), if_pos k0, if_neg (by rw [hk]; simp), if_neg (by omega)]
        · intro h
          split at h
          · cases h
          · split at h
            · cases h
            · split at h
              · rename_i k0
                split at h
                · cases h
                · rename_i hk
                  split at h
                  · cases h
                  · exact ⟨k0, by simpa using hk, by omega⟩
              · cases h
      · rw [if_neg h3, if_neg h3]
        by_cases h4 : wordP c ≠ ⟨#[]⟩
        · rw [if_pos h4, if_pos h4]
          simp only [Bool.and_eq_true, decide_eq_true_eq]
          unfold clsT
          constructor
          · rintro ⟨k0, ht⟩
            rw [if_neg (by omega), if_neg (by omega), if_pos k0, ht, if_pos (word_key h4)]
          · intro h
            split at h
            · cases h
            · split at h
              · injection h with h _; cases h
              · split at h
                · rename_i k0
                  split at h
                  · injection h with _ h; exact ⟨k0, h⟩
                  · split at h <;> (injection h with h _; cases h)
                · injection h with h _; cases h
        · rw [if_neg h4, if_neg h4]
          simp only [Bool.and_eq_true, decide_eq_true_eq]
          unfold clsT
          constructor
          · rintro ⟨k2, ht⟩
            rw [if_neg (by omega), if_pos k2, ht]
          · intro h
            split at h
            · injection h with h _; cases h
            · split at h
              · rename_i k2; injection h with _ h; exact ⟨k2, h⟩
              · split at h
                · split at h
                  · injection h with h _; cases h
                  · split at h <;> (injection h with h _; cases h)
                · injection h with h _; cases h
def takes : List Nat → List Tok → Ord → Ord
  | c :: f, t :: l, o => takes f l (takeP c t o).1
  | _, _, o => o
theorem match_cls : ∀ (f : List Nat) (l : List Tok) (o : Ord), matchGo f l o = if l.map clsT = f.map clsF then some (takes f l o) else none
  | [], [], o => rfl
  | [], t :: l, o => by simp [matchGo]
  | c :: f, [], o => by simp [matchGo]
  | c :: f, t :: l, o => by
    rw [matchGo, match_cls f l]
    simp only [List.map_cons, List.cons.injEq]
    by_cases h : (takeP c t o).2 = true
    · rw [if_pos h]
      have := (take_ok c t o).1 h
      simp only [this, true_and]
      rfl
    · rw [if_neg h]
      have : ¬ clsT t = clsF c := fun e => h ((take_ok c t o).2 e)
      simp only [this, false_and, if_false]
theorem forms_apart : ∀ a b : Fin 22, (formP (a.val : Nat)).map clsF = (formP (b.val : Nat)).map clsF → a = b := by decide +kernel
theorem forms_mark : ∀ a : Fin 22, (formP (a.val : Nat)).map clsF ≠ [(2, ⟨#[]⟩), (4, ⟨#[58]⟩)] := by decide +kernel
theorem ops_cls (l : List Tok) (op : Nat) (hop : op < 22) (h : l.map clsT = (formP op).map clsF) : ∀ f k, k ≤ op → op < k + f → k + f ≤ 22 → opsGo l f k = some (takes (formP op) l (ord0 op l))
  | 0, k, h1, h2, _ => by omega
  | f + 1, k, h1, h2, h3 => by
    rw [opsGo, matchP, match_cls]
    by_cases e : k = op
    · subst e
      rw [if_pos h]
    · have hne : ¬ l.map clsT = (formP (k : Int)).map clsF := fun e2 => by
        have := forms_apart ⟨k, by omega⟩ ⟨op, hop⟩ (by rw [← e2, h])
        injection this with this
        exact e this
      rw [if_neg hne]
      exact ops_cls l op hop h f (k + 1) (by omega) (by omega) (by omega)
theorem ops_none (l : List Tok) (h : ∀ op : Nat, op < 22 → l.map clsT ≠ (formP op).map clsF) : ∀ f k, k + f ≤ 22 → opsGo l f k = none
  | 0, k, _ => rfl
  | f + 1, k, h3 => by
    rw [opsGo, matchP, match_cls, if_neg (h k (by omega))]
    exact ops_none l h f (k + 1) (by omega)
theorem mark_cls (l : List Tok) : (isMark l).isSome = true ↔ l.map clsT = [(2, ⟨#[]⟩), (4, ⟨#[58]⟩)] := by
  match l with
  | [] => simp [isMark]
  | [_] => simp [isMark]
  | _ :: _ :: _ :: _ => simp [isMark]
  | [x, y] =>
    simp only [List.map_cons, List.map_nil, List.cons.injEq, and_true]
    have hx : clsT x = (2, ⟨#[]⟩) ↔ x.kind = 0 ∧ freeP x.text = true := by
      have h := take_ok 108 x ⟨⟨0, 0, 0, 0, 0⟩, ⟨#[]⟩, 0⟩
      have e : clsF 108 = (2, ⟨#[]⟩) := rfl
      rw [e] at h
      rw [← h]
      show (decide (x.kind = 0) && freeP x.text) = true ↔ _
      rw [Bool.and_eq_true, decide_eq_true_eq]
    have hy : clsT y = (4, ⟨#[58]⟩) ↔ y.kind = 2 ∧ y.text = ⟨#[58]⟩ := by
      have h := take_ok 58 y ⟨⟨0, 0, 0, 0, 0⟩, ⟨#[]⟩, 0⟩
      have e : clsF 58 = (4, ⟨#[58]⟩) := by decide +kernel
      have e2 : Utf8.encode ((58 : Nat) : Int) = ⟨#[58]⟩ := by decide +kernel
      have e3 : wordP 58 = ⟨#[]⟩ := rfl
      rw [e] at h
      rw [← h]
      unfold takeP
      simp only [e3, e2]
      simp
    rw [hx, hy]
    show (if _ then _ else _ : Option (ByteArray × Int)).isSome = true ↔ _
    by_cases hc : x.kind = 0 ∧ freeP x.text = true ∧ y.kind = 2 ∧ y.text = ⟨#[58]⟩
    · rw [if_pos hc]
      exact ⟨fun _ => ⟨⟨hc.1, hc.2.1⟩, hc.2.2⟩, fun _ => rfl⟩
    · rw [if_neg hc]
      refine ⟨fun h => by simp at h, fun h => ?_⟩
      exact absurd ⟨h.1.1, h.1.2, h.2.1, h.2.2⟩ hc
theorem parse_cls {l : List Tok} {op : Nat} (hop : op < 22) (h : l.map clsT = (formP op).map clsF) : parseP l = some (.order (takes (formP op) l (ord0 op l))) := by
  have hm : isMark l = none := by
    cases hm : isMark l with
    | none => rfl
    | some x =>
      have := (mark_cls l).1 (by rw [hm]; rfl)
      exact absurd (h.symm.trans this) (forms_mark ⟨op, hop⟩)
  unfold parseP
  rw [hm]
  simp only
  rw [ops_cls l op hop h 22 0 (by omega) (by omega) (by omega)]
  rfl
end Go.Proofs.YthdlihiehfkceaaDoor

namespace Go.Proofs.YthdlihiehfkceaaDoor
open Go.RowKit
set_option linter.unusedVariables false

def eW : ByteArray := ⟨#[]⟩
/-- What a line of an instruction is read as. -/
def orderOf (i : Ins) : Ord := if goesP i.op = true then ⟨{ i with imm := 0 }, labelP i.imm.toNat, 0⟩ else ⟨i, ⟨#[]⟩, 0⟩
theorem reg_name (x : Nat) (h : x < 16) : regP (regName x) = (x : Int) ∧ keyP (regName x) = false := by
  have : ∀ y : Fin 16, regP (regName y.val) = (y.val : Int) ∧ keyP (regName y.val) = false := by decide +kernel
  exact this ⟨x, h⟩
theorem label_list (n : Nat) : (labelP n).data.toList = 76 :: Lib.decDigits n := by
  unfold labelP
  rw [ByteArray.data_append]; simp
theorem label_ne (n : Nat) (s : ByteArray) (h : ∀ r, s.data.toList ≠ 76 :: r) : labelP n ≠ s := fun e => h _ (by rw [← e]; exact label_list n)
theorem label_free (n : Nat) : keyP (labelP n) = false ∧ regP (labelP n) < 0 := by
  constructor
  · cases hk : keyP (labelP n) with
    | false => rfl
    | true =>
      obtain ⟨c, hc, he⟩ := key_mem.1 hk
      have h0 : ∀ c ∈ keyRunes, (wordP c).data.toList.head? ≠ some 76 := by decide +kernel
      refine absurd ?_ (h0 c hc)
      rw [he, label_list]; rfl
  · have h0 : ∀ f k, k + f ≤ 16 → regGo (labelP n) f k = -1 := by
      intro f
      induction f with
      | zero => intro k _; rfl
      | succ f ih =>
        intro k hk
        have hne : ∀ y : Fin 16, (regName y.val).data.toList.head? ≠ some 76 := by decide +kernel
        rw [regGo, if_neg (fun e => hne ⟨k, by omega⟩ (by rw [show (regName (⟨k, by omega⟩ : Fin 16).val) = labelP n from e.symm, label_list]; rfl))]
        exact ih (k + 1) (by omega)
    have := h0 16 0 (by omega)
    unfold regP
    omega
theorem label_inj {a b : Nat} (ha : a < 18446744073709551616) (hb : b < 18446744073709551616) (h : labelP a = labelP b) : a = b := by
  have h1 : (labelP a).data.toList = (labelP b).data.toList := by rw [h]
  rw [label_list, label_list] at h1
  injection h1 with _ h1
  have h2 := numP_dec a ha
  rw [h1, numP_dec b hb] at h2
  injection h2 with h2
  exact h2.symm
theorem label_name (n : Nat) : labelP n ≠ ⟨#[]⟩ := fun e => by
  have := label_list n
  rw [e] at this
  cases this
theorem clsT_word (s : ByteArray) (n a l : Int) : clsT ⟨0, s, n, a, l⟩ = if keyP s = true then (3, s) else if 0 ≤ regP s then (0, ⟨#[]⟩) else (2, ⟨#[]⟩) := rfl
theorem clsT_sgn (s : ByteArray) (n a l : Int) : clsT ⟨2, s, n, a, l⟩ = (4, s) := rfl
theorem clsT_reg (x : Nat) (hx : x < 16) : clsT ⟨0, regName x, 0, 0, 0⟩ = (0, ⟨#[]⟩) := by
  obtain ⟨h1, h2⟩ := reg_name x hx
  rw [clsT_word, if_neg (by rw [h2]; simp), if_pos (by omega)]
theorem clsT_label (n : Nat) : clsT ⟨0, labelP n, 0, 0, 0⟩ = (2, ⟨#[]⟩) := by
  obtain ⟨g1, g2⟩ := label_free n
  rw [clsT_word, if_neg (by rw [g1]; simp), if_neg (by omega)]
theorem tok_cls (c : Nat) (i : Ins) (ha : 0 ≤ i.a ∧ i.a < 16) (hb : 0 ≤ i.b ∧ i.b < 16) (hc : 0 ≤ i.c ∧ i.c < 16) : clsT (tokP c i) = clsF c := by
  unfold tokP clsF
  by_cases h1 : c = 97
  · rw [if_pos h1, if_pos (.inl h1)]; exact clsT_reg _ (by omega)
  by_cases h2 : c = 98
  · rw [if_neg h1, if_pos h2, if_pos (.inr (.inl h2))]; exact clsT_reg _ (by omega)
  by_cases h3 : c = 99
  · rw [if_neg h1, if_neg h2, if_pos h3, if_pos (.inr (.inr h3))]; exact clsT_reg _ (by omega)
  have hn : ¬ (c = 97 ∨ c = 98 ∨ c = 99) := by omega
  rw [if_neg h1, if_neg h2, if_neg h3, if_neg hn]
  by_cases h4 : c = 105
  · rw [if_pos h4, if_pos h4]; rfl
  rw [if_neg h4, if_neg h4]
  by_cases h5 : c = 108
  · rw [if_pos h5, if_pos h5]; exact clsT_label _
  rw [if_neg h5, if_neg h5]
  by_cases h6 : wordP c ≠ ⟨#[]⟩
  · rw [if_pos h6, if_pos h6, clsT_word, if_pos (word_key h6)]
  · rw [if_neg h6, if_neg h6, clsT_sgn]
theorem line_cls (i : Ins) (ha : 0 ≤ i.a ∧ i.a < 16) (hb : 0 ≤ i.b ∧ i.b < 16) (hc : 0 ≤ i.c ∧ i.c < 16) : (lineToks i).map clsT = (formP i.op).map clsF := by
  unfold lineToks
  rw [List.map_map]
  exact List.map_congr_left fun c _ => tok_cls c i ha hb hc
theorem plain_unused {op a b c imm : Int} (h : plainB op a b c imm = true) : (regsOf op ≤ 0 → a = 0) ∧ (regsOf op ≤ 1 → b = 0) ∧ (regsOf op ≤ 2 → c = 0) ∧ (immOf op = false → imm = 0) := by
  have hf : ∀ (x : Int) (p : Prop) [Decidable p], fieldB x (decide p) = true → ¬ p → x = 0 := by
    intro x p _ h hp
    unfold fieldB at h
    rw [decide_eq_false hp] at h
    simpa using h
  unfold plainB at h
  simp only [Bool.and_eq_true, Bool.or_eq_true, decide_eq_true_eq] at h
  obtain ⟨⟨⟨⟨h0, h1⟩, h2⟩, h3⟩, h4⟩ := h
  exact ⟨fun e => hf _ _ h1 (by omega), fun e => hf _ _ h2 (by omega), fun e => hf _ _ h3 (by omega), fun e => by rcases h4 with h | h; rw [e] at h; cases h; exact h⟩
theorem takes_line (op : Nat) (hop : op < 22) (a b c : Nat) (imm : Int) (ha : a < 16) (hb : b < 16) (hc : c < 16) (hp : plainB op a b c imm = true) :
    (takes (formP (op : Int)) (lineToks ⟨op, a, b, c, imm⟩) (ord0 op (lineToks ⟨op, a, b, c, imm⟩))) = orderOf ⟨op, a, b, c, imm⟩ := by
  obtain ⟨u1, u2, u3, u4⟩ := plain_unused hp
  have r1 := (reg_name a ha).1
  have r2 := (reg_name b hb).1
  have r3 := (reg_name c hc).1
  clear hp
  obtain rfl | rfl | rfl | rfl | rfl | rfl | rfl | rfl | rfl | rfl | rfl | rfl | rfl | rfl | rfl | rfl | rfl | rfl | rfl | rfl | rfl | rfl : op = 0 ∨ op = 1 ∨ op = 2 ∨ op = 3 ∨ op = 4 ∨ op = 5 ∨ op = 6 ∨ op = 7 ∨ op = 8 ∨ op = 9 ∨ op = 10 ∨ op = 11 ∨ op = 12 ∨ op = 13 ∨ op = 14 ∨ op = 15 ∨ op = 16 ∨ op = 17 ∨ op = 18 ∨ op = 19 ∨ op = 20 ∨ op = 21 := by omega
  all_goals
    simp [regsOf, immOf] at u1 u2 u3 u4
    simp [takes, lineToks, formP, tokP, wordP, takeP, ord0, orderOf, goesP, *]
theorem parse_line {i : Ins} (hp : plainB i.op i.a i.b i.c i.imm = true) : parseP (lineToks i) = some (.order (orderOf i)) := by
  obtain ⟨oo, oa, ob, oc, imm⟩ := i
  obtain ⟨h0, h1, h2, h3⟩ := plain_facts hp
  simp only at h0 h1 h2 h3
  obtain ⟨op, rfl⟩ : ∃ op : Nat, oo = (op : Int) := ⟨oo.toNat, by omega⟩
  obtain ⟨a, rfl⟩ : ∃ a : Nat, oa = (a : Int) := ⟨oa.toNat, by omega⟩
  obtain ⟨b, rfl⟩ : ∃ b : Nat, ob = (b : Int) := ⟨ob.toNat, by omega⟩
  obtain ⟨c, rfl⟩ : ∃ c : Nat, oc = (c : Int) := ⟨oc.toNat, by omega⟩
  rw [parse_cls (op := op) (by omega) (line_cls _ h1 h2 h3), takes_line op (by omega) a b c imm (by omega) (by omega) (by omega) hp]
/-- A label's line. -/
def headToks (k : Nat) : List Tok := [⟨0, labelP k, 0, 0, 0⟩, ⟨2, ⟨#[58]⟩, 0, 0, 0⟩]
theorem parse_head (k : Nat) : parseP (headToks k) = some (.mark (labelP k) 0) := by
  obtain ⟨h1, h2⟩ := label_free k
  have hf : freeP (labelP k) = true := by unfold freeP; rw [h1]; simp; exact h2
  have : isMark (headToks k) = some (labelP k, 0) := by
    show (if _ then _ else _) = _
    rw [if_pos ⟨rfl, hf, rfl, rfl⟩]
  unfold parseP
  rw [this]
def headLines (cnt : Int → Nat) (k : Nat) : List (List Tok) := if 0 < cnt k then [headToks k] else []
/-- A program's lines. -/
def textLines (cnt : Int → Nat) : List Ins → Nat → List (List Tok)
  | [], k => headLines cnt k
  | i :: r, k => headLines cnt k ++ [lineToks i] ++ textLines cnt r (k + 1)
def labsOk (cnt : Int → Nat) (p : Prg) (k : Nat) : Prop := ∀ j, j ≤ 1000 → p.find (labelP j) = if j < k ∧ 0 < cnt j then some j else none
theorem read_head (cnt : Int → Nat) (p : Prg) (k : Nat) (hk : k ≤ 1000) (hl : labsOk cnt p k) (ho : p.orders.length = k) :
    ∃ p', readGo (headLines cnt k) p = (p', 0, 0) ∧ labsOk cnt p' (k + 1) ∧ p'.orders = p.orders := by
  unfold headLines
  by_cases hc : 0 < cnt k
  · rw [if_pos hc, readGo, if_neg (by simp [headToks]), parse_head]
    have hn : p.find (labelP k) = none := by rw [hl k hk, if_neg (by omega)]
    have ha : addP p (.mark (labelP k) 0) = (⟨p.orders, p.labels ++ [(labelP k, p.orders.length)]⟩, 0) := by unfold addP; simp only; rw [hn]; rfl
    simp only
    rw [ha]
    refine ⟨⟨p.orders, p.labels ++ [(labelP k, p.orders.length)]⟩, rfl, fun j hj => ?_, rfl⟩
    rw [find_snoc p.orders p.labels (labelP k) (labelP j) _ hn]
    by_cases e : labelP j = labelP k
    · obtain rfl := label_inj (by omega) (by omega) e
      rw [if_pos rfl, if_pos ⟨by omega, hc⟩, ho]
    · rw [if_neg e]
      have hne : j ≠ k := fun h => e (by rw [h])
      have := hl j hj
      rw [show Prg.find ⟨p.orders, p.labels⟩ (labelP j) = p.find (labelP j) from rfl, this]
      by_cases h1 : j < k ∧ 0 < cnt j
      · rw [if_pos h1, if_pos ⟨by omega, h1.2⟩]
      · rw [if_neg h1, if_neg (fun h => h1 ⟨by omega, h.2⟩)]
  · rw [if_neg hc]
    refine ⟨p, rfl, fun j hj => ?_, rfl⟩
    rw [hl j hj]
    by_cases h1 : j < k ∧ 0 < cnt j
    · rw [if_pos h1, if_pos ⟨by omega, h1.2⟩]
    · rw [if_neg h1, if_neg (fun h => h1 ⟨by
        rcases Nat.lt_or_ge j k with h2 | h2
        · exact h2
        · obtain rfl : j = k := by omega
          exact absurd h.2 hc, h.2⟩)]
theorem line_ne (i : Ins) : lineToks i ≠ [] := by
  have hi : ∀ (p : Prop) [Decidable p] (a b : List Nat), a ≠ [] → b ≠ [] → (if p then a else b) ≠ [] := fun p _ a b ha hb => by split <;> assumption
  have : formP i.op ≠ [] := by
    unfold formP
    repeat' first | exact hi _ _ _ (by decide) (by decide) | refine hi _ _ _ (by decide) ?_
  unfold lineToks
  intro e
  exact this (List.map_eq_nil_iff.1 e)
theorem read_text (cnt : Int → Nat) : ∀ (l : List Ins) (p : Prg) (k : Nat), k + l.length ≤ 256 → (∀ i ∈ l, plainB i.op i.a i.b i.c i.imm = true) → labsOk cnt p k → p.orders.length = k →
    ∃ p', readGo (textLines cnt l k) p = (p', 0, 0) ∧ labsOk cnt p' (k + l.length + 1) ∧ p'.orders = p.orders ++ l.map orderOf
  | [], p, k, hk, hp, hl, ho => by
    obtain ⟨p', h1, h2, h3⟩ := read_head cnt p k (by simp at hk; omega) hl ho
    exact ⟨p', h1, h2, by rw [h3]; simp⟩
  | i :: r, p, k, hk, hp, hl, ho => by
    rw [List.length_cons] at hk
    obtain ⟨p', h1, h2, h3⟩ := read_head cnt p k (by omega) hl ho
    have hpi := parse_line (hp i (by simp))
    have ha : addP p' (.order (orderOf i)) = (⟨p'.orders ++ [orderOf i], p'.labels⟩, 0) := by
      unfold addP; simp only; rw [if_neg (by rw [h3, ho]; omega)]
    have hr1 : readGo [lineToks i] p' = (⟨p'.orders ++ [orderOf i], p'.labels⟩, 0, 0) := by
      rw [readGo, if_neg (line_ne i), hpi]
      simp only
      rw [ha]
      rfl
    obtain ⟨p2, g1, g2, g3⟩ := read_text cnt r ⟨p'.orders ++ [orderOf i], p'.labels⟩ (k + 1) (by omega) (fun j hj => hp j (by simp [hj])) h2 (by simp [h3, ho])
    refine ⟨p2, ?_, ?_, ?_⟩
    · rw [textLines, List.append_assoc, readGo_app _ _ _ (by rw [h1]), h1]
      simp only
      rw [readGo_app _ _ _ (by rw [hr1]), hr1]
      exact g1
    · rw [show k + (i :: r).length + 1 = k + 1 + r.length + 1 by simp; omega]; exact g2
    · rw [g3, h3]; simp
theorem code_text (cnt : Int → Nat) (p : Prg) (n : Nat) (hn : n ≤ 256) (hl : labsOk cnt p (n + 1)) : ∀ (l : List Ins) (k : Nat) (out : List Ins), (∀ i ∈ l, 0 ≤ i.imm) → fitsGo n l k = true → (∀ i ∈ l, goesP i.op = true → 0 < cnt i.imm) →
    codeGo p (l.map orderOf) k out = (out ++ l, 0, 0)
  | [], k, out, _, _, _ => by rw [List.map_nil, codeGo, List.append_nil]
  | i :: r, k, out, h0, hf, hc => by
    rw [fitsGo, Bool.and_eq_true] at hf
    have ih := fun out => code_text cnt p n hn hl r (k + 1) out (fun j hj => h0 j (by simp [hj])) hf.2 (fun j hj => hc j (by simp [hj]))
    rw [List.map_cons, codeGo]
    cases hg : goesP i.op
    · have ho : orderOf i = ⟨i, ⟨#[]⟩, 0⟩ := by unfold orderOf; rw [hg]; rfl
      rw [ho, if_pos rfl, ih]
      simp
    · have ho : orderOf i = ⟨{ i with imm := 0 }, labelP i.imm.toNat, 0⟩ := by unfold orderOf; rw [hg]; rfl
      have hj := hf.1
      unfold jumpOk at hj
      rw [hg] at hj
      simp only [Bool.not_true, Bool.false_or, Bool.and_eq_true, decide_eq_true_eq] at hj
      have hi0 := h0 i (by simp)
      have hcn := hc i (by simp) hg
      have hfd := hl i.imm.toNat (by omega)
      have hcast : ((i.imm.toNat : Nat) : Int) = i.imm := by omega
      rw [hcast, if_pos ⟨by omega, hcn⟩] at hfd
      rw [ho, if_neg (label_name _)]
      simp only
      rw [hfd]
      simp only
      rw [hcast, if_pos hj.2, ih]
      simp
/-- A program's lines are read as the program. -/
theorem asm_lines {code : List Ins} (hf : fitsP code = true) (h0 : ∀ i ∈ code, 0 ≤ i.imm) (cnt : Int → Nat) (hcnt : ∀ i ∈ code, goesP i.op = true → 0 < cnt i.imm) : asmL (textLines cnt code 0) = (code, 0) := by
  unfold fitsP at hf
  simp only [Bool.and_eq_true, decide_eq_true_eq] at hf
  obtain ⟨⟨h1, h2⟩, h3⟩ := hf
  obtain ⟨p', g1, g2, g3⟩ := read_text cnt code ⟨[], []⟩ 0 (by omega) (fun i hi => List.all_eq_true.1 h2 i hi) (fun j _ => by rw [if_neg (by omega)]; rfl) rfl
  rw [Nat.zero_add] at g2
  have hc := code_text cnt p' code.length h1 g2 code 0 [] h0 h3 hcnt
  unfold asmL
  rw [g1]
  simp only [ne_eq, not_true_eq_false, if_false]
  rw [g3]
  rw [show (⟨[], []⟩ : Prg).orders ++ code.map orderOf = code.map orderOf from rfl, hc]
  rfl
end Go.Proofs.YthdlihiehfkceaaDoor

namespace Go.Proofs.YthdlihiehfkceaaDoor
open Go.RowKit
set_option linter.unusedVariables false

theorem runOk_small {w : List UInt8} (h0 : w ≠ []) (h : ∀ y ∈ w, runByte y = true) : RunOk w := by
  cases w with
  | nil => exact absurd rfl h0
  | cons x r => exact ⟨x, r, rfl, h x (by simp), fun y hy => by unfold moreByte; rw [h y (by simp [hy])]; rfl⟩
theorem reg_form (x : Nat) (h : x < 16) : Form ⟨0, regName x, 0, 0, 0⟩ := by
  have hd : ∀ y : Fin 16, (regName y.val).data.toList ≠ [] ∧ (∀ z ∈ (regName y.val).data.toList, runByte z = true) ∧ headR (regName y.val).data.toList = false ∧ (regName y.val).data.toList.length ≤ 24 := by decide +kernel
  obtain ⟨h1, h2, h3, h4⟩ := hd ⟨x, h⟩
  exact .inl ⟨rfl, runOk_small h1 h2, h3, h4, rfl⟩
theorem dec_byte (u : Nat) : ∀ y ∈ Lib.decDigits u, runByte y = true := fun y hy => by
  have := dec_digits u y hy
  unfold runByte
  rw [isDigit_of this, Bool.or_true]
theorem label_form (n : Nat) (h : n < 18446744073709551616) : Form ⟨0, labelP n, 0, 0, 0⟩ := by
  refine .inl ⟨rfl, ?_, ?_, ?_, rfl⟩
  · show RunOk (labelP n).data.toList
    rw [label_list]
    refine runOk_small (by simp) fun y hy => ?_
    rcases List.mem_cons.1 hy with rfl | hy
    · decide
    · exact dec_byte n y hy
  · show headR (labelP n).data.toList = false
    rw [label_list]; rfl
  · show (labelP n).data.toList.length ≤ 24
    have := labelP_le n h
    rw [ba_len2]; omega
where ba_len2 {E : ByteArray} : E.data.toList.length = E.size := rfl
theorem word_form {c : Nat} (h : wordP c ≠ ⟨#[]⟩) : Form ⟨0, wordP c, 0, 0, 0⟩ := by
  have hd : ∀ c ∈ keyRunes, (wordP c).data.toList ≠ [] ∧ (∀ z ∈ (wordP c).data.toList, runByte z = true) ∧ headR (wordP c).data.toList = false ∧ (wordP c).data.toList.length ≤ 24 := by decide +kernel
  obtain ⟨d, hd1, hd2⟩ := key_mem.1 (word_key h)
  obtain ⟨h1, h2, h3, h4⟩ := hd d hd1
  rw [hd2] at h1 h2 h3 h4
  exact .inl ⟨rfl, runOk_small h1 h2, h3, h4, rfl⟩
theorem form_runes : ∀ op : Fin 22, ∀ c ∈ formP (op.val : Nat), c = 97 ∨ c = 98 ∨ c = 99 ∨ c = 105 ∨ c = 108 ∨ wordP c ≠ ⟨#[]⟩ ∨ isSign c = true := by decide +kernel
theorem tok_form {op : Nat} (hop : op < 22) {c : Nat} (hc : c ∈ formP (op : Int)) {i : Ins} (ha : 0 ≤ i.a ∧ i.a < 16) (hb : 0 ≤ i.b ∧ i.b < 16) (hcc : 0 ≤ i.c ∧ i.c < 16) (hm : 0 ≤ i.imm ∧ i.imm ≤ 18446744073709551615) : Form (tokP c i) ∧ (tokP c i).kind ≠ 3 := by
  unfold tokP
  by_cases h1 : c = 97
  · rw [if_pos h1]; exact ⟨reg_form _ (by omega), (show (0 : Int) ≠ 3 by decide)⟩
  by_cases h2 : c = 98
  · rw [if_neg h1, if_pos h2]; exact ⟨reg_form _ (by omega), (show (0 : Int) ≠ 3 by decide)⟩
  by_cases h3 : c = 99
  · rw [if_neg h1, if_neg h2, if_pos h3]; exact ⟨reg_form _ (by omega), (show (0 : Int) ≠ 3 by decide)⟩
  rw [if_neg h1, if_neg h2, if_neg h3]
  by_cases h4 : c = 105
  · rw [if_pos h4]
    exact ⟨.inr (.inl ⟨rfl, rfl, i.imm.toNat, by omega, by show i.imm = _; omega⟩), (show (1 : Int) ≠ 3 by decide)⟩
  rw [if_neg h4]
  by_cases h5 : c = 108
  · rw [if_pos h5]; exact ⟨label_form _ (by omega), (show (0 : Int) ≠ 3 by decide)⟩
  rw [if_neg h5]
  by_cases h6 : wordP c ≠ ⟨#[]⟩
  · rw [if_pos h6]; exact ⟨word_form h6, (show (0 : Int) ≠ 3 by decide)⟩
  · rw [if_neg h6]
    have hs : isSign c = true := by
      rcases form_runes ⟨op, hop⟩ c hc with h | h | h | h | h | h | h
      · exact absurd h h1
      · exact absurd h h2
      · exact absurd h h3
      · exact absurd h h4
      · exact absurd h h5
      · exact absurd h h6
      · exact h
    generalize hE : Utf8.encode (c : Int) = E
    exact ⟨.inr (.inr (.inl ⟨rfl, rfl, c, hs, hE.symm⟩)), (show (2 : Int) ≠ 3 by decide)⟩
theorem line_form {i : Ins} (hp : plainB i.op i.a i.b i.c i.imm = true) (hm : 0 ≤ i.imm ∧ i.imm ≤ 18446744073709551615) : ∀ t ∈ lineToks i, Form t ∧ t.kind ≠ 3 := by
  obtain ⟨h0, h1, h2, h3⟩ := plain_facts hp
  intro t ht
  unfold lineToks at ht
  obtain ⟨c, hc, rfl⟩ := List.mem_map.1 ht
  exact tok_form (op := i.op.toNat) (by omega) (by rw [show ((i.op.toNat : Nat) : Int) = i.op by omega]; exact hc) h1 h2 h3 hm
theorem nl_stop : ∃ c r, ([10] : List UInt8) = c :: r ∧ stopB c = true := ⟨10, [], rfl, by decide⟩
/-- An instruction's line. -/
theorem seg_ins {i : Ins} (hp : plainB i.op i.a i.b i.c i.imm = true) (hm : 0 ≤ i.imm ∧ i.imm ≤ 18446744073709551615) : SegA (printP (lineToks i) ++ [10]) (lineToks i ++ [endT]) :=
  (seg_line (lineToks i) true (line_ne i) (line_form hp hm)).appA nl_stop seg_nl
theorem head_form (k : Nat) (h : k < 18446744073709551616) : ∀ t ∈ headToks k, Form t ∧ t.kind ≠ 3 := by
  intro t ht
  simp only [headToks, List.mem_cons, List.not_mem_nil, or_false] at ht
  rcases ht with rfl | rfl
  · exact ⟨label_form k h, (show (0 : Int) ≠ 3 by decide)⟩
  · exact ⟨.inr (.inr (.inl ⟨rfl, rfl, 58, by decide, by decide +kernel⟩)), (show (2 : Int) ≠ 3 by decide)⟩
theorem head_print (k : Nat) : printP (headToks k) = (labelP k).data.toList ++ [32, 58] := by
  simp [printP, headToks, printGo, tokText]
theorem seg_head (cnt : Int → Nat) (k : Nat) (h : k < 18446744073709551616) : SegA (headP cnt k) (toks (headLines cnt k)) := by
  unfold headP headLines
  by_cases hc : 0 < cnt k
  · rw [if_pos hc, if_pos hc]
    have h1 := (seg_line (headToks k) true (by simp [headToks]) (head_form k h)).appA nl_stop seg_nl
    have e : printGo (headToks k) true ++ [10] = (labelP k).data.toList ++ [32, 58, 10] := by
      have := head_print k
      unfold printP at this
      rw [this]; simp
    rw [e] at h1
    have e2 : toks [headToks k] = headToks k ++ [endT] := by simp [toks]
    rw [e2]; exact h1
  · rw [if_neg hc, if_neg hc]; exact SegA.nil
theorem toks_app (L M : List (List Tok)) : toks (L ++ M) = toks L ++ toks M := by simp [toks]
theorem seg_text (cnt : Int → Nat) : ∀ (l : List Ins) (k : Nat), k + l.length ≤ 100000 → (∀ i ∈ l, plainB i.op i.a i.b i.c i.imm = true) → (∀ i ∈ l, 0 ≤ i.imm ∧ i.imm ≤ 18446744073709551615) → SegA (textGo cnt l k) (toks (textLines cnt l k))
  | [], k, hk, _, _ => seg_head cnt k (by simp at hk; omega)
  | i :: r, k, hk, hp, hm => by
    rw [List.length_cons] at hk
    have ih := seg_text cnt r (k + 1) (by omega) (fun j hj => hp j (by simp [hj])) (fun j hj => hm j (by simp [hj]))
    have hi := seg_ins (hp i (by simp)) (hm i (by simp))
    rw [textGo, textLines, toks_app, toks_app]
    have e : toks [lineToks i] = lineToks i ++ [endT] := by simp [toks]
    rw [e]
    exact ((seg_head cnt k (by omega)).app hi).app ih
theorem toks_le (m : Nat) : ∀ (L : List (List Tok)), (∀ l ∈ L, l.length ≤ m) → (toks L).length ≤ (m + 1) * L.length
  | [], _ => Nat.zero_le _
  | l :: L, h => by
    have ih := toks_le m L (fun x hx => h x (by simp [hx]))
    have h1 := h l (by simp)
    have e : toks (l :: L) = (l ++ [endT]) ++ toks L := by simp [toks]
    rw [e, List.length_append, List.length_append, List.length_cons]
    have : (m + 1) * (L.length + 1) = (m + 1) * L.length + (m + 1) := by rw [Nat.mul_add, Nat.mul_one]
    simp only [List.length_cons, List.length_nil]
    omega
theorem line_len (i : Ins) : (lineToks i).length ≤ 7 := by unfold lineToks; rw [List.length_map]; exact form_le _
theorem textLines_len (cnt : Int → Nat) : ∀ (l : List Ins) (k : Nat), (textLines cnt l k).length ≤ 2 * l.length + 1 ∧ ∀ x ∈ textLines cnt l k, x.length ≤ 7
  | [], k => by
    rw [textLines]; unfold headLines
    split
    · exact ⟨by simp, fun x hx => by simp at hx; subst hx; simp [headToks]⟩
    · exact ⟨by simp, fun x hx => by simp at hx⟩
  | i :: r, k => by
    obtain ⟨h1, h2⟩ := textLines_len cnt r (k + 1)
    rw [textLines]
    have hh : (headLines cnt k).length ≤ 1 ∧ ∀ x ∈ headLines cnt k, x.length ≤ 7 := by
      unfold headLines
      split
      · exact ⟨by simp, fun x hx => by simp at hx; subst hx; simp [headToks]⟩
      · exact ⟨by simp, fun x hx => by simp at hx⟩
    refine ⟨by simp; have := hh.1; omega, fun x hx => ?_⟩
    simp only [List.mem_append, List.mem_cons, List.not_mem_nil, or_false] at hx
    rcases hx with (hx | rfl) | hx
    · exact hh.2 x hx
    · exact line_len i
    · exact h2 x hx
theorem lines_no3 (cnt : Int → Nat) : ∀ (l : List Ins) (k : Nat), k + l.length ≤ 100000 → (∀ i ∈ l, plainB i.op i.a i.b i.c i.imm = true) → (∀ i ∈ l, 0 ≤ i.imm ∧ i.imm ≤ 18446744073709551615) → ∀ x ∈ textLines cnt l k, ∀ t ∈ x, t.kind ≠ 3
  | [], k, hk, _, _, x, hx, t, ht => by
    rw [textLines] at hx; unfold headLines at hx
    split at hx
    · simp at hx; subst hx; exact (head_form k (by simp at hk; omega) t ht).2
    · simp at hx
  | i :: r, k, hk, hp, hm, x, hx, t, ht => by
    rw [List.length_cons] at hk
    rw [textLines] at hx
    simp only [List.mem_append, List.mem_cons, List.not_mem_nil, or_false] at hx
    rcases hx with (hx | rfl) | hx
    · unfold headLines at hx
      split at hx
      · simp at hx; subst hx; exact (head_form k (by omega) t ht).2
      · simp at hx
    · exact (line_form (hp i (by simp)) (hm i (by simp)) t ht).2
    · exact lines_no3 cnt r (k + 1) (by omega) (fun j hj => hp j (by simp [hj])) (fun j hj => hm j (by simp [hj])) x hx t ht
/-- A program's text is read as the program. -/
theorem asm_text {code : List Ins} (hf : fitsP code = true) (hok : ∀ i ∈ code, i.Ok) : (asmP (textP code)).1 = code ∧ (asmP (textP code)).2.2 = 0 := by
  obtain ⟨h1, h2, cnt, h3, h4, h5⟩ := fits_some hf
  have hm : ∀ i ∈ code, 0 ≤ i.imm ∧ i.imm ≤ 18446744073709551615 := fun i hi => (hok i hi).imm
  have hs := seg_text cnt code 0 (by omega) h2 hm
  have hl := textGo_le cnt code 0 (by omega) hm
  obtain ⟨g1, g2⟩ := textLines_len cnt code 0
  have ht := toks_le 7 _ g2
  have ha := asm_seg hs (by omega) (by omega)
  rw [lines_toks _ (lines_no3 cnt code 0 (by omega) h2 hm), asm_lines hf (fun i hi => (hm i hi).1) cnt (fun i hi hg => (h5 i.imm).2 ⟨i, hi, hg, rfl⟩)] at ha
  rw [h4]
  injection ha with e1 e2
  exact ⟨e1, e2⟩
end Go.Proofs.YthdlihiehfkceaaDoor
