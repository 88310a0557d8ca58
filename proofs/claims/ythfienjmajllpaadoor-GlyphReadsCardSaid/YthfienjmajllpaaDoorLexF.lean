/-
  Chapter 2, plain: what is read has a form, and is no longer than the text.
-/
import Derived.Test.YthfienjmajllpaaDoorLexB
namespace Go.Proofs.YthfienjmajllpaaDoor
open Go.RowKit
open Go.Lib (decodeL decodeN)
set_option linter.unusedVariables false

theorem numGo_bound : ∀ (l : List UInt8) (n m : Nat), numGo l n = some m → n < 18446744073709551616 → m < 18446744073709551616
  | [], n, m, h, hn => by
    rw [numGo] at h
    injection h with h; omega
  | c :: r, n, m, h, hn => by
    rw [numGo] at h
    split at h
    · rename_i hd
      split at h
      · cases h
      · refine numGo_bound r _ m h ?_
        simp only [isDigit, decide_eq_true_eq] at hd
        omega
    · cases h
theorem numP_bound {l : List UInt8} {m : Nat} (h : numP l = some m) : m < 18446744073709551616 := by
  rw [numP] at h
  split at h
  · cases h
  · exact numGo_bound l 0 m h (by omega)
/-- What holds of the lexer's state behind N runes. -/
structure RInv (q : RSt) (N : Nat) : Prop where
  forms : ∀ t ∈ q.list, Form t
  run : ∀ a w, q.run = some (a, w) → RunOk w
  len : q.list.length + (if q.run.isSome then 1 else 0) ≤ N
theorem putR_inv {q : RSt} {N : Nat} {t : Tok} (h : RInv q N) (hr : q.run = none) (hf : ∀ k, Form { t with line := k }) : RInv (putR q t).2 (N + 1) := by
  have hl := h.len
  rw [hr] at hl
  simp at hl
  unfold putR
  split
  · exact ⟨h.forms, h.run, by rw [hr]; simp; omega⟩
  · refine ⟨fun x hx => ?_, fun a w e => (by rw [hr] at e; cases e), by rw [hr]; simp; omega⟩
    rcases List.mem_append.1 hx with hx | hx
    · exact h.forms x hx
    · obtain rfl := List.mem_singleton.1 hx
      exact hf _
theorem shutR_inv {q : RSt} {N : Nat} (h : RInv q N) : RInv (shutR q).2.2 N := by
  rcases hr : q.run with _ | ⟨a, w⟩
  · rw [shutR_none hr]; exact h
  · have hl := h.len
    rw [hr] at hl
    simp at hl
    obtain ⟨N, rfl⟩ : ∃ N', N = N' + 1 := ⟨N - 1, by omega⟩
    have hw := h.run a w hr
    have h0 : RInv { q with run := none } N := ⟨h.forms, fun _ _ e => (by cases e), by simp; omega⟩
    have h1 : RInv { q with run := none } (N + 1) := ⟨h.forms, fun _ _ e => (by cases e), by simp; omega⟩
    rw [shutR, hr]
    simp only
    by_cases hh : headR w = true
    · rw [if_pos hh]
      cases hn : numP w with
      | none => exact h1
      | some n => exact putR_inv h0 rfl (fun k => .inr (.inl ⟨rfl, rfl, n, numP_bound hn, rfl⟩))
    · rw [if_neg hh]
      by_cases h24 : 24 < w.length
      · rw [if_pos h24]; exact h1
      · rw [if_neg h24]
        have hwl : (⟨w.toArray⟩ : ByteArray).data.toList = w := by simp
        exact putR_inv h0 rfl (fun k => .inl ⟨rfl, by show RunOk (⟨w.toArray⟩ : ByteArray).data.toList; rw [hwl]; exact hw, by show headR (⟨w.toArray⟩ : ByteArray).data.toList = false; rw [hwl]; simpa using hh, by show (⟨w.toArray⟩ : ByteArray).data.toList.length ≤ 24; rw [hwl]; omega, rfl⟩)
theorem signForm {c : Nat} (hc : isSign c = true) (p k : Int) : Form { kind := 2, text := Utf8.encode (c : Int), num := 0, at_ := p, line := k } := by
  generalize he : Utf8.encode (c : Int) = e
  exact .inr (.inr (.inl ⟨rfl, rfl, c, hc, he.symm⟩))
/-- A rune below 128 is its one byte. -/
def Proper (x : Nat × List UInt8) : Prop := x.1 < 128 → ∃ y, x.2 = [y] ∧ y.toNat = x.1
theorem runesOf_proper : ∀ (n : Nat) (l : List UInt8), l.length ≤ n → ∀ x ∈ runesOf l, Proper x
  | 0, l, hn, x, hx => by
    obtain rfl : l = [] := List.eq_nil_of_length_eq_zero (by omega)
    simp [runesOf_nil] at hx
  | n + 1, l, hn, x, hx => by
    by_cases hl : l = []
    · subst hl; simp [runesOf_nil] at hx
    · have hp := decodeL_pos hl
      rw [runesOf_cons hl] at hx
      rcases List.mem_cons.1 hx with rfl | hx
      · intro h
        match l, hl with
        | y :: r, _ =>
          by_cases hy : y.toNat < 128
          · rw [Lib.decodeL_ascii y r hy]; exact ⟨y, rfl, rfl⟩
          · have hd := Lib.decodeL_drop (⟨(y :: r).toArray⟩ : ByteArray) 0
            have e : (⟨(y :: r).toArray⟩ : ByteArray).data.toList.drop 0 = y :: r := by simp
            rw [e] at hd
            have := (decode_high (⟨(y :: r).toArray⟩ : ByteArray) 0 (by show 0 < (y :: r).toArray.size; simp) (by show 128 ≤ y.toNat; omega)).1
            rw [← hd] at this
            simp only at h
            omega
      · exact runesOf_proper n _ (by rw [List.length_drop]; omega) x hx
theorem runesOf_length : ∀ (n : Nat) (l : List UInt8), l.length ≤ n → (runesOf l).length ≤ l.length
  | 0, l, hn => by
    obtain rfl : l = [] := List.eq_nil_of_length_eq_zero (by omega)
    simp [runesOf_nil]
  | n + 1, l, hn => by
    by_cases hl : l = []
    · subst hl; simp [runesOf_nil]
    · have hp := decodeL_pos hl
      have h0 : 0 < l.length := List.length_pos_iff.2 hl
      rw [runesOf_cons hl, List.length_cons]
      have := runesOf_length n (l.drop (decodeL l).2) (by rw [List.length_drop]; omega)
      rw [List.length_drop] at this
      omega
theorem runeR_inv {q : RSt} {N pos c : Nat} {b : List UInt8} (h : RInv q N) (hb : Proper (c, b)) : RInv (runeR pos c b q).2.2 (N + 1) := by
  have hs := shutR_inv h
  have hk := shutR_kept q
  have up : ∀ x : RSt, RInv x N → RInv x (N + 1) := fun x hx => ⟨hx.forms, hx.run, by have := hx.len; omega⟩
  rw [runeR]
  by_cases hi : (inR c q && !q.remark) = true
  · rw [if_pos hi]
    simp only [Bool.and_eq_true, inR, Bool.or_eq_true, isLetter, isDigit, decide_eq_true_eq, beq_iff_eq] at hi
    obtain ⟨y, hy, hyc⟩ := hb (by show c < 128; omega)
    simp only at hy hyc
    subst hy; subst hyc
    have hl := h.len
    refine ⟨h.forms, fun a w e => ?_, ?_⟩
    · rcases hr : q.run with _ | ⟨a0, w0⟩
      · simp only [growR, hr, Option.some.injEq, Prod.mk.injEq] at e
        obtain ⟨rfl, rfl⟩ := e
        refine ⟨y, [], rfl, ?_, fun z hz => by simp at hz⟩
        rw [hr] at hi
        simp only [runByte, isLetter, isDigit, Bool.or_eq_true, decide_eq_true_eq]
        simp at hi
        omega
      · simp only [growR, hr, Option.some.injEq, Prod.mk.injEq] at e
        obtain ⟨rfl, rfl⟩ := e
        obtain ⟨x, r, rfl, h1, h2⟩ := h.run a0 w0 hr
        refine ⟨x, r ++ [y], rfl, h1, fun z hz => ?_⟩
        rcases List.mem_append.1 hz with hz | hz
        · exact h2 z hz
        · obtain rfl := List.mem_singleton.1 hz
          simp only [moreByte, runByte, isLetter, isDigit, Bool.or_eq_true, decide_eq_true_eq, beq_iff_eq]
          rcases hi.1 with (h | h) | h
          · exact .inl (.inl h)
          · exact .inl (.inr h)
          · right
            apply UInt8.toNat_inj.1
            exact h.1
    · show q.list.length + _ ≤ _
      split at hl <;> split <;> omega
  · rw [if_neg hi]
    split
    · exact up _ hs
    · rw [restR]
      split
      · have := putR_inv (q := { (shutR q).2.2 with remark := false }) (t := { kind := 3, text := ⟨#[]⟩, num := 0, at_ := (pos : Int), line := 0 }) ⟨hs.forms, hs.run, hs.len⟩ hk.1 (fun k => .inr (.inr (.inr ⟨rfl, rfl, rfl⟩)))
        exact ⟨this.forms, this.run, this.len⟩
      · split
        · exact up _ hs
        · split
          · exact up _ ⟨hs.forms, hs.run, hs.len⟩
          · split
            · rename_i hsg
              refine putR_inv hs hk.1 (fun k => ?_)
              have hf := signForm hsg (pos : Int) k
              generalize Utf8.encode (c : Int) = e at hf ⊢
              exact hf
            · exact up _ hs
theorem lexR_forms : ∀ (x : List (Nat × List UInt8)) (pos N : Nat) (q : RSt), RInv q N → (∀ y ∈ x, Proper y) → (∀ t ∈ (lexR x pos q).1, Form t) ∧ (lexR x pos q).1.length ≤ N + x.length
  | [], pos, N, q, h, _ => by
    rw [lexR, endR]
    split
    · simp
    · have hs := shutR_inv h
      exact ⟨hs.forms, by have := hs.len; simp only [List.length_nil]; omega⟩
  | (c, b) :: r, pos, N, q, h, hx => by
    rw [lexR]
    split
    · simp
    · have := lexR_forms r (pos + b.length) (N + 1) _ (runeR_inv (pos := pos) h (hx (c, b) (by simp))) (fun y hy => hx y (by simp [hy]))
      exact ⟨this.1, by have := this.2; rw [List.length_cons]; omega⟩
end Go.Proofs.YthfienjmajllpaaDoor
