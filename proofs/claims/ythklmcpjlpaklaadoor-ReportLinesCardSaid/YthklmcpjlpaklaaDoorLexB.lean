/-
  Chapter 2, plain: what is read has a form; tokens of that form, printed, are read as the same tokens.
-/
import Derived.Test.YthklmcpjlpaklaaDoorLexT
import Derived.Test.YthklmcpjlpaklaaDoorPrtP
namespace Go.Proofs.YthklmcpjlpaklaaDoor
open Go.RowKit
open Go.Lib (decodeL decodeN)
set_option linter.unusedVariables false

/-- A run that is open, or a word's text. -/
def RunOk (w : List UInt8) : Prop := ∃ x r, w = x :: r ∧ runByte x = true ∧ ∀ y ∈ r, moreByte y = true
/-- A token's form. -/
def Form (t : Tok) : Prop :=
  (t.kind = 0 ∧ RunOk t.text.data.toList ∧ headR t.text.data.toList = false ∧ t.text.data.toList.length ≤ 24 ∧ t.num = 0) ∨
  (t.kind = 1 ∧ t.text = ⟨#[]⟩ ∧ ∃ u : Nat, u < 18446744073709551616 ∧ t.num = u) ∨
  (t.kind = 2 ∧ t.num = 0 ∧ ∃ c, isSign c = true ∧ t.text = Utf8.encode (c : Int)) ∨
  (t.kind = 3 ∧ t.text = ⟨#[]⟩ ∧ t.num = 0)

theorem dec_run (u : Nat) : RunOk (Lib.decDigits u) := by
  obtain ⟨c, r, he, _, _⟩ := dec_head u
  have hd := dec_digits u
  rw [he] at hd ⊢
  refine ⟨c, r, rfl, ?_, fun y hy => ?_⟩
  · simp [runByte, isDigit_of (hd c (by simp))]
  · simp [moreByte, runByte, isDigit_of (hd y (by simp [hy]))]
theorem dec_headR (u : Nat) : headR (Lib.decDigits u) = true := by
  obtain ⟨c, r, he, _, _⟩ := dec_head u
  have hd := dec_digits u
  rw [he] at hd ⊢
  exact isDigit_of (hd c (by simp))
theorem printGo_head {l : List Tok} (h : ∀ t ∈ l, Form t) : printGo l false = [] ∨ ∃ c r, printGo l false = c :: r ∧ (c = 10 ∨ c = 32 ∨ c = 9 ∨ c = 35) := by
  cases l with
  | nil => exact .inl rfl
  | cons t r =>
    right
    rw [printGo]
    by_cases h3 : t.kind = 3
    · rw [if_pos h3]; exact ⟨10, _, rfl, .inl rfl⟩
    · rw [if_neg h3]
      have hk : ¬ (t.kind < 0 ∨ 3 < t.kind) := by
        rcases h t (by simp) with h | h | h | h <;> have := h.1 <;> omega
      rw [if_neg hk]
      exact ⟨32, _, rfl, .inr (.inl rfl)⟩

/-- Same kinds, texts and numbers. -/
theorem relex : ∀ (l : List Tok) (fresh : Bool) (pos : Nat) (st : RSt), (∀ t ∈ l, Form t) → st.run = none → st.remark = false → st.list.length + l.length ≤ 16384 →
    ∃ l', sameP l' l = true ∧ lexR (runesOf (printGo l fresh)) pos st = (st.list ++ l', 0, 0)
  | [], fresh, pos, st, _, hr, _, _ => ⟨[], rfl, by
      show endR st = _
      rw [endR, shutR_none hr]; simp⟩
  | t :: r, fresh, pos, st, hf, hr, hm, hlen => by
    have hft := hf t (by simp)
    have hfr : ∀ t ∈ r, Form t := fun x hx => hf x (by simp [hx])
    rw [List.length_cons] at hlen
    by_cases h3 : t.kind = 3
    · rcases hft with h | h | h | h
      · have := h.1; omega
      · have := h.1; omega
      · have := h.1; omega
      obtain ⟨_, ht, hn⟩ := h
      rw [printGo, if_pos h3, runesOf_ascii 10 _ (by decide), lexR]
      have hi : inR 10 st = false := by simp [inR, isLetter, isDigit]
      have hrr : runeR pos (10 : UInt8).toNat [10] st = ((pos : Int), 0, { st with list := st.list ++ [⟨3, ⟨#[]⟩, 0, pos, st.line⟩], line := st.line + 1 }) := by
        show runeR pos 10 [10] st = _
        rw [runeR, hi, shutR_none hr]
        simp only [Bool.false_and, Bool.false_eq_true, if_false, ne_eq, not_true_eq_false]
        rw [restR, if_pos rfl, putR_ok _ (by show st.list.length < _; omega), hm]
      rw [hrr]
      simp only [ne_eq, not_true_eq_false, if_false]
      obtain ⟨l', hs, he⟩ := relex r true (pos + [10].length) { st with list := st.list ++ [⟨3, ⟨#[]⟩, 0, pos, st.line⟩], line := st.line + 1 } hfr hr hm (by simp; omega)
      refine ⟨⟨3, ⟨#[]⟩, 0, pos, st.line⟩ :: l', ?_, ?_⟩
      · simp only [sameP, hs, Bool.and_true, decide_eq_true_eq]
        exact ⟨h3.symm, ht.symm, hn.symm⟩
      · refine Eq.trans he ?_
        simp
    · have hk : ¬ (t.kind < 0 ∨ 3 < t.kind) := by
        rcases hft with h | h | h | h <;> have := h.1 <;> omega
      rw [printGo, if_neg h3, if_neg hk]
      have blank : ∀ (fresh : Bool) (X : List UInt8), ∃ pos', lexR (runesOf ((if fresh = true then [] else [32]) ++ X)) pos st = lexR (runesOf X) pos' st := by
        intro fresh X
        cases fresh
        · refine ⟨pos + [32].length, ?_⟩
          have hi : inR 32 st = false := by simp [inR, isLetter, isDigit]
          have hrr : runeR pos (32 : UInt8).toNat [32] st = (0, 0, st) := by
            show runeR pos 32 [32] st = _
            rw [runeR, hi, shutR_none hr]
            simp [restR]
          show lexR (runesOf (32 :: X)) pos st = _
          rw [runesOf_ascii 32 _ (by decide), lexR, hrr]
          simp
        · exact ⟨pos, rfl⟩
      rw [List.append_assoc]
      obtain ⟨p1, hp1⟩ := blank fresh (tokText t ++ printGo r false)
      rw [hp1]
      have finish : ∀ (x : Tok) (p2 : Nat), sameTok x t → ∃ l', sameP l' (t :: r) = true ∧ lexR (runesOf (printGo r false)) p2 { st with list := st.list ++ [x] } = (st.list ++ l', 0, 0) := by
        intro x p2 hx
        obtain ⟨l', hs, he⟩ := relex r false p2 { st with list := st.list ++ [x] } hfr hr hm (by simp; omega)
        refine ⟨x :: l', ?_, ?_⟩
        · simp only [sameP, hs, Bool.and_true, decide_eq_true_eq]; exact hx
        · refine Eq.trans he ?_
          simp
      have run : ∀ (w : List UInt8) (x : Tok), RunOk w → shutR { st with run := some (p1, w) } = ((p1 : Int), 0, { st with list := st.list ++ [x] }) → sameTok x t →
          ∃ l', sameP l' (t :: r) = true ∧ lexR (runesOf (w ++ printGo r false)) p1 st = (st.list ++ l', 0, 0) := by
        rintro w x ⟨y, z, rfl, hy, hz⟩ hsh hx
        rw [lexR_run _ y z p1 st hy hz hr hm, lexR_close (printGo_head hfr) (by rw [hsh]), hsh]
        exact finish x _ hx
      have hst : ({ st with run := none } : RSt) = st := by rw [← hr]
      rcases hft with h | h | h | h
      · obtain ⟨hk0, hro, hh, h24, hn⟩ := h
        have e : tokText t = t.text.data.toList := by rw [tokText, if_neg (by omega)]
        rw [e]
        refine run _ ⟨0, t.text, 0, p1, st.line⟩ hro ?_ ⟨hk0.symm, rfl, hn.symm⟩
        rw [shutR]
        simp only
        rw [hh, if_neg (by simp), if_neg (by omega), hst, putR_ok _ (by omega), mk_toList]
      · obtain ⟨hk1, ht, u, hu, hn⟩ := h
        have e : tokText t = Lib.decDigits u := by rw [tokText, if_pos hk1, hn]; simp
        rw [e]
        refine run _ ⟨1, ⟨#[]⟩, u, p1, st.line⟩ (dec_run u) ?_ ⟨hk1.symm, ht.symm, hn.symm⟩
        rw [shutR]
        simp only
        rw [dec_headR, if_pos rfl, numP_dec u hu]
        simp only
        rw [hst, putR_ok _ (by omega)]
      · obtain ⟨hk2, hn, c, hc, ht⟩ := h
        have e : tokText t = (Utf8.encode (c : Int)).data.toList := by rw [tokText, if_neg (by omega), ht]
        obtain ⟨s1, s2, s3, s4⟩ := sign_plain hc st hr
        rw [e, runesOf_sign hc, lexR]
        have hrr : ∀ b, runeR p1 c b st = ((p1 : Int), 0, { st with list := st.list ++ [⟨2, Utf8.encode (c : Int), 0, p1, st.line⟩] }) := by
          intro b
          rw [runeR, s1, shutR_none hr]
          simp only [Bool.false_and, Bool.false_eq_true, if_false, ne_eq, not_true_eq_false]
          have hb : ¬ (st.remark = true ∨ c = 32 ∨ c = 9 ∨ c = 13) := by
            rintro (h | h)
            · rw [hm] at h; cases h
            · exact s3 h
          have hlt : st.list.length < 16384 := by omega
          rw [restR, if_neg s2, if_neg hb, if_neg s4, if_pos hc, putR_ok _ hlt]
        rw [hrr]
        simp only [ne_eq, not_true_eq_false, if_false]
        have hx : sameTok ⟨2, Utf8.encode (c : Int), 0, p1, st.line⟩ t := by
          refine ⟨?_, ?_, ?_⟩
          · exact Eq.symm hk2
          · rw [ht]
          · exact Eq.symm hn
        exact finish _ _ hx
      · exact absurd h.1 h3
end Go.Proofs.YthklmcpjlpaklaaDoor
