/-
  Chapter 2, plain: steps of the lexer over runes: a run, a sign, a closing; texts one behind the other.
-/
import Derived.Test.YthklmcpjlpaklaaDoorLexS
namespace Go.Proofs.YthklmcpjlpaklaaDoor
open Go.RowKit
open Go.Lib (decodeL decodeN)
set_option linter.unusedVariables false

theorem shutR_none {st : RSt} (h : st.run = none) : shutR st = (0, 0, st) := by rw [shutR, h]
theorem putR_run (st : RSt) (t : Tok) : (putR st t).2.run = st.run := by unfold putR; split <;> rfl
theorem putR_remark (st : RSt) (t : Tok) : (putR st t).2.remark = st.remark := by unfold putR; split <;> rfl
theorem putR_ok {st : RSt} (t : Tok) (h : st.list.length < 16384) : putR st t = (0, { st with list := st.list ++ [{ t with line := st.line }] }) := by rw [putR, if_neg (by omega)]
theorem shutR_kept (st : RSt) : (shutR st).2.2.run = none ∧ (shutR st).2.2.remark = st.remark ∧ (shutR st).2.2.line = st.line := by
  have hl : ∀ (x : RSt) (t : Tok), (putR x t).2.line = x.line := fun x t => by unfold putR; split <;> rfl
  unfold shutR
  rcases hr : st.run with _ | ⟨a, w⟩
  · exact ⟨hr, rfl, rfl⟩
  · simp only
    split
    · split
      · exact ⟨rfl, rfl, rfl⟩
      · exact ⟨by rw [putR_run], by rw [putR_remark], by rw [hl]⟩
    · split
      · exact ⟨rfl, rfl, rfl⟩
      · exact ⟨by rw [putR_run], by rw [putR_remark], by rw [hl]⟩
/-- A rune that stands in no run shuts it first. -/
theorem runeR_shut {pos c : Nat} {b : List UInt8} {st : RSt} (h : inR c st = false ∨ st.remark = true) (he : (shutR st).2.1 = 0) : runeR pos c b st = runeR pos c b (shutR st).2.2 := by
  obtain ⟨h1, h2, _⟩ := shutR_kept st
  have hn : (inR c st && !st.remark) = false := by rcases h with h | h <;> simp [h]
  have hn' : (inR c (shutR st).2.2 && !(shutR st).2.2.remark) = false := by
    rw [h2]
    rcases h with h | h
    · have : inR c (shutR st).2.2 = false := by
        simp only [inR, Bool.or_eq_false_iff] at h
        simp [inR, h.1.1, h.1.2, h1]
      rw [this]; rfl
    · simp [h]
  rw [runeR, runeR, hn, hn', shutR_none h1]
  simp [he]
theorem endR_shut {st : RSt} (he : (shutR st).2.1 = 0) : endR st = endR (shutR st).2.2 := by
  rw [endR, endR, shutR_none (shutR_kept st).1, he]; simp
/-- What follows is nothing, a blank or a line's end: then the run may be shut ahead of it. -/
theorem lexR_close {rest : List UInt8} (h : rest = [] ∨ ∃ c r, rest = c :: r ∧ (c = 10 ∨ c = 32 ∨ c = 9 ∨ c = 35)) {pos : Nat} {st : RSt} (he : (shutR st).2.1 = 0) :
    lexR (runesOf rest) pos st = lexR (runesOf rest) pos (shutR st).2.2 := by
  rcases h with rfl | ⟨c, r, rfl, hc⟩
  · exact endR_shut he
  · have hs : c.toNat < 128 := by rcases hc with rfl | rfl | rfl | rfl <;> decide
    have hi : inR c.toNat st = false := by rcases hc with rfl | rfl | rfl | rfl <;> simp [inR, isLetter, isDigit]
    rw [runesOf_ascii c r hs, lexR, lexR, runeR_shut (.inl hi) he]
/-- A byte that stands behind a run's first. -/
def moreByte (c : UInt8) : Bool := runByte c || c == 46
theorem moreByte_small {c : UInt8} (h : moreByte c = true) : c.toNat < 128 := by
  simp only [moreByte, Bool.or_eq_true, beq_iff_eq] at h
  rcases h with h | rfl
  · exact runByte_small h
  · decide
theorem lexR_more (rest : List UInt8) : ∀ (r : List UInt8) (pos a : Nat) (w : List UInt8) (st : RSt), (∀ x ∈ r, moreByte x = true) → st.run = some (a, w) → st.remark = false →
    lexR (runesOf (r ++ rest)) pos st = lexR (runesOf rest) (pos + r.length) { st with run := some (a, w ++ r) }
  | [], pos, a, w, st, _, hr, _ => by
    have : ({ st with run := some (a, w ++ []) } : RSt) = st := by rw [List.append_nil, ← hr]
    rw [this]; rfl
  | x :: r, pos, a, w, st, hall, hr, hm => by
    have hx := hall x (by simp)
    have hi : inR x.toNat st = true := by
      simp only [moreByte, Bool.or_eq_true, beq_iff_eq, runByte] at hx
      rcases hx with hx | rfl
      · simp only [inR]; rw [Bool.or_eq_true]; exact .inl (by simpa using hx)
      · simp [inR, hr]
    have hrn : runeR pos x.toNat [x] st = (0, 0, { st with run := some (a, w ++ [x]) }) := by
      rw [runeR, hi, hm]
      simp [growR, hr, hm]
    rw [List.cons_append, runesOf_ascii x _ (moreByte_small hx), lexR, hrn]
    simp only [ne_eq, not_true_eq_false, if_false]
    rw [lexR_more rest r (pos + [x].length) a (w ++ [x]) { st with run := some (a, w ++ [x]) } (fun y hy => hall y (by simp [hy])) rfl hm]
    rw [show pos + [x].length + r.length = pos + (x :: r).length by simp; omega, List.append_assoc]
    rfl
/-- A run from its first byte on. -/
theorem lexR_run (rest : List UInt8) (x : UInt8) (r : List UInt8) (pos : Nat) (st : RSt) (hx : runByte x = true) (hall : ∀ y ∈ r, moreByte y = true) (hr : st.run = none) (hm : st.remark = false) :
    lexR (runesOf (x :: r ++ rest)) pos st = lexR (runesOf rest) (pos + (x :: r).length) { st with run := some (pos, x :: r) } := by
  have hi : inR x.toNat st = true := by
    simp only [runByte] at hx
    simp only [inR]; rw [Bool.or_eq_true]; exact .inl hx
  have hrn : runeR pos x.toNat [x] st = (0, 0, { st with run := some (pos, [x]) }) := by
    rw [runeR, hi, hm]
    simp [growR, hr, hm]
  rw [List.cons_append, runesOf_ascii x _ (runByte_small hx), lexR, hrn]
  simp only [ne_eq, not_true_eq_false, if_false]
  rw [lexR_more rest r (pos + [x].length) pos [x] { st with run := some (pos, [x]) } hall rfl hm]
  rw [show pos + [x].length + r.length = pos + (x :: r).length by simp; omega]
  rfl
/-- A sign's runes. -/
theorem sign_runes : ∀ k : Fin 12, ∀ b : List UInt8, (Utf8.encode (signRunes.getD k.val 0 : Nat)).data.toList = b → (∃ x, b = [x] ∧ x.toNat = signRunes.getD k.val 0 ∧ x.toNat < 128) ∨ b = [226, 134, 144] ∧ signRunes.getD k.val 0 = 8592 ∨ b = [195, 151] ∧ signRunes.getD k.val 0 = 215 := by
  have h : ∀ k : Fin 12, (∃ x, (Utf8.encode (signRunes.getD k.val 0 : Nat)).data.toList = [x] ∧ x.toNat = signRunes.getD k.val 0 ∧ x.toNat < 128) ∨ (Utf8.encode (signRunes.getD k.val 0 : Nat)).data.toList = [226, 134, 144] ∧ signRunes.getD k.val 0 = 8592 ∨ (Utf8.encode (signRunes.getD k.val 0 : Nat)).data.toList = [195, 151] ∧ signRunes.getD k.val 0 = 215 := by
    intro k
    match k with
    | 0 => exact .inr (.inl (by decide +kernel))
    | 1 => exact .inl ⟨43, by decide +kernel⟩
    | 2 => exact .inl ⟨45, by decide +kernel⟩
    | 3 => exact .inr (.inr (by decide +kernel))
    | 4 => exact .inl ⟨37, by decide +kernel⟩
    | 5 => exact .inl ⟨61, by decide +kernel⟩
    | 6 => exact .inl ⟨60, by decide +kernel⟩
    | 7 => exact .inl ⟨91, by decide +kernel⟩
    | 8 => exact .inl ⟨93, by decide +kernel⟩
    | 9 => exact .inl ⟨58, by decide +kernel⟩
    | 10 => exact .inl ⟨36, by decide +kernel⟩
    | 11 => exact .inl ⟨44, by decide +kernel⟩
  intro k b hb
  rw [← hb]; exact h k
theorem runesOf_sign {c : Nat} (hc : isSign c = true) (rest : List UInt8) : runesOf ((Utf8.encode (c : Int)).data.toList ++ rest) = (c, (Utf8.encode (c : Int)).data.toList) :: runesOf rest := by
  obtain ⟨k, hk, rfl⟩ := isSign_mem.1 hc
  rcases sign_runes ⟨k, hk⟩ _ rfl with ⟨x, hx, h1, h2⟩ | ⟨hx, h1⟩ | ⟨hx, h1⟩
  · simp only at hx h1
    rw [hx, List.singleton_append, runesOf_ascii x rest h2, h1]
  · simp only at hx h1
    have hd : decodeL ([226, 134, 144] ++ rest) = (8592, 3) := by
      rw [Lib.decodeL_N]
      simp [decodeN]
    rw [hx, runesOf_cons (by simp), hd, h1]
    rfl
  · simp only at hx h1
    have hd : decodeL ([195, 151] ++ rest) = (215, 2) := by
      rw [Lib.decodeL_N]
      simp [decodeN]
    rw [hx, runesOf_cons (by simp), hd, h1]
    rfl
theorem sign_plain {c : Nat} (hc : isSign c = true) (st : RSt) (h : st.run = none) : inR c st = false ∧ c ≠ 10 ∧ ¬ (c = 32 ∨ c = 9 ∨ c = 13) ∧ c ≠ 35 := by
  obtain ⟨k, hk, rfl⟩ := isSign_mem.1 hc
  have hh : ∀ k : Fin 12, (isLetter (signRunes.getD k.val 0) || isDigit (signRunes.getD k.val 0)) = false ∧ signRunes.getD k.val 0 ≠ 10 ∧ ¬ (signRunes.getD k.val 0 = 32 ∨ signRunes.getD k.val 0 = 9 ∨ signRunes.getD k.val 0 = 13) ∧ signRunes.getD k.val 0 ≠ 35 := by decide +kernel
  obtain ⟨h1, h2, h3, h4⟩ := hh ⟨k, hk⟩
  refine ⟨?_, h2, h3, h4⟩
  simp only at h1
  rw [inR, h1, h]; simp
end Go.Proofs.YthklmcpjlpaklaaDoor
