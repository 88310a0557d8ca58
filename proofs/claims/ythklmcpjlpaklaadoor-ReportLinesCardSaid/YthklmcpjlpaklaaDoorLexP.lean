/-
  Chapter 2, plain: texts that are one run; numerals.
-/
import Derived.Test.YthklmcpjlpaklaaDoorGlyF
import Derived.Lib.ItoaLen
namespace Go.Proofs.YthklmcpjlpaklaaDoor
open Go.RowKit
set_option linter.unusedVariables false

/-- What comes of the run that is open at the text's end. -/
def lexEnd (s : ByteArray) (st : LSt) : List Tok × Int × Int := match shutP s s.size st with
  | (p, e, st1) => if e ≠ 0 then ([], p, e) else (st1.list, 0, 0)
theorem lexGo_done {s : ByteArray} {f pos : Nat} {st : LSt} (hp : ¬ pos < s.size) : lexGo s (f + 1) pos st = lexEnd s st := by rw [lexGo, if_neg hp]; rfl
/-- Bytes that stand in a run wherever they are. -/
def runByte (c : UInt8) : Bool := isLetter c.toNat || isDigit c.toNat
theorem runByte_small {c : UInt8} (h : runByte c = true) : c.toNat < 128 := by
  simp only [runByte, isLetter, isDigit, Bool.or_eq_true, decide_eq_true_eq] at h
  omega
theorem rune_in {s : ByteArray} {pos a : Nat} {st : LSt} (c : UInt8) (hc : runByte c = true) (hr : st.remark = false) (hf : st.from_ = some a) : runeP s pos c.toNat st = (0, 0, st) := by
  rw [runeP_in (by simp only [inRun]; simp only [runByte] at hc; rw [hc]; rfl) hr, hf]; rfl
theorem rune_first {s : ByteArray} {pos : Nat} {st : LSt} (c : UInt8) (hc : runByte c = true) (hr : st.remark = false) (hf : st.from_ = none) : runeP s pos c.toNat st = (0, 0, { st with from_ := some pos }) := by
  rw [runeP_in (by simp only [inRun]; simp only [runByte] at hc; rw [hc]; rfl) hr, hf]; rfl
theorem lexGo_run (s : ByteArray) : ∀ (m f pos a : Nat) (st : LSt), pos + m ≤ s.size → m ≤ f → (∀ k (h : k < s.size), pos ≤ k → k < pos + m → runByte s[k] = true) → st.remark = false → st.from_ = some a →
    lexGo s f pos st = lexGo s (f - m) (pos + m) st
  | 0, f, pos, a, st, _, _, _, _, _ => by simp
  | m + 1, f, pos, a, st, h1, h2, hall, hr, hf => by
    obtain ⟨f, rfl⟩ : ∃ f', f = f' + 1 := ⟨f - 1, by omega⟩
    have hp : pos < s.size := by omega
    have hc := hall pos hp (Nat.le_refl _) (by omega)
    have hd := decode_ascii s pos hp (runByte_small hc)
    rw [lexGo_step hp hd (rune_in _ hc hr hf), if_neg (by simp)]
    rw [lexGo_run s m f (pos + 1) a st (by omega) (by omega) (fun k h h3 h4 => hall k h (by omega) (by omega)) hr hf]
    congr 1 <;> omega
theorem lexGo_open (s : ByteArray) (m f pos : Nat) (st : LSt) (h0 : 0 < m) (h1 : pos + m ≤ s.size) (h2 : m ≤ f) (hall : ∀ k (h : k < s.size), pos ≤ k → k < pos + m → runByte s[k] = true) (hr : st.remark = false) (hf : st.from_ = none) :
    lexGo s f pos st = lexGo s (f - m) (pos + m) { st with from_ := some pos } := by
  obtain ⟨f, rfl⟩ : ∃ f', f = f' + 1 := ⟨f - 1, by omega⟩
  have hp : pos < s.size := by omega
  have hc := hall pos hp (Nat.le_refl _) (by omega)
  have hd := decode_ascii s pos hp (runByte_small hc)
  rw [lexGo_step hp hd (rune_first _ hc hr hf), if_neg (by simp)]
  rw [lexGo_run s (m - 1) f (pos + 1) pos { st with from_ := some pos } (by omega) (by omega) (fun k h h3 h4 => hall k h (by omega) (by omega)) hr rfl]
  congr 1 <;> omega
theorem lex_run (s : ByteArray) (h1 : 0 < s.size) (hs : s.size ≤ 65536) (hall : ∀ k (h : k < s.size), runByte s[k] = true) : lexP s = lexEnd s { list := [], line := 0, from_ := some 0, remark := false } := by
  rw [lexP, if_neg (by omega), lexGo_open s s.size (s.size + 1) 0 _ h1 (by omega) (by omega) (fun k h _ _ => hall k h) rfl rfl]
  rw [show s.size + 1 - s.size = 0 + 1 by omega, lexGo_done (by omega)]
theorem extract_all (s : ByteArray) : s.extract 0 s.size = s := by
  apply ByteArray.ext
  rw [ByteArray.data_extract]
  exact Array.extract_size
/-- A text that is one run, digit ahead. -/
theorem lex_number (s : ByteArray) (h1 : 0 < s.size) (hs : s.size ≤ 65536) (hall : ∀ k (h : k < s.size), runByte s[k] = true) (hd : headIs s = true) :
    lexP s = match numP s.data.toList with
      | none => ([], 0, 22)
      | some n => ([⟨1, ⟨#[]⟩, n, 0, 0⟩], 0, 0) := by
  rw [lex_run s h1 hs hall, lexEnd, shutP_some rfl (extract_all s), if_pos hd]
  cases h : numP s.data.toList with
  | none => simp
  | some n => simp [putP]

theorem dec_digits (u : Nat) : ∀ c ∈ Lib.decDigits u, 48 ≤ c.toNat ∧ c.toNat ≤ 57 := by
  induction u using Nat.strongRecOn with
  | _ u ih =>
    intro c hc
    by_cases h : u < 10
    · rw [Lib.decDigits, dif_pos h] at hc
      obtain rfl := List.mem_singleton.1 hc
      rw [UInt8.toNat_ofNat']; omega
    · rw [Lib.decDigits, dif_neg h] at hc
      rcases List.mem_append.1 hc with h1 | h1
      · exact ih (u / 10) (by omega) c h1
      · obtain rfl := List.mem_singleton.1 h1
        rw [UInt8.toNat_ofNat']; omega
theorem dec_head (u : Nat) : ∃ c r, Lib.decDigits u = c :: r ∧ (1 ≤ u → c ≠ 48) ∧ (u < 10 → r = []) := by
  induction u using Nat.strongRecOn with
  | _ u ih =>
    by_cases h : u < 10
    · refine ⟨UInt8.ofNat (48 + u), [], by rw [Lib.decDigits, dif_pos h], fun h1 e => ?_, fun _ => rfl⟩
      have := congrArg UInt8.toNat e
      rw [UInt8.toNat_ofNat'] at this
      have h48 : (48 : UInt8).toNat = 48 := rfl
      omega
    · obtain ⟨c, r, he, h1, _⟩ := ih (u / 10) (by omega)
      exact ⟨c, r ++ [UInt8.ofNat (48 + u % 10)], by rw [Lib.decDigits, dif_neg h, he]; rfl, fun _ => h1 (by omega), fun h' => absurd h' h⟩
theorem isDigit_of {c : UInt8} (h : 48 ≤ c.toNat ∧ c.toNat ≤ 57) : isDigit c.toNat = true := by simp [isDigit, h]
theorem numGo_dec (u : Nat) (hu : u < 18446744073709551616) (r : List UInt8) : numGo (Lib.decDigits u ++ r) 0 = numGo r u := by
  induction u using Nat.strongRecOn generalizing r with
  | _ u ih =>
    have step : ∀ (m d : Nat) (r : List UInt8), d < 10 → 10 * m + d < 18446744073709551616 → numGo (UInt8.ofNat (48 + d) :: r) m = numGo r (10 * m + d) := by
      intro m d r hd hm
      have e : (UInt8.ofNat (48 + d)).toNat = 48 + d := by rw [UInt8.toNat_ofNat']; omega
      rw [numGo, e, if_pos (by simp [isDigit]; omega), if_neg (by omega), show 48 + d - 48 = d by omega]
    by_cases h : u < 10
    · rw [Lib.decDigits, dif_pos h, List.singleton_append, step 0 u r h (by omega)]
      congr 1; omega
    · rw [Lib.decDigits, dif_neg h, List.append_assoc, ih (u / 10) (by omega) (by omega), List.singleton_append, step (u / 10) (u % 10) r (by omega) (by omega)]
      congr 1; omega
theorem numP_dec (u : Nat) (hu : u < 18446744073709551616) : numP (Lib.decDigits u) = some u := by
  obtain ⟨c, r, he, h1, h2⟩ := dec_head u
  have hn : ¬ (1 < (Lib.decDigits u).length ∧ (Lib.decDigits u)[0]? = some 48) := by
    rintro ⟨hl, h0⟩
    rw [he] at hl h0
    obtain rfl : c = 48 := by simpa using h0
    by_cases h : u < 10
    · rw [h2 h] at hl; simp at hl
    · exact h1 (by omega) rfl
  rw [numP, if_neg hn]
  have := numGo_dec u hu []
  rwa [List.append_nil] at this
end Go.Proofs.YthklmcpjlpaklaaDoor
