/-
  Chapter 2, plain: what is read and printed is read as the same tokens, and printed as the same text.
-/
import Derived.Test.YthfienjmajllpaaDoorLexF
namespace Go.Proofs.YthfienjmajllpaaDoor
open Go.RowKit
open Go.Lib (decodeL decodeN)
set_option linter.unusedVariables false

theorem sameP_length : ∀ {l r : List Tok}, sameP l r = true → l.length = r.length
  | [], [], _ => rfl
  | [], _ :: _, h => by cases h
  | _ :: _, [], h => by cases h
  | _ :: l, _ :: r, h => by
    simp only [sameP, Bool.and_eq_true] at h
    rw [List.length_cons, List.length_cons, sameP_length h.2]
theorem printGo_same : ∀ {l r : List Tok} (fr : Bool), sameP l r = true → printGo l fr = printGo r fr
  | [], [], _, _ => rfl
  | [], _ :: _, _, h => by cases h
  | _ :: _, [], _, h => by cases h
  | x :: l, y :: r, fr, h => by
    simp only [sameP, Bool.and_eq_true, decide_eq_true_eq] at h
    obtain ⟨⟨h1, h2, h3⟩, hs⟩ := h
    have ht : tokText x = tokText y := by rw [tokText, tokText, h1, h2, h3]
    rw [printGo, printGo, h1, ht, printGo_same true hs, printGo_same false hs, printGo_same fr hs]
theorem form_num {t : Tok} (h : Form t) : 0 ≤ t.num ∧ t.num ≤ 18446744073709551615 := by
  rcases h with h | h | h | h
  · rw [h.2.2.2.2]; omega
  · obtain ⟨_, _, u, hu, he⟩ := h
    rw [he]; omega
  · rw [h.2.1]; omega
  · rw [h.2.2]; omega
theorem sign_len {c : Nat} (hc : isSign c = true) : (Utf8.encode (c : Int)).data.toList.length ≤ 3 := by
  obtain ⟨k, hk, rfl⟩ := isSign_mem.1 hc
  rcases sign_runes ⟨k, hk⟩ _ rfl with ⟨x, hx, _⟩ | ⟨hx, _⟩ | ⟨hx, _⟩ <;> simp only at hx <;> rw [hx] <;> simp
theorem form_text {t : Tok} (h : Form t) : (tokText t).length ≤ 24 := by
  rcases h with h | h | h | h
  · rw [tokText, if_neg (by omega)]; exact h.2.2.2.1
  · obtain ⟨hk, _, u, hu, he⟩ := h
    rw [tokText, if_pos hk, he, Int.toNat_natCast, Lib.decDigits_length]
    have := Lib.nDigits_le20 u hu
    omega
  · obtain ⟨hk, _, c, hc, he⟩ := h
    rw [tokText, if_neg (by omega), he]
    have := sign_len hc
    omega
  · rw [tokText, if_neg (by omega), h.2.1]; simp
theorem printGo_len2 (B : Nat) (l : List Tok) (fr : Bool) (h : ∀ t ∈ l, (tokText t).length ≤ B) : (printGo l fr).length ≤ l.length * (B + 1) := by
  induction l generalizing fr with
  | nil => simp [printGo]
  | cons t r ih =>
    have hr := fun fr => ih fr (fun x hx => h x (List.mem_cons_of_mem _ hx))
    have ht := h t (by simp)
    rw [printGo, List.length_cons, Nat.add_mul]
    split
    · have := hr true; rw [List.length_cons]; omega
    · split
      · have := hr fr; omega
      · have := hr false
        rw [List.length_append, List.length_append]
        have : (if fr = true then [] else [32] : List UInt8).length ≤ 1 := by split <;> simp
        omega
/-- What a lex hands back: forms, and no more tokens than bytes. -/
theorem lexP_forms (s : ByteArray) (hs : s.size ≤ 65536) : (∀ t ∈ (lexP s).1, Form t) ∧ (lexP s).1.length ≤ s.size := by
  rw [lexP_R s hs]
  have h := lexR_forms (runesOf s.data.toList) 0 0 r0 ⟨fun t ht => by simp [r0] at ht, fun a w e => (by cases e), by simp [r0]⟩ (runesOf_proper _ _ (Nat.le_refl _))
  have h2 := runesOf_length _ s.data.toList (Nat.le_refl _)
  exact ⟨h.1, by have h3 := h.2; have : s.data.toList.length = s.size := rfl; omega⟩
def textOf (l : List Tok) : ByteArray := ⟨(printP l).toArray⟩
theorem textOf_list (l : List Tok) : (textOf l).data.toList = printP l := by simp [textOf]
theorem back_plain (l : List Tok) (hf : ∀ t ∈ l, Form t) (hlen : l.length ≤ 600) : (printP l).length ≤ 15000 ∧ ∃ l', lexP (textOf l) = (l', 0, 0) ∧ sameP l' l = true ∧ printP l' = printP l ∧ l'.length = l.length ∧ (∀ t ∈ l', 0 ≤ t.num ∧ t.num ≤ 18446744073709551615) := by
  have hp := printGo_len2 24 l true (fun t ht => form_text (hf t ht))
  have hp' : (printP l).length ≤ 15000 := by show (printGo l true).length ≤ _; omega
  have hsz : (textOf l).size ≤ 65536 := by
    show (printP l).toArray.size ≤ _
    rw [List.size_toArray]; omega
  obtain ⟨l', hs, he⟩ := relex l true 0 r0 hf rfl rfl (by show 0 + _ ≤ _; omega)
  have hL : lexP (textOf l) = (l', 0, 0) := by
    rw [lexP_R _ hsz, textOf_list]
    exact he
  have hF := (lexP_forms (textOf l) hsz).1
  rw [hL] at hF
  exact ⟨hp', l', hL, hs, printGo_same true hs, sameP_length hs, fun t ht => form_num (hF t ht)⟩
end Go.Proofs.YthfienjmajllpaaDoor
