/-
  Chapter 2, plain: tokens as text; tokens that are the same.
-/
import Derived.Test.YthklmcpjlpaklaaDoorGlyP
import Derived.Lib.ItoaLen
namespace Go.Proofs.YthklmcpjlpaklaaDoor
open Go.RowKit
set_option linter.unusedVariables false

/-- A token's numbers are of their kinds. -/
structure Tok.Ok (t : Tok) : Prop where
  kind : -9223372036854775808 ≤ t.kind ∧ t.kind ≤ 9223372036854775807
  text : t.text.size ≤ maxLen
  num : 0 ≤ t.num ∧ t.num ≤ 18446744073709551615
  at_ : -9223372036854775808 ≤ t.at_ ∧ t.at_ ≤ 9223372036854775807
  line : -9223372036854775808 ≤ t.line ∧ t.line ≤ 9223372036854775807
/-- What is printed of a word, a number, a sign. -/
def tokText (t : Tok) : List UInt8 := if t.kind = 1 then Lib.decDigits t.num.toNat else t.text.data.toList
def printGo : List Tok → Bool → List UInt8
  | [], _ => []
  | t :: r, fresh => if t.kind = 3 then 10 :: printGo r true
    else if t.kind < 0 ∨ 3 < t.kind then printGo r fresh
    else (if fresh then [] else [32]) ++ tokText t ++ printGo r false
/-- Tokens as text. -/
def printP (l : List Tok) : List UInt8 := printGo l true
theorem drop_at {l : List Tok} {k : Nat} {t : Tok} (h : l[k]? = some t) : l.drop k = t :: l.drop (k + 1) := by
  obtain ⟨hk, rfl⟩ := List.getElem?_eq_some_iff.1 h
  exact List.drop_eq_getElem_cons hk
theorem toList_inj {a b : ByteArray} (h : a.toList = b.toList) : a = b := by
  rw [ByteArray.toList_eq, ByteArray.toList_eq] at h
  cases a; cases b
  simp only at h
  congr 1
  exact Array.toList_inj.1 h
/-- Two lists' kinds, texts and numbers are the same. -/
def sameTok (x y : Tok) : Prop := x.kind = y.kind ∧ x.text = y.text ∧ x.num = y.num
instance (x y : Tok) : Decidable (sameTok x y) := by unfold sameTok; infer_instance
def sameP : List Tok → List Tok → Bool
  | [], [] => true
  | x :: l, y :: r => decide (sameTok x y) && sameP l r
  | _, _ => false
theorem sameP_refl (l : List Tok) : sameP l l = true := by
  induction l with
  | nil => rfl
  | cons x l ih => simp [sameP, sameTok, ih]
theorem sameP_len {l r : List Tok} (h : l.length ≠ r.length) : sameP l r = false := by
  induction l generalizing r with
  | nil => cases r with
    | nil => simp at h
    | cons y r => rfl
  | cons x l ih => cases r with
    | nil => rfl
    | cons y r => simp only [sameP]; rw [ih (by simpa using h)]; simp
theorem sameP_drop {l r : List Tok} {j : Nat} {x y : Tok} (hx : l[j]? = some x) (hy : r[j]? = some y) : sameP (l.drop j) (r.drop j) = (decide (sameTok x y) && sameP (l.drop (j + 1)) (r.drop (j + 1))) := by
  rw [drop_at hx, drop_at hy]; rfl

end Go.Proofs.YthklmcpjlpaklaaDoor
