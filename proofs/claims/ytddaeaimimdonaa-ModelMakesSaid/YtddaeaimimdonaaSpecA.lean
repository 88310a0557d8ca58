/-
  The plain functions that chapter 3's code computes: names, fields, plainness of instructions; no program in sight.
-/
import Derived.WalkKit
import Derived.Lib.Hide
namespace Go.Proofs.Ytddaeaimimdonaa
open Go.RowKit

/-- The kinds' names, in order. -/
def kindNames : List ByteArray := [⟨#[115, 101, 116]⟩, ⟨#[109, 111, 118, 101]⟩, ⟨#[112, 108, 117, 115]⟩, ⟨#[109, 105, 110, 117, 115]⟩, ⟨#[116, 105, 109, 101, 115]⟩, ⟨#[109, 111, 100, 117, 108, 111]⟩, ⟨#[101, 113, 117, 97, 108]⟩, ⟨#[108, 101, 115, 115]⟩, ⟨#[97, 114, 103]⟩, ⟨#[114, 111, 111, 116]⟩, ⟨#[112, 117, 116, 114, 111, 111, 116]⟩, ⟨#[114, 101, 97, 100]⟩, ⟨#[114, 101, 97, 100, 97, 116]⟩, ⟨#[119, 114, 105, 116, 101]⟩, ⟨#[119, 114, 105, 116, 101, 97, 116]⟩, ⟨#[110, 101, 119]⟩, ⟨#[102, 114, 101, 101]⟩, ⟨#[103, 111]⟩, ⟨#[122, 101, 114, 111]⟩, ⟨#[98, 97, 99, 107]⟩, ⟨#[114, 101, 116, 117, 114, 110]⟩, ⟨#[97, 98, 111, 114, 116]⟩]
/-- The kinds' fields, in order: a, b, c, i. -/
def kindForms : List ByteArray := [⟨#[97, 105]⟩, ⟨#[97, 98]⟩, ⟨#[97, 98, 99]⟩, ⟨#[97, 98, 99]⟩, ⟨#[97, 98, 99]⟩, ⟨#[97, 98, 99]⟩, ⟨#[97, 98, 99]⟩, ⟨#[97, 98, 99]⟩, ⟨#[97, 105]⟩, ⟨#[97, 98]⟩, ⟨#[97, 98]⟩, ⟨#[97, 98, 105]⟩, ⟨#[97, 98, 99]⟩, ⟨#[97, 98, 105]⟩, ⟨#[97, 98, 99]⟩, ⟨#[97]⟩, ⟨#[97]⟩, ⟨#[105]⟩, ⟨#[97, 105]⟩, ⟨#[97, 105]⟩, ⟨#[97]⟩, ⟨#[105]⟩]
def nameOf (n : Int) : ByteArray := if 0 ≤ n ∧ n < 22 then kindNames.getD n.toNat ⟨#[]⟩ else ⟨#[]⟩
def fieldsOf (n : Int) : ByteArray := if 0 ≤ n ∧ n < 22 then kindForms.getD n.toNat ⟨#[]⟩ else ⟨#[]⟩

theorem nameOf_out {n : Int} (h : ¬ (0 ≤ n ∧ n < 22)) : nameOf n = ⟨#[]⟩ := by unfold nameOf; rw [if_neg h]
theorem fieldsOf_out {n : Int} (h : ¬ (0 ≤ n ∧ n < 22)) : fieldsOf n = ⟨#[]⟩ := by unfold fieldsOf; rw [if_neg h]

/-- How many registers a kind has; has it a number? -/
def regsOf (n : Int) : Int :=
  if (2 ≤ n ∧ n ≤ 7) ∨ n = 12 ∨ n = 14 then 3 else if n = 1 ∨ (9 ≤ n ∧ n ≤ 11) ∨ n = 13 then 2
  else if n = 17 ∨ n = 21 ∨ n < 0 ∨ 21 < n then 0 else 1
def immOf (n : Int) : Bool := decide (n = 0 ∨ n = 8 ∨ n = 11 ∨ n = 13 ∨ (17 ≤ n ∧ n ≤ 19) ∨ n = 21)
def fieldB (r : Int) (u : Bool) : Bool := decide (r = 0) || (u && decide (0 < r ∧ r < 16))
def plainB (n a b c m : Int) : Bool :=
  decide (0 ≤ n ∧ n ≤ 21) && fieldB a (decide (0 < regsOf n)) && fieldB b (decide (1 < regsOf n)) && fieldB c (decide (2 < regsOf n)) && (immOf n || decide (m = 0))
end Go.Proofs.Ytddaeaimimdonaa
