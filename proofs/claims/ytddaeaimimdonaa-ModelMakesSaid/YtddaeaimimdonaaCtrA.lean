/-
  Chapter 3: contracts of instr.form, other, Name, field.
-/
import Derived.Test.YtddaeaimimdonaaRows
import Derived.Test.YtddaeaimimdonaaSpecA
import Derived.Test.YtddaeaimimdonaaRd
import Derived.WalkKit
import Derived.Handy
import Derived.WalkLawsBesides
import Derived.WalkSpells
import Derived.Outline
namespace Go.Proofs.Ytddaeaimimdonaa
open Go.RowKit

theorem other_any (n : Int) (w : World) (h : ¬ (0 ≤ n ∧ n ≤ 10)) :
    Calls Try.prog 101 #[.int .i64 n] w fun e w' => e = .returned (.tuple #[.string (nameOf n), .string (fieldsOf n)]) ∧ w = w' := by
  by_cases hn : 11 ≤ n ∧ n ≤ 21
  · obtain ⟨h1, h2⟩ := hn
    obtain rfl | rfl | rfl | rfl | rfl | rfl | rfl | rfl | rfl | rfl | rfl : n = 11 ∨ n = 12 ∨ n = 13 ∨ n = 14 ∨ n = 15 ∨ n = 16 ∨ n = 17 ∨ n = 18 ∨ n = 19 ∨ n = 20 ∨ n = 21 := by omega
    all_goals
      clear h
      go_enter Try.func101, Try.ntmps101
      go_wp2
      go_ret2
      exact ⟨rfl, rfl⟩
  · rw [nameOf_out (by omega), fieldsOf_out (by omega)]
    have e : ∀ k : Int, 11 ≤ k → k ≤ 21 → (n == k) = false := fun k h1 h2 => beq_eq_false_iff_ne.2 (by omega)
    have e11 := e 11 (by omega) (by omega)
    have e12 := e 12 (by omega) (by omega)
    have e13 := e 13 (by omega) (by omega)
    have e14 := e 14 (by omega) (by omega)
    have e15 := e 15 (by omega) (by omega)
    have e16 := e 16 (by omega) (by omega)
    have e17 := e 17 (by omega) (by omega)
    have e18 := e 18 (by omega) (by omega)
    have e19 := e 19 (by omega) (by omega)
    have e20 := e 20 (by omega) (by omega)
    have e21 := e 21 (by omega) (by omega)
    clear e hn h
    go_enter Try.func101, Try.ntmps101
    go_wp2
    go_ret2
    exact ⟨rfl, rfl⟩

theorem form_any (n : Int) (w : World) :
    Calls Try.prog 94 #[.int .i64 n] w fun e w' => e = .returned (.tuple #[.string (nameOf n), .string (fieldsOf n)]) ∧ w = w' := by
  by_cases hn : 0 ≤ n ∧ n ≤ 10
  · obtain ⟨h1, h2⟩ := hn
    obtain rfl | rfl | rfl | rfl | rfl | rfl | rfl | rfl | rfl | rfl | rfl : n = 0 ∨ n = 1 ∨ n = 2 ∨ n = 3 ∨ n = 4 ∨ n = 5 ∨ n = 6 ∨ n = 7 ∨ n = 8 ∨ n = 9 ∨ n = 10 := by omega
    all_goals
      go_enter Try.func94, Try.ntmps94
      go_wp2
      go_ret2
      exact ⟨rfl, rfl⟩
  · have e : ∀ k : Int, 0 ≤ k → k ≤ 10 → (n == k) = false := fun k h1 h2 => beq_eq_false_iff_ne.2 (by omega)
    have e0 := e 0 (by omega) (by omega)
    have e1 := e 1 (by omega) (by omega)
    have e2 := e 2 (by omega) (by omega)
    have e3 := e 3 (by omega) (by omega)
    have e4 := e 4 (by omega) (by omega)
    have e5 := e 5 (by omega) (by omega)
    have e6 := e 6 (by omega) (by omega)
    have e7 := e 7 (by omega) (by omega)
    have e8 := e 8 (by omega) (by omega)
    have e9 := e 9 (by omega) (by omega)
    have e10 := e 10 (by omega) (by omega)
    have H := other_any n w hn
    have H := Lib.hid H
    clear e hn
    go_enter Try.func94, Try.ntmps94
    go_wp2_with (go_at_call 101; refine H.out.mono ?_; rintro e w' ⟨rfl, rfl⟩)
    go_ret2
    exact ⟨rfl, rfl⟩

theorem name_any (n : Int) (w : World) :
    Calls Try.prog 79 #[.int .i64 n] w fun e w' => e = .returned (.string (nameOf n)) ∧ w = w' := by
  go_enter Try.func79, Try.ntmps79
  go_wp2_with (go_at_call 94; refine (form_any _ _).mono ?_; rintro e w' ⟨rfl, rfl⟩)
  go_ret
  exact ⟨rfl, rfl⟩

theorem field_any (r : Int) (u : Bool) (w : World) :
    Calls Try.prog 80 #[.int .i64 r, .bool u] w fun e w' => e = .returned (.bool (fieldB r u)) ∧ w = w' := by
  go_enter Try.func80, Try.ntmps80
  go_wp2
  all_goals go_ret
  all_goals refine ⟨ret_bool ?_, rfl⟩
  all_goals (cases u <;> rw [Bool.eq_iff_iff] <;> simp_all [fieldB] <;> omega)
end Go.Proofs.Ytddaeaimimdonaa
