/-
  Chapter 5: what is wrong with one instruction at a place: contracts of check.ends, check.one, tumblerref04.Goes, Forth, tumblerref05.One.
-/
import Derived.Test.YtddaeaimimdonaaCtrF
import Derived.Test.YtddaeaimimdonaaOwn
namespace Go.Proofs.Ytddaeaimimdonaa
open Go.RowKit
set_option linter.unusedVariables false

/-- What is wrong with an instruction at place k of N (its number; 0: nothing). -/
def oneE (N k : Nat) (i : Ins) : Int :=
  if i.plain = false then 30
  else if i.op = 8 then (if 4 ≤ i.imm then 1 else 0)
  else if i.op = 11 ∨ i.op = 13 then (if 8 ≤ i.imm then 1 else 0)
  else if i.op = 21 then (if i.imm < 1 ∨ 255 < i.imm then 1 else 0)
  else if i.op = 17 ∨ i.op = 18 then (if i.imm ≤ k ∨ N ≤ i.imm then 24 else 0)
  else if i.op = 19 then (if (k : Int) < i.imm then 24 else 0)
  else 0
def endsB (op : Int) : Bool := decide (op = 20 ∨ op = 21)

theorem ends_any (op : Int) (w : World) : Calls Try.prog 50 #[.int .i64 op] w fun e w' => e = .returned (.bool (endsB op)) ∧ w = w' := by
  go_enter Try.func50, Try.ntmps50
  go_wp2
  all_goals go_ret
  all_goals refine ⟨ret_bool ?_, rfl⟩
  all_goals (rw [Bool.eq_iff_iff]; simp_all [endsB])

theorem goes_any (op : Int) (w : World) : Calls Try.prog 66 #[.int .i64 op] w fun e w' => e = .returned (.bool (decide (17 ≤ op ∧ op ≤ 19))) ∧ w = w' := by
  go_enter Try.func66, Try.ntmps66
  go_wp2
  all_goals go_ret
  all_goals refine ⟨ret_bool ?_, rfl⟩
  all_goals (rw [Bool.eq_iff_iff]; simp <;> omega)

theorem forth_any (op x y : Int) (w : World) : Calls Try.prog 75 #[.int .i64 op, .int .i64 x, .int .i64 y] w fun e w' => e = .returned (.bool (decide (if op = 19 then y ≤ x else x < y))) ∧ w = w' := by
  by_cases h : op = 19
  · subst h
    by_cases hxy : y ≤ x
    all_goals
      go_enter Try.func75, Try.ntmps75
      go_wp2
      go_ret
      refine ⟨ret_bool ?_, rfl⟩
      simp [hxy]
  · have h1 : (op == 19) = false := by simpa using h
    have h2 : (op != 19) = true := by simpa using h
    have HH := Lib.hid h
    clear h
    go_enter Try.func75, Try.ntmps75
    go_wp2
    all_goals go_ret
    all_goals refine ⟨ret_bool ?_, rfl⟩
    all_goals (first | rfl | (rw [Bool.eq_iff_iff]; first | done | simp [HH.out]) | simp [HH.out])
theorem forth_t (op x y : Int) (w : World) (h : if op = 19 then y ≤ x else x < y) : Calls Try.prog 75 #[.int .i64 op, .int .i64 x, .int .i64 y] w fun e w' => e = .returned (.bool true) ∧ w = w' := by
  have := forth_any op x y w
  rwa [decide_eq_true h] at this
theorem forth_f (op x y : Int) (w : World) (h : ¬ if op = 19 then y ≤ x else x < y) : Calls Try.prog 75 #[.int .i64 op, .int .i64 x, .int .i64 y] w fun e w' => e = .returned (.bool false) ∧ w = w' := by
  have := forth_any op x y w
  rwa [decide_eq_false h] at this
end Go.Proofs.Ytddaeaimimdonaa
