/-
  Chapter 3, the document's answers: contracts of tumblerref03.Name, Regs, Imm, Plain.
-/
import Derived.Test.YtddaeaimimdonaaCtrC
namespace Go.Proofs.Ytddaeaimimdonaa
open Go.RowKit

theorem regs_any (n : Int) (w : World) :
    Calls Try.prog 78 #[.int .i64 n] w fun e w' => e = .returned (.int .i64 (regsOf n)) ∧ w = w' := by
  go_enter Try.func78, Try.ntmps78
  go_wp2
  all_goals go_ret
  all_goals refine ⟨ret_int ?_, rfl⟩
  all_goals go_tidy
  all_goals (try simp only [beq_iff_eq, beq_eq_false_iff_ne, ne_eq] at *)
  all_goals unfold regsOf
  all_goals (repeat' split)
  all_goals omega
theorem imm_any (n : Int) (w : World) :
    Calls Try.prog 93 #[.int .i64 n] w fun e w' => e = .returned (.bool (immOf n)) ∧ w = w' := by
  go_enter Try.func93, Try.ntmps93
  go_wp2
  all_goals go_ret
  all_goals refine ⟨ret_bool ?_, rfl⟩
  all_goals go_tidy
  all_goals (try simp only [beq_iff_eq, beq_eq_false_iff_ne, ne_eq] at *)
  all_goals (unfold immOf; rw [Bool.eq_iff_iff]; simp)
  all_goals omega
end Go.Proofs.Ytddaeaimimdonaa
