/-
  Chapter 3, the document's answers: contracts of tumblerref03.Name, Regs, Imm, Plain.
-/
import Derived.Test.YtkkbgpfimapnoaaCtrC
namespace Go.Proofs.Ytkkbgpfimapnoaa
open Go.RowKit

theorem regs_any (n : Int) (w : World) :
    Calls Try.prog 20 #[.int .i64 n] w fun e w' => e = .returned (.int .i64 (regsOf n)) ∧ w = w' := by
  go_enter Try.func20, Try.ntmps20
  go_wp2
  all_goals go_ret
  all_goals refine ⟨ret_int ?_, rfl⟩
  all_goals go_tidy
  all_goals (try simp only [beq_iff_eq, beq_eq_false_iff_ne, ne_eq] at *)
  all_goals unfold regsOf
  all_goals (repeat' split)
  all_goals omega
theorem imm_any (n : Int) (w : World) :
    Calls Try.prog 24 #[.int .i64 n] w fun e w' => e = .returned (.bool (immOf n)) ∧ w = w' := by
  go_enter Try.func24, Try.ntmps24
  go_wp2
  all_goals go_ret
  all_goals refine ⟨ret_bool ?_, rfl⟩
  all_goals go_tidy
  all_goals (try simp only [beq_iff_eq, beq_eq_false_iff_ne, ne_eq] at *)
  all_goals (unfold immOf; rw [Bool.eq_iff_iff]; simp)
  all_goals omega
theorem rname_any (n : Int) (w : World) :
    Calls Try.prog 23 #[.int .i64 n] w fun e w' => e = .returned (.string (nameOf n)) ∧ Below w.heap.size w w' := by
  by_cases hn : 0 ≤ n ∧ n < 22
  · obtain ⟨h1, h2⟩ := hn
    have h3 : n < 22 := h2
    go_enter Try.func23, Try.ntmps23
    go_wp2
    obtain rfl | rfl | rfl | rfl | rfl | rfl | rfl | rfl | rfl | rfl | rfl | rfl | rfl | rfl | rfl | rfl | rfl | rfl | rfl | rfl | rfl | rfl : n = 0 ∨ n = 1 ∨ n = 2 ∨ n = 3 ∨ n = 4 ∨ n = 5 ∨ n = 6 ∨ n = 7 ∨ n = 8 ∨ n = 9 ∨ n = 10 ∨ n = 11 ∨ n = 12 ∨ n = 13 ∨ n = 14 ∨ n = 15 ∨ n = 16 ∨ n = 17 ∨ n = 18 ∨ n = 19 ∨ n = 20 ∨ n = 21 := by omega
    all_goals
      go_ret
      exact ⟨rfl, (Below.refl _ _).alloc (Nat.le_refl _) _⟩
  · rw [nameOf_out hn]
    have h1 : n < 0 ∨ 22 ≤ n := by omega
    clear hn
    go_enter Try.func23, Try.ntmps23
    go_wp2
    all_goals
      go_ret
      exact ⟨rfl, (Below.refl _ _).alloc (Nat.le_refl _) _⟩
end Go.Proofs.Ytkkbgpfimapnoaa
