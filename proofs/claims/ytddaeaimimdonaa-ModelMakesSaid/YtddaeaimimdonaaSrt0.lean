/-
  cmp.Less at uint64. Printed by gen/sortturn.py.
-/
import Derived.Test.YtddaeaimimdonaaRows
import Derived.Sort.Walk0
import Derived.WalkKit
namespace Go.Proofs.Ytddaeaimimdonaa
open Go.RowKit Go.Sort
set_option linter.unusedVariables false

set_option maxHeartbeats 1000000 in
theorem srt_cmp_isNaN_u64 (x : Int) (w : World) : Calls Try.prog 100 #[.int .u64 x] w fun e w' => e = .returned (.bool false) ∧ w' = w := by
  go_enter Try.func100, Try.ntmps100
  go_wp2
  go_ret
  exact ⟨by simp, rfl⟩
set_option maxHeartbeats 1000000 in
theorem srt_cmp_Less_u64 (x y : Int) (w : World) : Calls Try.prog 88 #[.int .u64 x, .int .u64 y] w fun e w' => e = .returned (.bool (Sort.ltInt x y)) ∧ w' = w := by
  go_enter Try.func88, Try.ntmps88
  go_wp2_with (go_at_call 100; refine (srt_cmp_isNaN_u64 _ _).mono ?_; rintro e w' ⟨rfl, rfl⟩)
  go_ret
  exact ⟨rfl, rfl⟩
end Go.Proofs.Ytddaeaimimdonaa
