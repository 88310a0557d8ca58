/-
  Chapter 3: contracts of tumblerref03.Num, Get, Check.
-/
import Derived.Test.YtddaeaimimdonaaCtrF
import Derived.Test.YtddaeaimimdonaaOwn
namespace Go.Proofs.Ytddaeaimimdonaa
open Go.RowKit
set_option linter.unusedVariables false

theorem info_u8 : (Try.prog.info? 5).map (fun i => (i.zero, i.size, i.bytes)) = some (some (.int .u8 0), 1, 1) := by kernel_rfl
theorem info_ins : (Try.prog.info? 43).map (fun i => (i.zero, i.size, i.bytes)) = some (some (.agg #[.int .i64 0, .int .i64 0, .int .i64 0, .int .i64 0, .int .u64 0]), 5, 40) := by kernel_rfl

/-- A number's lowest bytes, the lowest first. -/
def numL (n : Int) (k : Nat) : List Int := (List.range k).map fun j => n / 256 ^ j % 256
theorem numL_snoc (n : Int) (k : Nat) : numL n (k + 1) = numL n k ++ [n / 256 ^ k % 256] := by simp [numL, List.range_succ]
theorem numL_length (n : Int) (k : Nat) : (numL n k).length = k := by simp [numL]

/-- The number of some bytes, the lowest first. -/
def getL : List Int → Int
  | [] => 0
  | b :: r => b + 256 * getL r
theorem getL_bd (l : List Int) (h : Byts l) : 0 ≤ getL l ∧ getL l < 256 ^ l.length := by
  induction l with
  | nil => simp [getL]
  | cons b r ih =>
    have hb := h b (by simp)
    have hr := ih (fun x hx => h x (by simp [hx]))
    simp only [getL, List.length_cons, Int.pow_succ]
    omega

end Go.Proofs.Ytddaeaimimdonaa
