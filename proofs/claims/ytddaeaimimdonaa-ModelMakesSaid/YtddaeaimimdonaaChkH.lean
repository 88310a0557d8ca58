/-
  Chapter 5: contract of tumblerref05.Leads.
-/
import Derived.Test.YtddaeaimimdonaaChkG
namespace Go.Proofs.Ytddaeaimimdonaa
open Go.RowKit
set_option linter.unusedVariables false

end Go.Proofs.Ytddaeaimimdonaa
