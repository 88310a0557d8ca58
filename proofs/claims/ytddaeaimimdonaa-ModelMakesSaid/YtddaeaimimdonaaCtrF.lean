/-
  Chapter 3: contract of tumblerref03.All: are all instructions plain?
-/
import Derived.Test.YtddaeaimimdonaaCtrE
namespace Go.Proofs.Ytddaeaimimdonaa
open Go.RowKit
set_option linter.unusedVariables false

def Ins.plain (i : Ins) : Bool := plainB i.op i.a i.b i.c i.imm

end Go.Proofs.Ytddaeaimimdonaa
