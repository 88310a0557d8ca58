/-
  Chapter 19, plain: several programs as one.
-/
import Derived.Test.YtddaeaimimdonaaOpenP
import Derived.Test.YtddaeaimimdonaaModL
namespace Go.Proofs.Ytddaeaimimdonaa
open Go.RowKit
set_option linter.unusedVariables false

def handedP (r : Int) (a : PArg) : Ins := if a.kind = 0 then ⟨0, r, 0, 0, a.val⟩ else if a.kind = 1 then ⟨1, r, 12 + a.val, 0, 0⟩ else ⟨8, r, 0, 0, a.val⟩
def highP (i : Ins) : Bool := decide (12 ≤ i.a ∨ 12 ≤ i.b ∨ 12 ≤ i.c)
def badArg (k : Nat) (a : PArg) : Bool := decide (a.kind < 0 ∨ 2 < a.kind ∨ (a.kind = 1 ∧ (k : Int) ≤ a.val) ∨ (a.kind = 2 ∧ 4 ≤ a.val))
/-- What is wrong with the k-th part. -/
def faultL (code : List Ins) (args : List PArg) (k : Nat) : Int := if rightP code = false then 30 else if code.any highP = true then 30 else if args.any (badArg k) = true then 1 else 0
def sizeL (code : List Ins) (j : Nat) : Nat := if (code.getD j noIns).op = 20 ∧ j + 1 < code.length then 2 else 1
/-- How many instructions stand for the first ones. -/
def beforeL (code : List Ins) : Nat → Nat
  | 0 => 0
  | j + 1 => beforeL code j + sizeL code j
def usesOf (i : Ins) (r : Nat) : Bool := decide ((0 < regsOf i.op ∧ i.a = r) ∨ (1 < regsOf i.op ∧ i.b = r) ∨ (2 < regsOf i.op ∧ i.c = r))
def clearL (code : List Ins) : List Ins := ((List.range 16).filter fun r => code.any fun i => usesOf i r).map fun (r : Nat) => (⟨0, (r : Int), 0, 0, 0⟩ : Ins)
def oneL (code : List Ins) (args : List PArg) (k at_ j : Nat) : List Ins :=
  let i := code.getD j noIns
  if i.op = 17 ∨ i.op = 18 ∨ i.op = 19 then [{ i with imm := ((at_ + beforeL code i.imm.toNat : Nat) : Int) }]
  else if i.op = 8 then [handedP i.a (args.getD i.imm.toNat ⟨0, 0⟩)]
  else if i.op = 20 then ⟨1, 12 + (k : Int), i.a, 0, 0⟩ :: (if j + 1 < code.length then [⟨17, 0, 0, 0, ((at_ + beforeL code code.length : Nat) : Int)⟩] else [])
  else [i]
def onesL (code : List Ins) (args : List PArg) (k at_ n : Nat) : List Ins := (List.range n).flatMap (oneL code args k at_)
def startL (out : List Ins) (k : Nat) (code : List Ins) : List Ins := if k = 0 then out else out ++ clearL code
def addL (out : List Ins) (k : Nat) (code : List Ins) (args : List PArg) : List Ins :=
  startL out k code ++ onesL code args k (startL out k code).length code.length
def allL (l : List Prt) : Nat → List Ins
  | 0 => []
  | k + 1 => addL (allL l k) k (l.getD k ⟨none, 0, 0, [], []⟩).code (l.getD k ⟨none, 0, 0, [], []⟩).args
/-- The first fault. -/
def faultsL : List Prt → Nat → Int
  | [], _ => 0
  | p :: r, k => if faultL p.code p.args k ≠ 0 then faultL p.code p.args k else faultsL r (k + 1)
def wholeL (l : List Prt) : List Ins := allL l l.length ++ [⟨20, 11 + (l.length : Int), 0, 0, 0⟩]
def joinL (l : List Prt) : List Ins × Int :=
  if l.length = 0 then ([], 4) else if 4 < l.length then ([], 3) else if faultsL l 0 ≠ 0 then ([], faultsL l 0)
  else if 256 < (wholeL l).length then ([], 3) else (wholeL l, 0)
end Go.Proofs.Ytddaeaimimdonaa
