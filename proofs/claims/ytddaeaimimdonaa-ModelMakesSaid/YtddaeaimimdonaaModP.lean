/-
  Chapter 6, plain: what a program makes of roots and blocks; how a run lies in memory.
-/
import Derived.Test.YtddaeaimimdonaaChkF
import Derived.Test.YtddaeaimimdonaaMapB
namespace Go.Proofs.Ytddaeaimimdonaa
open Go.RowKit
set_option linter.unusedVariables false

/-- All roots, and what stands in the blocks, by handles. -/
structure MSt where
  roots : List Int
  blocks : Int → Option (List Int)
/-- A program that runs. -/
structure MRun where
  st : MSt
  regs : List Int
  code : Int
  val : Int
  steps : Int
  writes : Int
  news : List Int
  pick : List Int
  pc : Int
  ended : Bool
def wrapU (x : Int) : Int := x % 18446744073709551616
def MRun.reg (r : MRun) (k : Int) : Int := r.regs.getD k.toNat 0
def MRun.put (r : MRun) (k v : Int) : MRun := { r with regs := r.regs.set k.toNat v }
/-- What an instruction without roots and blocks makes of its register. -/
def reckonP (i : Ins) (regs args : List Int) : Int :=
  if i.op = 0 then i.imm else if i.op = 1 then regs.getD i.b.toNat 0
  else if i.op = 2 then wrapU (regs.getD i.b.toNat 0 + regs.getD i.c.toNat 0)
  else if i.op = 3 then wrapU (regs.getD i.b.toNat 0 - regs.getD i.c.toNat 0)
  else if i.op = 4 then wrapU (regs.getD i.b.toNat 0 * regs.getD i.c.toNat 0)
  else if i.op = 5 then (if regs.getD i.c.toNat 0 = 0 then regs.getD i.b.toNat 0 else regs.getD i.b.toNat 0 % regs.getD i.c.toNat 0)
  else if i.op = 6 then (if regs.getD i.b.toNat 0 = regs.getD i.c.toNat 0 then 1 else 0)
  else if i.op = 7 then (if regs.getD i.b.toNat 0 < regs.getD i.c.toNat 0 then 1 else 0)
  else if i.op = 8 then args.getD i.imm.toNat 0 else 0
/-- Words that are to be written are counted, if there are so many left. -/
def payP (maxw op : Int) (r : MRun) : Option MRun := if maxw - r.writes < writesOf op then none else some { r with writes := r.writes + writesOf op }
def rootP (maxw : Int) (i : Ins) (r : MRun) : Int × MRun :=
  if 16 ≤ r.reg i.b then (44, r) else if i.op = 9 then (0, r.put i.a (r.st.roots.getD (r.reg i.b).toNat 0))
  else match payP maxw i.op r with
    | none => (42, r)
    | some r' => (0, { r' with st := { r.st with roots := r.st.roots.set (r.reg i.b).toNat (r.reg i.a) } })
def wordAt (i : Ins) (r : MRun) : Int := if i.op = 12 ∨ i.op = 14 then r.reg i.c else i.imm
def upd (f : Int → Option (List Int)) (h : Int) (v : Option (List Int)) : Int → Option (List Int) := fun y => if y = h then v else f y
def wordP (maxw : Int) (i : Ins) (r : MRun) : Int × MRun :=
  match r.st.blocks (r.reg i.b) with
  | none => (44, r)
  | some ws => if 8 ≤ wordAt i r then (44, r) else if i.op = 11 ∨ i.op = 12 then (0, r.put i.a (ws.getD (wordAt i r).toNat 0))
    else match payP maxw i.op r with
      | none => (42, r)
      | some r' => (0, { r' with st := { r.st with blocks := upd r.st.blocks (r.reg i.b) (some (ws.set (wordAt i r).toNat (r.reg i.a))) } })
def freshP (maxw : Int) (i : Ins) (r : MRun) : Int × MRun :=
  match payP maxw i.op r with
  | none => (42, r)
  | some r' => match r.pick with
    | [] => (43, r')
    | h :: rest => if (r.st.blocks h).isSome ∨ h = 0 ∨ 64 < h then (43, r')
      else (0, { r' with pick := rest, st := { r.st with blocks := upd r.st.blocks h (some zero8) }, news := r.news ++ [h], regs := r.regs.set i.a.toNat h })
def freeP (maxw : Int) (i : Ins) (r : MRun) : Int × MRun :=
  match r.st.blocks (r.reg i.a) with
  | none => (44, r)
  | some _ => match payP maxw i.op r with
    | none => (42, r)
    | some r' => (0, { r' with st := { r.st with blocks := upd r.st.blocks (r.reg i.a) none } })
/-- An instruction: the error's number, and what it makes. -/
def doP (args : List Int) (maxw : Int) (i : Ins) (r : MRun) : Int × MRun :=
  if i.op = 17 then (0, { r with pc := i.imm })
  else if i.op = 18 then (0, if r.reg i.a = 0 then { r with pc := i.imm } else r)
  else if i.op = 19 then (0, if r.reg i.a = 0 then r else { r with pc := i.imm })
  else if i.op = 20 then (0, { r with val := r.reg i.a, ended := true })
  else if i.op = 21 then (40, { r with val := i.imm })
  else if i.op = 9 ∨ i.op = 10 then rootP maxw i r
  else if i.op = 11 ∨ i.op = 12 ∨ i.op = 13 ∨ i.op = 14 then wordP maxw i r
  else if i.op = 15 then freshP maxw i r
  else if i.op = 16 then freeP maxw i r
  else (0, r.put i.a (reckonP i r.regs args))
def stepP (args : List Int) (maxw : Int) (i : Ins) (r : MRun) : Int × MRun := doP args maxw i { r with pc := r.pc + 1 }
def noIns : Ins := ⟨0, 0, 0, 0, 0⟩
/-- So many instructions more at most. -/
def goP (l : List Ins) (args : List Int) (maxw : Int) : Nat → MRun → MRun
  | 0, r => { r with code := 41, val := 0 }
  | n + 1, r => match stepP args maxw (l.getD r.pc.toNat noIns) { r with steps := r.steps + 1 } with
    | (e, r') => if e ≠ 0 then { r' with code := e } else if r'.ended then r' else goP l args maxw n r'
def zero16 : List Int := [0, 0, 0, 0, 0, 0, 0, 0, 0, 0, 0, 0, 0, 0, 0, 0]
def startP (s : MSt) (pick : List Int) : MRun := { st := s, regs := zero16, code := 0, val := 0, steps := 0, writes := 0, news := [], pick := pick, pc := 0, ended := false }
def badP (s : MSt) (pick : List Int) : MRun := { startP s pick with code := 30 }
/-- A program is let run: what came of it. -/
def runP (s : MSt) (l : List Ins) (args : List Int) (fuel maxw : Int) (pick : List Int) : MRun :=
  if rightP l then goP l args maxw fuel.toNat (startP s pick) else badP s pick
/-- The state behind it: as ahead, unless it returned. -/
def afterP (s : MSt) (r : MRun) : MSt := if r.code = 0 then r.st else s

/-! ### in memory -/
abbrev u64s (l : List Int) : List Value := l.map (Value.int .u64)
/-- A run's cells. -/
structure RC where
  sb : Nat
  args : List Int
  regs : List Int
  maxw : Int
  pv : Value
  code : Int
  val : Int
  steps : Int
  writes : Int
  nv : Value
  pc : Int
  ended : Bool
def RC.tail (c : RC) : List Value := [.int .i64 c.maxw, c.pv, .int .i64 c.code, .int .u64 c.val, .int .i64 c.steps, .int .i64 c.writes, c.nv, .int .i64 c.pc, .bool c.ended]
def RC.cells (c : RC) : List Value := .pointer (some ⟨c.sb, 0, none⟩) :: (u64s c.args ++ (u64s c.regs ++ c.tail))
section
variable {c : RC} (ha : c.args.length = 4) (hr : c.regs.length = 16)
include ha in
theorem RC.at_reg {k : Nat} (hk : k < c.regs.length) : c.cells[5 + k]? = some (.int .u64 (c.regs.getD k 0)) := by
  rw [RC.cells, show 5 + k = (4 + k) + 1 by omega, List.getElem?_cons_succ, List.getElem?_append_right (by simp [ha]), List.getElem?_append_left (by simp [ha]; omega)]
  simp [ha, hk]
include ha in
theorem RC.at_arg {k : Nat} (hk : k < 4) : c.cells[1 + k]? = some (.int .u64 (c.args.getD k 0)) := by
  rw [RC.cells, show 1 + k = k + 1 by omega, List.getElem?_cons_succ, List.getElem?_append_left (by simp [ha]; omega)]
  simp [ha, hk]
include ha hr in
theorem RC.at_tail (j : Nat) : c.cells[21 + j]? = c.tail[j]? := by
  rw [RC.cells, show 21 + j = (20 + j) + 1 by omega, List.getElem?_cons_succ, List.getElem?_append_right (by simp [ha]; omega), List.getElem?_append_right (by simp [ha, hr]; omega)]
  simp [ha, hr]
  congr 1; omega
include ha in
theorem RC.set_reg {k : Nat} (hk : k < c.regs.length) (v : Int) : c.cells.set (5 + k) (.int .u64 v) = ({ c with regs := c.regs.set k v } : RC).cells := by
  rw [RC.cells, show 5 + k = (4 + k) + 1 by omega, List.set_cons_succ, List.set_append_right _ _ (by simp [ha]), List.set_append_left _ _ (by simp [ha]; omega)]
  simp [RC.cells, ha, List.map_set, RC.tail]
include ha hr in
theorem RC.set_tail (j : Nat) (v : Value) : c.cells.set (21 + j) v = .pointer (some ⟨c.sb, 0, none⟩) :: (u64s c.args ++ (u64s c.regs ++ c.tail.set j v)) := by
  rw [RC.cells, show 21 + j = (20 + j) + 1 by omega, List.set_cons_succ, List.set_append_right _ _ (by simp [ha]; omega), List.set_append_right _ _ (by simp [ha, hr]; omega)]
  simp [ha, hr]
  congr 1; omega
include ha hr in
theorem RC.set_pick (v : Value) : c.cells.set 22 v = ({ c with pv := v } : RC).cells := RC.set_tail ha hr 1 v
include ha hr in
theorem RC.set_code (v : Int) : c.cells.set 23 (.int .i64 v) = ({ c with code := v } : RC).cells := RC.set_tail ha hr 2 _
include ha hr in
theorem RC.set_val (v : Int) : c.cells.set 24 (.int .u64 v) = ({ c with val := v } : RC).cells := RC.set_tail ha hr 3 _
include ha hr in
theorem RC.set_steps (v : Int) : c.cells.set 25 (.int .i64 v) = ({ c with steps := v } : RC).cells := RC.set_tail ha hr 4 _
include ha hr in
theorem RC.set_writes (v : Int) : c.cells.set 26 (.int .i64 v) = ({ c with writes := v } : RC).cells := RC.set_tail ha hr 5 _
include ha hr in
theorem RC.set_news (v : Value) : c.cells.set 27 v = ({ c with nv := v } : RC).cells := RC.set_tail ha hr 6 v
include ha hr in
theorem RC.set_pc (v : Int) : c.cells.set 28 (.int .i64 v) = ({ c with pc := v } : RC).cells := RC.set_tail ha hr 7 _
include ha hr in
theorem RC.set_ended (v : Bool) : c.cells.set 29 (.bool v) = ({ c with ended := v } : RC).cells := RC.set_tail ha hr 8 _
end
/-- Block g of w is a run that has these cells. -/
def BkR (w : World) (g : Nat) (c : RC) : Prop := Bk w g 89 c.cells.toArray ∧ c.args.length = 4 ∧ c.regs.length = 16
theorem BkR.bk {w : World} {g : Nat} {c : RC} (h : BkR w g c) : Bk w g 89 c.cells.toArray := h.1
theorem BkR.reg {w : World} {g : Nat} {c : RC} (h : BkR w g c) {k : Nat} (hk : k < 16) : w.cell? ⟨g, 5 + k, none⟩ = some (.int .u64 (c.regs.getD k 0)) := by
  rw [h.1.cell]; simpa using RC.at_reg h.2.1 (by rw [h.2.2]; exact hk)
theorem BkR.tail {w : World} {g : Nat} {c : RC} (h : BkR w g c) (j : Nat) : w.cell? ⟨g, 21 + j, none⟩ = c.tail[j]? := by
  rw [h.1.cell]; simpa using RC.at_tail h.2.1 h.2.2 j
theorem BkR.setAny {w : World} {g : Nat} {c c' : RC} (h : BkR w g c) {k : Nat} {v : Value} (hs : c.cells.set k v = c'.cells) (ha : c'.args.length = 4) (hr : c'.regs.length = 16) : BkR (w.setCell ⟨g, k, none⟩ v) g c' := by
  refine ⟨?_, ha, hr⟩
  have := h.1.set_ k v
  rw [List.setIfInBounds_toArray, hs] at this
  exact this
end Go.Proofs.Ytddaeaimimdonaa
