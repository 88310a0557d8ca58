import Derived.Test.YtjggmimaolddkaaOrAD
import Derived.Deep.QuietTactic
import Derived.BigQuiet
import Derived.IntWalk
import Derived.Maps.AppendAt
namespace Go.Proofs.Ytjggmimaolddkaa
open Go.RowKit
set_option linter.unusedVariables false
structure MSt where
 roots : List Int
 blocks : Int → Option (List Int)
structure MRun where
 st : MSt
 regs : List Int
 code : Int
 val : Int
 steps : Int
 writes : Int
 news : List Int
 pick : List Int
 pc : Int
 ended : Bool
def wrapU (x : Int) : Int := x % 18446744073709551616
def MRun.reg (r : MRun) (k : Int) : Int := r.regs.getD k.toNat 0
def MRun.put (r : MRun) (k v : Int) : MRun := { r with regs := r.regs.set k.toNat v }
def reckonP (i : Ins) (regs args : List Int) : Int :=
 if i.op = 0 then i.imm else if i.op = 1 then regs.getD i.b.toNat 0
 else if i.op = 2 then wrapU (regs.getD i.b.toNat 0 + regs.getD i.c.toNat 0)
 else if i.op = 3 then wrapU (regs.getD i.b.toNat 0 - regs.getD i.c.toNat 0)
 else if i.op = 4 then wrapU (regs.getD i.b.toNat 0 * regs.getD i.c.toNat 0)
 else if i.op = 5 then (if regs.getD i.c.toNat 0 = 0 then regs.getD i.b.toNat 0 else regs.getD i.b.toNat 0 % regs.getD i.c.toNat 0)
 else if i.op = 6 then (if regs.getD i.b.toNat 0 = regs.getD i.c.toNat 0 then 1 else 0)
 else if i.op = 7 then (if regs.getD i.b.toNat 0 < regs.getD i.c.toNat 0 then 1 else 0)
 else if i.op = 8 then args.getD i.imm.toNat 0 else 0
def payP (maxw op : Int) (r : MRun) : Option MRun := if maxw - r.writes < writesOf op then none else some { r with writes := r.writes + writesOf op }
def rootP (maxw : Int) (i : Ins) (r : MRun) : Int × MRun :=
 if 16 ≤ r.reg i.b then (44, r) else if i.op = 9 then (0, r.put i.a (r.st.roots.getD (r.reg i.b).toNat 0))
 else match payP maxw i.op r with
  | none => (42, r)
  | some r' => (0, { r' with st := { r.st with roots := r.st.roots.set (r.reg i.b).toNat (r.reg i.a) } })
def wordAt (i : Ins) (r : MRun) : Int := if i.op = 12 ∨ i.op = 14 then r.reg i.c else i.imm
def upd (f : Int → Option (List Int)) (h : Int) (v : Option (List Int)) : Int → Option (List Int) := fun y => if y = h then v else f y
def wordP (maxw : Int) (i : Ins) (r : MRun) : Int × MRun :=
 match r.st.blocks (r.reg i.b) with
 | none => (44, r)
 | some ws => if 8 ≤ wordAt i r then (44, r) else if i.op = 11 ∨ i.op = 12 then (0, r.put i.a (ws.getD (wordAt i r).toNat 0))
   else match payP maxw i.op r with
    | none => (42, r)
    | some r' => (0, { r' with st := { r.st with blocks := upd r.st.blocks (r.reg i.b) (some (ws.set (wordAt i r).toNat (r.reg i.a))) } })
def freshP (maxw : Int) (i : Ins) (r : MRun) : Int × MRun :=
 match payP maxw i.op r with
 | none => (42, r)
 | some r' => match r.pick with
   | [] => (43, r')
   | h :: rest => if (r.st.blocks h).isSome ∨ h = 0 ∨ 64 < h then (43, r')
     else (0, { r' with pick := rest, st := { r.st with blocks := upd r.st.blocks h (some zero8) }, news := r.news ++ [h], regs := r.regs.set i.a.toNat h })
def freeP (maxw : Int) (i : Ins) (r : MRun) : Int × MRun :=
 match r.st.blocks (r.reg i.a) with
 | none => (44, r)
 | some _ => match payP maxw i.op r with
   | none => (42, r)
   | some r' => (0, { r' with st := { r.st with blocks := upd r.st.blocks (r.reg i.a) none } })
def doP (args : List Int) (maxw : Int) (i : Ins) (r : MRun) : Int × MRun :=
 if i.op = 17 then (0, { r with pc := i.imm })
 else if i.op = 18 then (0, if r.reg i.a = 0 then { r with pc := i.imm } else r)
 else if i.op = 19 then (0, if r.reg i.a = 0 then r else { r with pc := i.imm })
 else if i.op = 20 then (0, { r with val := r.reg i.a, ended := true })
 else if i.op = 21 then (40, { r with val := i.imm })
 else if i.op = 9 ∨ i.op = 10 then rootP maxw i r
 else if i.op = 11 ∨ i.op = 12 ∨ i.op = 13 ∨ i.op = 14 then wordP maxw i r
 else if i.op = 15 then freshP maxw i r
 else if i.op = 16 then freeP maxw i r
 else (0, r.put i.a (reckonP i r.regs args))
def stepP (args : List Int) (maxw : Int) (i : Ins) (r : MRun) : Int × MRun := doP args maxw i { r with pc := r.pc + 1 }
def noIns : Ins := ⟨0, 0, 0, 0, 0⟩
def goP (l : List Ins) (args : List Int) (maxw : Int) : Nat → MRun → MRun
 | 0, r => { r with code := 41, val := 0 }
 | n + 1, r => match stepP args maxw (l.getD r.pc.toNat noIns) { r with steps := r.steps + 1 } with
   | (e, r') => if e ≠ 0 then { r' with code := e } else if r'.ended then r' else goP l args maxw n r'
def zero16 : List Int := [0, 0, 0, 0, 0, 0, 0, 0, 0, 0, 0, 0, 0, 0, 0, 0]
def startP (s : MSt) (pick : List Int) : MRun := { st := s, regs := zero16, code := 0, val := 0, steps := 0, writes := 0, news := [], pick := pick, pc := 0, ended := false }
def badP (s : MSt) (pick : List Int) : MRun := { startP s pick with code := 30 }
def runP (s : MSt) (l : List Ins) (args : List Int) (fuel maxw : Int) (pick : List Int) : MRun :=
 if rightP l then goP l args maxw fuel.toNat (startP s pick) else badP s pick
def afterP (s : MSt) (r : MRun) : MSt := if r.code = 0 then r.st else s
/-! ### in memory -/
abbrev u64s (l : List Int) : List Value := l.map (Value.int .u64)
structure RC where
 sb : Nat
 args : List Int
 regs : List Int
 maxw : Int
 pv : Value
 code : Int
 val : Int
 steps : Int
 writes : Int
 nv : Value
 pc : Int
 ended : Bool
def RC.tail (c : RC) : List Value := [.int .i64 c.maxw, c.pv, .int .i64 c.code, .int .u64 c.val, .int .i64 c.steps, .int .i64 c.writes, c.nv, .int .i64 c.pc, .bool c.ended]
def RC.cells (c : RC) : List Value := .pointer (some ⟨c.sb, 0, none⟩) :: (u64s c.args ++ (u64s c.regs ++ c.tail))
section
variable {c : RC} (ha : c.args.length = 4) (hr : c.regs.length = 16)
include ha in
theorem RC.at_reg {k : Nat} (hk : k < c.regs.length) : c.cells[5 + k]? = some (.int .u64 (c.regs.getD k 0)) := by
 rw [RC.cells, show 5 + k = (4 + k) + 1 by omega, List.getElem?_cons_succ, List.getElem?_append_right (by simp [ha]), List.getElem?_append_left (by simp [ha]; omega)]
 simp [ha, hk]
include ha in
theorem RC.at_arg {k : Nat} (hk : k < 4) : c.cells[1 + k]? = some (.int .u64 (c.args.getD k 0)) := by
 rw [RC.cells, show 1 + k = k + 1 by omega, List.getElem?_cons_succ, List.getElem?_append_left (by simp [ha]; omega)]
 simp [ha, hk]
include ha hr in
theorem RC.at_tail (j : Nat) : c.cells[21 + j]? = c.tail[j]? := by
 rw [RC.cells, show 21 + j = (20 + j) + 1 by omega, List.getElem?_cons_succ, List.getElem?_append_right (by simp [ha]; omega), List.getElem?_append_right (by simp [ha, hr]; omega)]
 simp [ha, hr]
 congr 1; omega
include ha in
theorem RC.set_reg {k : Nat} (hk : k < c.regs.length) (v : Int) : c.cells.set (5 + k) (.int .u64 v) = ({ c with regs := c.regs.set k v } : RC).cells := by
 rw [RC.cells, show 5 + k = (4 + k) + 1 by omega, List.set_cons_succ, List.set_append_right _ _ (by simp [ha]), List.set_append_left _ _ (by simp [ha]; omega)]
 simp [RC.cells, ha, List.map_set, RC.tail]
include ha hr in
theorem RC.set_tail (j : Nat) (v : Value) : c.cells.set (21 + j) v = .pointer (some ⟨c.sb, 0, none⟩) :: (u64s c.args ++ (u64s c.regs ++ c.tail.set j v)) := by
 rw [RC.cells, show 21 + j = (20 + j) + 1 by omega, List.set_cons_succ, List.set_append_right _ _ (by simp [ha]; omega), List.set_append_right _ _ (by simp [ha, hr]; omega)]
 simp [ha, hr]
 congr 1; omega
include ha hr in
theorem RC.set_pick (v : Value) : c.cells.set 22 v = ({ c with pv := v } : RC).cells := RC.set_tail ha hr 1 v
include ha hr in
theorem RC.set_code (v : Int) : c.cells.set 23 (.int .i64 v) = ({ c with code := v } : RC).cells := RC.set_tail ha hr 2 _
include ha hr in
theorem RC.set_val (v : Int) : c.cells.set 24 (.int .u64 v) = ({ c with val := v } : RC).cells := RC.set_tail ha hr 3 _
include ha hr in
theorem RC.set_steps (v : Int) : c.cells.set 25 (.int .i64 v) = ({ c with steps := v } : RC).cells := RC.set_tail ha hr 4 _
include ha hr in
theorem RC.set_writes (v : Int) : c.cells.set 26 (.int .i64 v) = ({ c with writes := v } : RC).cells := RC.set_tail ha hr 5 _
include ha hr in
theorem RC.set_news (v : Value) : c.cells.set 27 v = ({ c with nv := v } : RC).cells := RC.set_tail ha hr 6 v
include ha hr in
theorem RC.set_pc (v : Int) : c.cells.set 28 (.int .i64 v) = ({ c with pc := v } : RC).cells := RC.set_tail ha hr 7 _
include ha hr in
theorem RC.set_ended (v : Bool) : c.cells.set 29 (.bool v) = ({ c with ended := v } : RC).cells := RC.set_tail ha hr 8 _
end
def BkR (w : World) (g : Nat) (c : RC) : Prop := Bk w g 115 c.cells.toArray ∧ c.args.length = 4 ∧ c.regs.length = 16
theorem BkR.bk {w : World} {g : Nat} {c : RC} (h : BkR w g c) : Bk w g 115 c.cells.toArray := h.1
theorem BkR.reg {w : World} {g : Nat} {c : RC} (h : BkR w g c) {k : Nat} (hk : k < 16) : w.cell? ⟨g, 5 + k, none⟩ = some (.int .u64 (c.regs.getD k 0)) := by
 rw [h.1.cell]; simpa using RC.at_reg h.2.1 (by rw [h.2.2]; exact hk)
theorem BkR.tail {w : World} {g : Nat} {c : RC} (h : BkR w g c) (j : Nat) : w.cell? ⟨g, 21 + j, none⟩ = c.tail[j]? := by
 rw [h.1.cell]; simpa using RC.at_tail h.2.1 h.2.2 j
theorem BkR.setAny {w : World} {g : Nat} {c c' : RC} (h : BkR w g c) {k : Nat} {v : Value} (hs : c.cells.set k v = c'.cells) (ha : c'.args.length = 4) (hr : c'.regs.length = 16) : BkR (w.setCell ⟨g, k, none⟩ v) g c' := by
 refine ⟨?_, ha, hr⟩
 have := h.1.set_ k v
 rw [List.setIfInBounds_toArray, hs] at this
 exact this
end Go.Proofs.Ytjggmimaolddkaa
namespace Go.Proofs.Ytjggmimaolddkaa
open Go.RowKit
set_option linter.unusedVariables false
theorem grown_set (w : World) (g k : Nat) (v : Value) : w.grownBy (w.setCell ⟨g, k, none⟩ v) (some g) := by
 refine ⟨rfl, rfl, rfl, by simp [World.setCell], fun i hi hne => ?_⟩
 simp only [World.setCell]
 rw [Array.getElem?_modify, if_neg (fun e => hne (by rw [e]))]
theorem grown_drewN (w : World) (n : Nat) (row : Option Nat) : w.grownBy (w.drewN n) row := ⟨rfl, rfl, rfl, Nat.le_refl _, fun _ _ _ => rfl⟩
theorem grown_drew (w : World) (row : Option Nat) : w.grownBy w.drew row := ⟨rfl, rfl, rfl, Nat.le_refl _, fun _ _ _ => rfl⟩
theorem BkR.drewN {w : World} {g : Nat} {c : RC} (h : BkR w g c) (n : Nat) : BkR (w.drewN n) g c := h
theorem BkR.drew {w : World} {g : Nat} {c : RC} (h : BkR w g c) : BkR w.drew g c := h
theorem BkR.grown {w w' : World} {g : Nat} {c : RC} {row : Option Nat} (h : BkR w g c) (hg : w.grownBy w' row) (hne : row ≠ some g) : BkR w' g c := ⟨h.1.grown hg hne, h.2⟩
theorem BkR.alloc {w : World} {g : Nat} {c : RC} (h : BkR w g c) (o : Obj) : BkR (w.alloc o) g c := ⟨h.1.alloc o, h.2⟩
theorem BkR.lt {w : World} {g : Nat} {c : RC} (h : BkR w g c) : g < w.heap.size := h.1.lt
theorem bit_any (b : Bool) (w : World) : Calls Try.prog 68 #[.bool b] w fun e w' => e = .returned (.int .u64 (if b then 1 else 0)) ∧ w = w' := by
 cases b
 ·go_enter Try.func68, Try.ntmps68
  go_wp2
  go_ret
  exact ⟨rfl, rfl⟩
 ·go_enter Try.func68, Try.ntmps68
  go_wp2
  go_ret
  exact ⟨rfl, rfl⟩
theorem writesOf_bd (op : Int) : 0 ≤ writesOf op ∧ writesOf op ≤ 9 := by
 unfold writesOf
 constructor <;> (repeat (first | split | omega))
def PayPost (g : Nat) (c : RC) (op : Int) (w : World) (e : Ending) (w' : World) : Prop :=
 (if c.maxw - c.writes < writesOf op then e = .returned (.int .i64 42) ∧ BkR w' g c else e = .returned (.int .i64 0) ∧ BkR w' g { c with writes := c.writes + writesOf op }) ∧ w.grownBy w' (some g)
theorem PayPost.no {g : Nat} {c : RC} {op : Int} {w w' : World} (h : c.maxw - c.writes < writesOf op) (hb : BkR w' g c) (hg : w.grownBy w' (some g)) : PayPost g c op w (.returned (.int .i64 42)) w' := by
 refine ⟨?_, hg⟩
 rw [if_pos h]; exact ⟨rfl, hb⟩
theorem PayPost.yes {g : Nat} {c : RC} {op : Int} {w w' : World} (h : ¬ c.maxw - c.writes < writesOf op) (hb : BkR w' g { c with writes := c.writes + writesOf op }) (hg : w.grownBy w' (some g)) : PayPost g c op w (.returned (.int .i64 0)) w' := by
 refine ⟨?_, hg⟩
 rw [if_neg h]; exact ⟨rfl, hb⟩
set_option maxHeartbeats 2000000 in
theorem pay_any (g : Nat) (c : RC) (op : Int) (w : World) (h : BkR w g c) (hm : -9223372036854775808 ≤ c.maxw ∧ c.maxw ≤ 9223372036854775807) (hw : 0 ≤ c.writes ∧ c.writes ≤ 1000000000000) (hl : c.writes ≤ c.maxw ∨ c.writes = 0) :
 Calls Try.prog 67 #[.pointer (some ⟨g, 0, none⟩), .int .i64 op] w (PayPost g c op w) := by
 have HB := Lib.hid h
 have hbd := writesOf_bd op
 have k21 : w.cell? ⟨g, 21, none⟩ = some (.int .i64 c.maxw) := (h.tail 0).trans rfl
 have k26 : w.cell? ⟨g, 26, none⟩ = some (.int .i64 c.writes) := (h.tail 5).trans rfl
 have f26 := h.bk.frozen 26
 obtain ⟨M, hM⟩ : ∃ M, c.maxw = M := ⟨_, rfl⟩
 obtain ⟨W, hW⟩ : ∃ W, c.writes = W := ⟨_, rfl⟩
 obtain ⟨n, hn⟩ : ∃ n, writesOf op = n := ⟨_, rfl⟩
 rw [hM] at k21 hm hl
 rw [hW] at k26 hw hl
 rw [hn] at hbd
 have HM := Lib.hid hM
 have HW := Lib.hid hW
 have HN := Lib.hid hn
 have hs0 : -9223372036854775808 ≤ M - W := by omega
 have hs1 : M - W ≤ 9223372036854775807 := by omega
 have hwr : IntKind.i64.wrap (M - W) = M - W := IntWalk.i64_in _ (by omega)
 have hwr2 : IntKind.i64.wrap (W + n) = W + n := IntWalk.i64_in _ (by omega)
 clear h hM hW hn hl
 by_cases ht : M - W < n
 ·have hd : decide (n > M - W) = true := decide_eq_true ht
  have hd2 : decide (M - W < n) = true := decide_eq_true ht
  go_enter Try.func67, Try.ntmps67
  go_wp2_with fail
  refine (costs_any op _).mono ?_
  rintro e w1 ⟨rfl, rfl⟩
  rw [HN.out]
  go_wp2_with fail
  go_quiet (fail)
  go_wp2
  go_ret
  exact PayPost.no (by rw [HM.out, HW.out, HN.out]; omega) (HB.out.drewN _) (grown_drewN _ _ _)
 ·have hd : decide (n > M - W) = false := decide_eq_false ht
  have hd2 : decide (M - W < n) = false := decide_eq_false ht
  go_enter Try.func67, Try.ntmps67
  go_wp2_with fail
  refine (costs_any op _).mono ?_
  rintro e w1 ⟨rfl, rfl⟩
  rw [HN.out]
  go_wp2_with fail
  go_quiet (fail)
  go_wp2
  go_ret
  refine PayPost.yes (by rw [HM.out, HW.out, HN.out]; omega) ?_ ((grown_drewN _ _ _).trans (grown_set _ _ _ _))
  rw [HN.out, HW.out]
  exact (HB.out.drewN _).setAny (RC.set_writes HB.out.2.1 HB.out.2.2 _) HB.out.2.1 HB.out.2.2
theorem and15 : ∀ k : Fin 16, bits .and .i64 (k.val : Int) 15 = (k.val : Int) := by decide +kernel
theorem and3u : ∀ k : Fin 4, bits .and .u64 (k.val : Int) 3 = (k.val : Int) := by decide +kernel
def Ins.v (i : Ins) : Value := .agg #[.int .i64 i.op, .int .i64 i.a, .int .i64 i.b, .int .i64 i.c, .int .u64 i.imm]
theorem u64s_get {l : List Int} {k : Nat} (h : k < l.length) : (u64s l).toArray[k]? = some (.int .u64 (l.getD k 0)) := by simp [h]
theorem getD_u64 {l : List Int} (h : ∀ x ∈ l, U64 x) (k : Nat) : U64 (l.getD k 0) := by
 rw [List.getD_eq_getElem?_getD]
 cases hk : l[k]? with
 | none => exact ⟨by decide, by decide⟩
 | some x => exact h x (List.mem_of_getElem? hk)
set_option maxRecDepth 100000 in
set_option maxHeartbeats 4000000 in
theorem reckon_any (i : Ins) (regs args : List Int) (w : World) (hr : regs.length = 16) (ha : args.length = 4) (hu : ∀ x ∈ regs, U64 x) (hb : 0 ≤ i.b ∧ i.b < 16) (hc : 0 ≤ i.c ∧ i.c < 16) (hm : i.op = 8 → 0 ≤ i.imm ∧ i.imm < 4) :
 Calls Try.prog 56 #[i.v, .agg (u64s regs).toArray, .agg (u64s args).toArray] w fun e w' => e = .returned (.int .u64 (reckonP i regs args)) ∧ w.grownBy w' none := by
 obtain ⟨op, ia, ib, ic, imm⟩ := i
 simp only at hb hc hm
 obtain ⟨b, rfl⟩ : ∃ b : Nat, ib = (b : Int) := ⟨ib.toNat, by omega⟩
 obtain ⟨c, rfl⟩ : ∃ c : Nat, ic = (c : Int) := ⟨ic.toNat, by omega⟩
 have hb16 : b < 16 := by omega
 have hc16 : c < 16 := by omega
 have hab : bits .and .i64 (b : Int) 15 = (b : Int) := and15 ⟨b, hb16⟩
 have hac : bits .and .i64 (c : Int) 15 = (c : Int) := and15 ⟨c, hc16⟩
 obtain ⟨CR, hCR⟩ : ∃ CR, (u64s regs).toArray = CR := ⟨_, rfl⟩
 obtain ⟨CA, hCA⟩ : ∃ CA, (u64s args).toArray = CA := ⟨_, rfl⟩
 have sR : CR.size = 16 := by rw [← hCR]; simp [hr]
 have sA : CA.size = 4 := by rw [← hCA]; simp [ha]
 obtain ⟨X, hX⟩ : ∃ X, regs.getD b 0 = X := ⟨_, rfl⟩
 obtain ⟨Y, hY⟩ : ∃ Y, regs.getD c 0 = Y := ⟨_, rfl⟩
 have uX : U64 X := by rw [← hX]; exact getD_u64 hu b
 have uY : U64 Y := by rw [← hY]; exact getD_u64 hu c
 have gX : CR[b]? = some (.int .u64 X) := by rw [← hCR, ← hX]; exact u64s_get (by omega)
 have gY : CR[c]? = some (.int .u64 Y) := by rw [← hCR, ← hY]; exact u64s_get (by omega)
 obtain ⟨W3, hW3⟩ : ∃ W3, ((w.alloc (.cells #[.int .i64 op, .int .i64 ia, .int .i64 b, .int .i64 c, .int .u64 imm] 62)).alloc (.cells CR 50)).alloc (.cells CA 37) = W3 := ⟨_, rfl⟩
 have k1 : W3.cell? ⟨w.heap.size + 1, b, none⟩ = some (.int .u64 X) := by
  rw [← hW3]
  have h1 := ((Bk.new (w.alloc (.cells #[.int .i64 op, .int .i64 ia, .int .i64 b, .int .i64 c, .int .u64 imm] 62)) 50 CR).alloc (.cells CA 37)).cell b
  rw [gX] at h1
  simpa using h1
 have k2 : W3.cell? ⟨w.heap.size + 1, c, none⟩ = some (.int .u64 Y) := by
  rw [← hW3]
  have h1 := ((Bk.new (w.alloc (.cells #[.int .i64 op, .int .i64 ia, .int .i64 b, .int .i64 c, .int .u64 imm] 62)) 50 CR).alloc (.cells CA 37)).cell c
  rw [gY] at h1
  simpa using h1
 have k3 : ∀ j : Nat, j < 5 → W3.cell? ⟨w.heap.size, j, none⟩ = #[.int .i64 op, .int .i64 ia, .int .i64 b, .int .i64 c, .int .u64 imm][j]? := by
  intro j _
  rw [← hW3]
  exact (((Bk.new w 62 #[.int .i64 op, .int .i64 ia, .int .i64 b, .int .i64 c, .int .u64 imm]).alloc _).alloc _).cell j
 have q0 := (k3 0 (by omega)).trans rfl
 have q2 := (k3 2 (by omega)).trans rfl
 have q3 := (k3 3 (by omega)).trans rfl
 have q4 := (k3 4 (by omega)).trans rfl
 have hG : Hid (w.grownBy W3 none) := by show World.grownBy _ _ _; rw [← hW3]; exact ((World.grownBy_alloc _ _ _).trans (World.grownBy_alloc _ _ _)).trans (World.grownBy_alloc _ _ _)
 clear k3 gX gY
 have HW3 := Lib.hid hW3
 have HE : Hid (reckonP ⟨op, ia, b, c, imm⟩ regs args = if op = 0 then imm else if op = 1 then X else if op = 2 then wrapU (X + Y) else if op = 3 then wrapU (X - Y) else if op = 4 then wrapU (X * Y) else if op = 5 then (if Y = 0 then X else X % Y) else if op = 6 then (if X = Y then 1 else 0) else if op = 7 then (if X < Y then 1 else 0) else if op = 8 then args.getD imm.toNat 0 else 0) := by
  show _ = _
  rw [← hX, ← hY]; rfl
 have HA := Lib.hid hCA
 have HM := Lib.hid hm
 have HU := Lib.hid (And.intro uX uY)
 clear hW3 hX hY hu hm uX uY
 simp only [Ins.v]
 rw [hCR, hCA]
 clear hCR hCA
 go_enter Try.func56, Try.ntmps56
 go_wp2_with fail
 rw [HW3.out]
 go_quiet (fail)
 by_cases h0 : op = 0
 ·subst h0
  go_wp2
  go_ret
  exact ⟨ret_int HE.out.symm, hG.out.trans (grown_drewN _ _ _)⟩
 by_cases h1 : op = 1
 ·subst h1
  go_wp2
  go_ret
  exact ⟨ret_int HE.out.symm, hG.out.trans (grown_drewN _ _ _)⟩
 by_cases h2 : op = 2
 ·subst h2
  go_wp2
  go_ret
  exact ⟨ret_int (by rw [HE.out, wrapU, ← IntKind.wrap_u64]; rfl), hG.out.trans (grown_drewN _ _ _)⟩
 by_cases h3 : op = 3
 ·subst h3
  go_wp2
  go_ret
  exact ⟨ret_int (by rw [HE.out, wrapU, ← IntKind.wrap_u64]; rfl), hG.out.trans (grown_drewN _ _ _)⟩
 by_cases h4 : op = 4
 ·subst h4
  go_wp2
  go_ret
  exact ⟨ret_int (by rw [HE.out, wrapU, ← IntKind.wrap_u64]; rfl), hG.out.trans (grown_drewN _ _ _)⟩
 by_cases h5 : op = 5
 ·subst h5
  by_cases hy : Y = 0
  ·subst hy
   go_wp2
   go_ret
   exact ⟨ret_int (by rw [HE.out]; rfl), hG.out.trans (grown_drewN _ _ _)⟩
  ·have hy0 : (Y == 0) = false := by simpa using hy
   have HR : Hid (X.tmod Y = X % Y) := Int.tmod_eq_emod_of_nonneg HU.out.1.1
   go_wp2
   go_ret
   exact ⟨ret_int (by rw [HE.out]; simp [hy, HR.out]), hG.out.trans (grown_drewN _ _ _)⟩
 by_cases h6 : op = 6
 ·subst h6
  by_cases hy : X = Y
  ·have hd : (X == Y) = true := by simpa using hy
   have HF : Hid (reckonP ⟨6, ia, b, c, imm⟩ regs args = 1) := by show _ = _; rw [HE.out]; simp [hy]
   clear hy
   go_wp2_with fail
   refine (bit_any _ _).mono ?_
   rintro e w' ⟨rfl, rfl⟩
   go_wp2
   go_ret
   exact ⟨ret_int (by rw [HF.out]), hG.out.trans (grown_drewN _ _ _)⟩
  ·have hd : (X == Y) = false := by simpa using hy
   have HF : Hid (reckonP ⟨6, ia, b, c, imm⟩ regs args = 0) := by show _ = _; rw [HE.out]; simp [hy]
   clear hy
   go_wp2_with fail
   refine (bit_any _ _).mono ?_
   rintro e w' ⟨rfl, rfl⟩
   go_wp2
   go_ret
   exact ⟨ret_int (by rw [HF.out]), hG.out.trans (grown_drewN _ _ _)⟩
 by_cases h7 : op = 7
 ·subst h7
  by_cases hy : X < Y
  ·have hd : decide (X < Y) = true := decide_eq_true hy
   have HF : Hid (reckonP ⟨7, ia, b, c, imm⟩ regs args = 1) := by show _ = _; rw [HE.out]; simp [hy]
   go_wp2_with fail
   refine (bit_any _ _).mono ?_
   rintro e w' ⟨rfl, rfl⟩
   go_wp2
   go_ret
   exact ⟨ret_int (by rw [HF.out]), hG.out.trans (grown_drewN _ _ _)⟩
  ·have hd : decide (X < Y) = false := decide_eq_false hy
   have HF : Hid (reckonP ⟨7, ia, b, c, imm⟩ regs args = 0) := by show _ = _; rw [HE.out]; simp [hy]
   go_wp2_with fail
   refine (bit_any _ _).mono ?_
   rintro e w' ⟨rfl, rfl⟩
   go_wp2
   go_ret
   exact ⟨ret_int (by rw [HF.out]), hG.out.trans (grown_drewN _ _ _)⟩
 by_cases h8 : op = 8
 ·obtain ⟨hm0, hm4⟩ := HM.out h8
  subst h8
  obtain ⟨m, rfl⟩ : ∃ m : Nat, imm = (m : Int) := ⟨imm.toNat, by omega⟩
  have hm4' : m < 4 := by omega
  have ham : bits .and .u64 (m : Int) 3 = (m : Int) := and3u ⟨m, hm4'⟩
  obtain ⟨Z, hZ⟩ : ∃ Z, args.getD m 0 = Z := ⟨_, rfl⟩
  have k5 : W3.cell? ⟨w.heap.size + 1 + 1, m, none⟩ = some (.int .u64 Z) := by
   rw [← HW3.out]
   have h1 := (Bk.new ((w.alloc (.cells #[.int .i64 8, .int .i64 ia, .int .i64 b, .int .i64 c, .int .u64 m] 62)).alloc (.cells CR 50)) 37 CA).cell m
   rw [← HA.out, u64s_get (by omega), hZ, HA.out] at h1
   simpa using h1
  have HF : Hid (reckonP ⟨8, ia, b, c, m⟩ regs args = Z) := by show _ = _; rw [HE.out]; simpa using hZ
  clear hZ
  go_wp2
  go_ret
  exact ⟨ret_int HF.out.symm, hG.out.trans (grown_drewN _ _ _)⟩
 ·have HF : Hid (reckonP ⟨op, ia, b, c, imm⟩ regs args = 0) := by show _ = _; rw [HE.out]; simp [h0, h1, h2, h3, h4, h5, h6, h7, h8]
  go_wp2
  go_ret
  exact ⟨ret_int HF.out.symm, hG.out.trans (grown_drewN _ _ _)⟩
end Go.Proofs.Ytjggmimaolddkaa
