import Derived.Test.YtjggmimaolddkaaOrAH
import Derived.RegionTactic
import Derived.Deep.RegionHeld3
import Derived.Deep.RegionLaw
import Derived.Carry
namespace Go.Proofs.Ytjggmimaolddkaa
open Go.RowKit
set_option linter.unusedVariables false
section
variable {w : World} {B NB g : Nat} {args : List Int} {maxw : Int} {r : MRun} {sb mb n : Nat} {pA : Option Addr} {pc_ : Nat} {nv : Value}
theorem RunIn.setPc (h : RunIn w B NB g args maxw r sb mb n pA pc_ nv) (x : Int) : RunIn (w.setCell ⟨g, 28, none⟩ (.int .i64 x)) B NB g args maxw { r with pc := x } sb mb n pA pc_ nv :=
 h.self (r' := { r with pc := x }) (grown_set _ _ _ _) (h.bk.setAny (RC.set_pc h.bk.2.1 h.bk.2.2 x) h.bk.2.1 h.bk.2.2) rfl rfl rfl
theorem RunIn.setVal (h : RunIn w B NB g args maxw r sb mb n pA pc_ nv) (x : Int) : RunIn (w.setCell ⟨g, 24, none⟩ (.int .u64 x)) B NB g args maxw { r with val := x } sb mb n pA pc_ nv :=
 h.self (r' := { r with val := x }) (grown_set _ _ _ _) (h.bk.setAny (RC.set_val h.bk.2.1 h.bk.2.2 x) h.bk.2.1 h.bk.2.2) rfl rfl rfl
theorem RunIn.setEnded (h : RunIn w B NB g args maxw r sb mb n pA pc_ nv) (x : Bool) : RunIn (w.setCell ⟨g, 29, none⟩ (.bool x)) B NB g args maxw { r with ended := x } sb mb n pA pc_ nv :=
 h.self (r' := { r with ended := x }) (grown_set _ _ _ _) (h.bk.setAny (RC.set_ended h.bk.2.1 h.bk.2.2 x) h.bk.2.1 h.bk.2.2) rfl rfl rfl
end
theorem DoPost2.of_root {B NB g : Nat} {args : List Int} {maxw : Int} {p : Int × MRun} {w : World} {e : Ending} {w' : World} (h : DoPost B NB g args maxw p w e w') : DoPost2 B NB g args maxw p w e w' := by
 obtain ⟨h1, ⟨sb, mb, n, pA, pc_, nv, h2⟩, h3⟩ := h
 exact ⟨h1, ⟨_, _, _, _, _, _, h2.wide (Nat.le_succ _)⟩, h3⟩
theorem sixteen {l : List Int} (h : l.length = 16) : ∃ z0 z1 z2 z3 z4 z5 z6 z7 z8 z9 z10 z11 z12 z13 z14 z15, l = [z0, z1, z2, z3, z4, z5, z6, z7, z8, z9, z10, z11, z12, z13, z14, z15] := by
 match l, h with
 | [z0, z1, z2, z3, z4, z5, z6, z7, z8, z9, z10, z11, z12, z13, z14, z15], _ => exact ⟨z0, z1, z2, z3, z4, z5, z6, z7, z8, z9, z10, z11, z12, z13, z14, z15, rfl⟩
theorem four {l : List Int} (h : l.length = 4) : ∃ y0 y1 y2 y3, l = [y0, y1, y2, y3] := by
 match l, h with
 | [y0, y1, y2, y3], _ => exact ⟨y0, y1, y2, y3, rfl⟩
theorem regAt {w : World} {g sb : Nat} {args : List Int} {maxw : Int} {pv nv : Value} {r : MRun} (h : BkR w g (rc sb args maxw pv nv r)) {l : List Int} (hl : r.regs = l) (k : Nat) {z : Int} (hz : l[k]? = some z) : w.cell? ⟨g, 5 + k, none⟩ = some (.int .u64 z) := by
 have hk : k < r.regs.length := by rw [hl]; exact (List.getElem?_eq_some_iff.1 hz).1
 have := h.reg (k := k) (by have := h.2.2; show k < 16; rw [← this]; exact hk)
 rw [this]
 show some (Value.int .u64 (r.regs.getD k 0)) = _
 rw [hl, List.getD_eq_getElem?_getD, hz]; rfl
theorem argAt {w : World} {g sb : Nat} {args : List Int} {maxw : Int} {pv nv : Value} {r : MRun} (h : BkR w g (rc sb args maxw pv nv r)) {l : List Int} (hl : args = l) (k : Nat) {z : Int} (hz : l[k]? = some z) : w.cell? ⟨g, 1 + k, none⟩ = some (.int .u64 z) := by
 have hk : k < 4 := by have := h.2.1; have h4 : args.length = 4 := this; rw [hl] at h4; rw [← h4]; exact (List.getElem?_eq_some_iff.1 hz).1
 have h1 := h.bk.cell (1 + k)
 rw [h1, List.getElem?_toArray, RC.at_arg h.2.1 hk]
 show some (Value.int .u64 (args.getD k 0)) = _
 rw [hl, List.getD_eq_getElem?_getD, hz]; rfl
structure InsOk (i : Ins) : Prop where
 regs : RegsOk i
 op : 0 ≤ i.op ∧ i.op ≤ 21
 imm : U64 i.imm
 arg : i.op = 8 → i.imm < 4
 goes : 17 ≤ i.op → i.op ≤ 19 → i.imm ≤ 256
set_option maxRecDepth 100000 in
set_option maxHeartbeats 16000000 in
theorem step_any (B NB g : Nat) (args : List Int) (maxw : Int) (i : Ins) (r : MRun) (sb mb n : Nat) (pA : Option Addr) (pc_ : Nat) (nv : Value) (w : World) (h : RunIn w B NB g args maxw r sb mb n pA pc_ nv) (hok : ROk maxw r) (hi : InsOk i) (hNB : NB < 1000000000000) (hnl : r.news.length ≤ 1000000000) (hpl : r.pick.length ≤ 1000000000) (hpc : 0 ≤ r.pc ∧ r.pc ≤ 1000) :
 Calls Try.prog 40 #[.pointer (some ⟨g, 0, none⟩), i.v] w (DoPost2 B NB g args maxw (stepP args maxw i r) w) := by
 obtain ⟨op, ia, ib, ic, imm⟩ := i
 have HIO := Lib.hid hi
 obtain ⟨⟨⟨a0, a1⟩, ⟨b0, b1⟩, ⟨c0, c1⟩⟩, ⟨o0, o1⟩, him, harg, hgoes⟩ := hi
 simp only at a0 a1 b0 b1 c0 c1 o0 o1 him harg hgoes
 obtain ⟨a, rfl⟩ : ∃ a : Nat, ia = (a : Int) := ⟨ia.toNat, by omega⟩
 obtain ⟨b, rfl⟩ : ∃ b : Nat, ib = (b : Int) := ⟨ib.toNat, by omega⟩
 obtain ⟨c, rfl⟩ : ∃ c : Nat, ic = (c : Int) := ⟨ic.toNat, by omega⟩
 have ha16 : a < 16 := by omega
 obtain ⟨W1, hW1⟩ : ∃ W1, w.alloc (.cells #[.int .i64 op, .int .i64 a, .int .i64 b, .int .i64 c, .int .u64 imm] 62) = W1 := ⟨_, rfl⟩
 have HG1 : Hid (w.grownBy W1 none) := by show World.grownBy _ _ _; rw [← hW1]; exact World.grownBy_alloc _ _ _
 have hI : Bk W1 w.heap.size 62 #[.int .i64 op, .int .i64 a, .int .i64 b, .int .i64 c, .int .u64 imm] := by rw [← hW1]; exact Bk.new w _ _
 have HP := Lib.hid h.pos
 have HNg : Hid (g ≠ w.heap.size) := fun e => by have := h.lt.1; omega
 have HR1 := Lib.hid (h.more HG1.out)
 have HW1 := Lib.hid hW1
 obtain ⟨p, hp⟩ : ∃ p, r.pc = p := ⟨_, rfl⟩
 have k28 : W1.cell? ⟨g, 28, none⟩ = some (.int .i64 p) := by rw [← hp]; exact (HR1.out.bk.tail 7).trans rfl
 have f28 := HR1.out.bk.bk.frozen 28
 have hr2 := HR1.out.setPc (r.pc + 1)
 rw [hp] at hr2 hpc
 obtain ⟨r2, hr2e⟩ : ∃ r2 : MRun, { r with pc := p + 1 } = r2 := ⟨_, rfl⟩
 have HSt : Hid (stepP args maxw ⟨op, a, b, c, imm⟩ r = doP args maxw ⟨op, a, b, c, imm⟩ r2) := by show _ = _; rw [stepP, hp, hr2e]
 rw [hr2e] at hr2
 have HK : Hid (ROk maxw r2) := by
  show ROk maxw r2
  rw [← hr2e]; exact ⟨hok.regs, hok.roots, hok.blocks, hok.pick, hok.w0, hok.w1, hok.mw⟩
 have HL : Hid (r2.news.length ≤ 1000000000 ∧ r2.pick.length ≤ 1000000000) := by
  show _ ∧ _
  rw [← hr2e]; exact ⟨hnl, hpl⟩
 obtain ⟨W2, hW2⟩ : ∃ W2, W1.setCell ⟨g, 28, none⟩ (.int .i64 (p + 1)) = W2 := ⟨_, rfl⟩
 have HG2 : Hid (W1.grownBy W2 (some g)) := by show World.grownBy _ _ _; rw [← hW2]; exact grown_set _ _ _ _
 have HW2 := Lib.hid hW2
 rw [hW2] at hr2
 have HR := Lib.hid hr2
 have HB2 := Lib.hid ((Below.refl B w).grown (row := some g) ((HG1.out.but _).trans HG2.out) HP.out (fun k hk => by cases hk; exact HR.out.bg))
 have HI : Hid (Bk W2 w.heap.size 62 #[.int .i64 op, .int .i64 a, .int .i64 b, .int .i64 c, .int .u64 imm]) := hI.grown HG2.out (fun e => HNg.out (Option.some.inj e))
 have q0 : W2.cell? ⟨w.heap.size, 0, none⟩ = some (.int .i64 op) := (HI.out.cell 0).trans rfl
 have q1 : W2.cell? ⟨w.heap.size, 1, none⟩ = some (.int .i64 a) := (HI.out.cell 1).trans rfl
 have q2 : W2.cell? ⟨w.heap.size, 2, none⟩ = some (.int .i64 b) := (HI.out.cell 2).trans rfl
 have q3 : W2.cell? ⟨w.heap.size, 3, none⟩ = some (.int .i64 c) := (HI.out.cell 3).trans rfl
 have q4 : W2.cell? ⟨w.heap.size, 4, none⟩ = some (.int .u64 imm) := (HI.out.cell 4).trans rfl
 obtain ⟨X, hX⟩ : ∃ X, r2.regs.getD a 0 = X := ⟨_, rfl⟩
 have kX : W2.cell? ⟨g, 5 + a, none⟩ = some (.int .u64 X) := by rw [← hX]; exact HR.out.bk.reg ha16
 have fX := HR.out.bk.bk.frozen (5 + a)
 have k28b : W2.cell? ⟨g, 28, none⟩ = some (.int .i64 r2.pc) := (HR.out.bk.tail 7).trans rfl
 have k24 : W2.cell? ⟨g, 24, none⟩ = some (.int .u64 r2.val) := (HR.out.bk.tail 3).trans rfl
 have k29 : W2.cell? ⟨g, 29, none⟩ = some (.bool r2.ended) := (HR.out.bk.tail 8).trans rfl
 have f28b := HR.out.bk.bk.frozen 28
 have f24 := HR.out.bk.bk.frozen 24
 have f29 := HR.out.bk.bk.frozen 29
 have HX : Hid (r2.reg (a : Int) = X) := hX
 have HIm := Lib.hid him
 have HAr := Lib.hid harg
 obtain ⟨i0, i1⟩ := him
 clear hW1 hI h hok hp hr2 hr2e hW2 hX hnl hpl harg
 simp only [Ins.v]
 go_enter Try.func40, Try.ntmps40
 go_upto_region 1 with fail
 rw [HW1.out]
 go_upto_region 2 with fail
 rw [HW2.out]
 clear k28 f28
 by_cases h17 : op = 17
 ·subst h17
  have hg := hgoes (by decide) (by decide)
  have HE : Hid (doP args maxw ⟨17, a, b, c, imm⟩ r2 = (0, { r2 with pc := imm })) := rfl
  go_wp2
  go_ret
  rw [HSt.out, HE.out]
  exact DoPost2.mk rfl (HR.out.setPc imm) (HB2.out.setCell HR.out.bg _)
 by_cases h18 : op = 18
 ·subst h18
  have hg := hgoes (by decide) (by decide)
  by_cases hz : X = 0
  ·have hb : (X == 0) = true := by simpa using hz
   have hb2 : (X != 0) = false := by simpa using hz
   have HE : Hid (doP args maxw ⟨18, a, b, c, imm⟩ r2 = (0, { r2 with pc := imm })) := by
    show _ = _
    show (0, if r2.reg (a : Int) = 0 then _ else _) = _
    rw [HX.out, if_pos hz]
   clear hz
   go_wp2_with fail
   go_quiet (fail)
   go_wp2
   go_ret
   rw [HSt.out, HE.out]
   exact DoPost2.mk rfl ((HR.out.more (grown_drewN _ _ _)).setPc imm) ((HB2.out.trans ((Below.refl _ _).grown (grown_drewN _ _ none) HR.out.pos (by simp))).setCell HR.out.bg _)
  ·have hb : (X == 0) = false := by simpa using hz
   have hb2 : (X != 0) = true := by simpa using hz
   have HE : Hid (doP args maxw ⟨18, a, b, c, imm⟩ r2 = (0, r2)) := by
    show _ = _
    show (0, if r2.reg (a : Int) = 0 then _ else _) = _
    rw [HX.out, if_neg hz]
   clear hz
   go_wp2_with fail
   go_quiet (fail)
   go_wp2
   go_ret
   rw [HSt.out, HE.out]
   exact DoPost2.mk rfl (HR.out.more (grown_drewN _ _ _)) (HB2.out.trans ((Below.refl _ _).grown (grown_drewN _ _ none) HR.out.pos (by simp)))
 by_cases h19 : op = 19
 ·subst h19
  have hg := hgoes (by decide) (by decide)
  by_cases hz : X = 0
  ·have hb : (X == 0) = true := by simpa using hz
   have hb2 : (X != 0) = false := by simpa using hz
   have HE : Hid (doP args maxw ⟨19, a, b, c, imm⟩ r2 = (0, r2)) := by
    show _ = _
    show (0, if r2.reg (a : Int) = 0 then _ else _) = _
    rw [HX.out, if_pos hz]
   clear hz
   go_wp2_with fail
   go_quiet (fail)
   go_wp2
   go_ret
   rw [HSt.out, HE.out]
   exact DoPost2.mk rfl (HR.out.more (grown_drewN _ _ _)) (HB2.out.trans ((Below.refl _ _).grown (grown_drewN _ _ none) HR.out.pos (by simp)))
  ·have hb : (X == 0) = false := by simpa using hz
   have hb2 : (X != 0) = true := by simpa using hz
   have HE : Hid (doP args maxw ⟨19, a, b, c, imm⟩ r2 = (0, { r2 with pc := imm })) := by
    show _ = _
    show (0, if r2.reg (a : Int) = 0 then _ else _) = _
    rw [HX.out, if_neg hz]
   clear hz
   go_wp2_with fail
   go_quiet (fail)
   go_wp2
   go_ret
   rw [HSt.out, HE.out]
   exact DoPost2.mk rfl ((HR.out.more (grown_drewN _ _ _)).setPc imm) ((HB2.out.trans ((Below.refl _ _).grown (grown_drewN _ _ none) HR.out.pos (by simp))).setCell HR.out.bg _)
 by_cases h20 : op = 20
 ·subst h20
  have HE : Hid (doP args maxw ⟨20, a, b, c, imm⟩ r2 = (0, { r2 with val := X, ended := true })) := by
   show _ = _
   rw [← HX.out]; rfl
  go_wp2_with fail
  go_region
  all_goals
   go_wp2
   go_ret
   rw [HSt.out, HE.out]
   first
    | exact DoPost2.mk rfl (((HR.out.setVal X).setEnded true).more (grown_drew _ _)) (((HB2.out.setCell HR.out.bg _).setCell HR.out.bg _).trans ((Below.refl _ _).grown (grown_drew _ none) (((HR.out.setVal X).setEnded true).pos) (by simp)))
    | exact DoPost2.mk rfl (((HR.out.setEnded true).setVal X).more (grown_drew _ _)) (((HB2.out.setCell HR.out.bg _).setCell HR.out.bg _).trans ((Below.refl _ _).grown (grown_drew _ none) (((HR.out.setEnded true).setVal X).pos) (by simp)))
 by_cases h21 : op = 21
 ·subst h21
  have HE : Hid (doP args maxw ⟨21, a, b, c, imm⟩ r2 = (40, { r2 with val := imm })) := rfl
  go_wp2
  go_ret
  rw [HSt.out, HE.out]
  exact DoPost2.mk rfl (HR.out.setVal imm) (HB2.out.setCell HR.out.bg _)
 by_cases h9 : op = 9
 ·subst h9
  have HE : Hid (doP args maxw ⟨9, a, b, c, imm⟩ r2 = rootP maxw ⟨9, a, b, c, imm⟩ r2) := rfl
  go_wp2_with fail
  refine (root_any B NB g args maxw ⟨9, a, b, c, imm⟩ r2 sb mb n pA pc_ nv _ HR.out HK.out HIO.out.regs (by simp)).mono ?_
  intro e W3 hp3
  have hp4 := DoPost2.of_root hp3
  obtain ⟨rfl, hr3, hb3⟩ := hp4
  have HR3 := Lib.hid hr3
  have HB3 := Lib.hid (HB2.out.trans hb3)
  clear hp3 hr3 hb3
  go_wp2
  go_ret
  rw [HSt.out, HE.out]
  exact ⟨rfl, HR3.out, HB3.out⟩
 by_cases h10 : op = 10
 ·subst h10
  have HE : Hid (doP args maxw ⟨10, a, b, c, imm⟩ r2 = rootP maxw ⟨10, a, b, c, imm⟩ r2) := rfl
  go_wp2_with fail
  refine (root_any B NB g args maxw ⟨10, a, b, c, imm⟩ r2 sb mb n pA pc_ nv _ HR.out HK.out HIO.out.regs (by simp)).mono ?_
  intro e W3 hp3
  have hp4 := DoPost2.of_root hp3
  obtain ⟨rfl, hr3, hb3⟩ := hp4
  have HR3 := Lib.hid hr3
  have HB3 := Lib.hid (HB2.out.trans hb3)
  clear hp3 hr3 hb3
  go_wp2
  go_ret
  rw [HSt.out, HE.out]
  exact ⟨rfl, HR3.out, HB3.out⟩
 by_cases h11 : op = 11
 ·subst h11
  have HE : Hid (doP args maxw ⟨11, a, b, c, imm⟩ r2 = wordP maxw ⟨11, a, b, c, imm⟩ r2) := rfl
  go_wp2_with fail
  refine (word_any B NB g args maxw ⟨11, a, b, c, imm⟩ r2 sb mb n pA pc_ nv _ HR.out HK.out HIO.out.regs HIm.out hNB (by simp)).mono ?_
  intro e W3 hp3
  have hp4 := hp3
  obtain ⟨rfl, hr3, hb3⟩ := hp4
  have HR3 := Lib.hid hr3
  have HB3 := Lib.hid (HB2.out.trans hb3)
  clear hp3 hr3 hb3
  go_wp2
  go_ret
  rw [HSt.out, HE.out]
  exact ⟨rfl, HR3.out, HB3.out⟩
 by_cases h12 : op = 12
 ·subst h12
  have HE : Hid (doP args maxw ⟨12, a, b, c, imm⟩ r2 = wordP maxw ⟨12, a, b, c, imm⟩ r2) := rfl
  go_wp2_with fail
  refine (word_any B NB g args maxw ⟨12, a, b, c, imm⟩ r2 sb mb n pA pc_ nv _ HR.out HK.out HIO.out.regs HIm.out hNB (by simp)).mono ?_
  intro e W3 hp3
  have hp4 := hp3
  obtain ⟨rfl, hr3, hb3⟩ := hp4
  have HR3 := Lib.hid hr3
  have HB3 := Lib.hid (HB2.out.trans hb3)
  clear hp3 hr3 hb3
  go_wp2
  go_ret
  rw [HSt.out, HE.out]
  exact ⟨rfl, HR3.out, HB3.out⟩
 by_cases h13 : op = 13
 ·subst h13
  have HE : Hid (doP args maxw ⟨13, a, b, c, imm⟩ r2 = wordP maxw ⟨13, a, b, c, imm⟩ r2) := rfl
  go_wp2_with fail
  refine (word_any B NB g args maxw ⟨13, a, b, c, imm⟩ r2 sb mb n pA pc_ nv _ HR.out HK.out HIO.out.regs HIm.out hNB (by simp)).mono ?_
  intro e W3 hp3
  have hp4 := hp3
  obtain ⟨rfl, hr3, hb3⟩ := hp4
  have HR3 := Lib.hid hr3
  have HB3 := Lib.hid (HB2.out.trans hb3)
  clear hp3 hr3 hb3
  go_wp2
  go_ret
  rw [HSt.out, HE.out]
  exact ⟨rfl, HR3.out, HB3.out⟩
 by_cases h14 : op = 14
 ·subst h14
  have HE : Hid (doP args maxw ⟨14, a, b, c, imm⟩ r2 = wordP maxw ⟨14, a, b, c, imm⟩ r2) := rfl
  go_wp2_with fail
  refine (word_any B NB g args maxw ⟨14, a, b, c, imm⟩ r2 sb mb n pA pc_ nv _ HR.out HK.out HIO.out.regs HIm.out hNB (by simp)).mono ?_
  intro e W3 hp3
  have hp4 := hp3
  obtain ⟨rfl, hr3, hb3⟩ := hp4
  have HR3 := Lib.hid hr3
  have HB3 := Lib.hid (HB2.out.trans hb3)
  clear hp3 hr3 hb3
  go_wp2
  go_ret
  rw [HSt.out, HE.out]
  exact ⟨rfl, HR3.out, HB3.out⟩
 by_cases h15 : op = 15
 ·subst h15
  have HE : Hid (doP args maxw ⟨15, a, b, c, imm⟩ r2 = freshP maxw ⟨15, a, b, c, imm⟩ r2) := rfl
  go_wp2_with fail
  refine (fresh_any B NB g args maxw a b c imm r2 sb mb n pA pc_ nv _ HR.out HK.out ha16 hNB HL.out.1 HL.out.2).mono ?_
  intro e W3 hp3
  have hp4 := hp3
  obtain ⟨rfl, hr3, hb3⟩ := hp4
  have HR3 := Lib.hid hr3
  have HB3 := Lib.hid (HB2.out.trans hb3)
  clear hp3 hr3 hb3
  go_wp2
  go_ret
  rw [HSt.out, HE.out]
  exact ⟨rfl, HR3.out, HB3.out⟩
 by_cases h16 : op = 16
 ·subst h16
  have HE : Hid (doP args maxw ⟨16, a, b, c, imm⟩ r2 = freeP maxw ⟨16, a, b, c, imm⟩ r2) := rfl
  go_wp2_with fail
  refine (free_any B NB g args maxw a b c imm r2 sb mb n pA pc_ nv _ HR.out HK.out ha16).mono ?_
  intro e W3 hp3
  have hp4 := hp3
  obtain ⟨rfl, hr3, hb3⟩ := hp4
  have HR3 := Lib.hid hr3
  have HB3 := Lib.hid (HB2.out.trans hb3)
  clear hp3 hr3 hb3
  go_wp2
  go_ret
  rw [HSt.out, HE.out]
  exact ⟨rfl, HR3.out, HB3.out⟩
 have HE : Hid (doP args maxw ⟨op, a, b, c, imm⟩ r2 = (0, r2.put a (reckonP ⟨op, a, b, c, imm⟩ r2.regs args))) := by
  show _ = _
  rw [doP]
  simp only [h17, h18, h19, h20, h21, h9, h10, h11, h12, h13, h14, h15, h16, if_false, or_self]
 obtain ⟨z0, z1, z2, z3, z4, z5, z6, z7, z8, z9, z10, z11, z12, z13, z14, z15, hz16⟩ := sixteen HR.out.bk.2.2
 obtain ⟨y0, y1, y2, y3, hy4⟩ := four HR.out.bk.2.1
 have hz16 : r2.regs = [z0, z1, z2, z3, z4, z5, z6, z7, z8, z9, z10, z11, z12, z13, z14, z15] := hz16
 have hy4 : args = [y0, y1, y2, y3] := hy4
 have HZ := Lib.hid hz16
 have HY4 := Lib.hid hy4
 have hrk : ∀ W, Calls Try.prog 56 #[.agg #[.int .i64 op, .int .i64 a, .int .i64 b, .int .i64 c, .int .u64 imm], .agg #[.int .u64 z0, .int .u64 z1, .int .u64 z2, .int .u64 z3, .int .u64 z4, .int .u64 z5, .int .u64 z6, .int .u64 z7, .int .u64 z8, .int .u64 z9, .int .u64 z10, .int .u64 z11, .int .u64 z12, .int .u64 z13, .int .u64 z14, .int .u64 z15], .agg #[.int .u64 y0, .int .u64 y1, .int .u64 y2, .int .u64 y3]] W fun e w' => e = .returned (.int .u64 (reckonP ⟨op, a, b, c, imm⟩ r2.regs args)) ∧ W.grownBy w' none := by
  intro W
  have h := reckon_any ⟨op, a, b, c, imm⟩ r2.regs args W HR.out.bk.2.2 HR.out.bk.2.1 HK.out.regs ⟨b0, b1⟩ ⟨c0, c1⟩ (fun h8 => ⟨HIm.out.1, HAr.out h8⟩)
  rw [hz16, hy4] at h ⊢
  exact h
 obtain ⟨V, hV⟩ : ∃ V, reckonP ⟨op, a, b, c, imm⟩ r2.regs args = V := ⟨_, rfl⟩
 rw [hV] at hrk HE
 have HRk := Lib.hid hrk
 clear hz16 hy4 hV hrk kX fX k28b k24 k29 f28b f24 f29 q0 q1 q2 q3 q4
 have d0 : W2.cell? ⟨w.heap.size, 0, none⟩ = some (.int .i64 op) := (HI.out.cell 0).trans rfl
 have d1 : W2.cell? ⟨w.heap.size, 1, none⟩ = some (.int .i64 a) := (HI.out.cell 1).trans rfl
 have d2 : W2.cell? ⟨w.heap.size, 2, none⟩ = some (.int .i64 b) := (HI.out.cell 2).trans rfl
 have d3 : W2.cell? ⟨w.heap.size, 3, none⟩ = some (.int .i64 c) := (HI.out.cell 3).trans rfl
 have d4 : W2.cell? ⟨w.heap.size, 4, none⟩ = some (.int .u64 imm) := (HI.out.cell 4).trans rfl
 have d5 : W2.cell? ⟨g, 5, none⟩ = some (.int .u64 z0) := regAt HR.out.bk HZ.out 0 rfl
 have d6 : W2.cell? ⟨g, 6, none⟩ = some (.int .u64 z1) := regAt HR.out.bk HZ.out 1 rfl
 have d7 : W2.cell? ⟨g, 7, none⟩ = some (.int .u64 z2) := regAt HR.out.bk HZ.out 2 rfl
 have d8 : W2.cell? ⟨g, 8, none⟩ = some (.int .u64 z3) := regAt HR.out.bk HZ.out 3 rfl
 have d9 : W2.cell? ⟨g, 9, none⟩ = some (.int .u64 z4) := regAt HR.out.bk HZ.out 4 rfl
 have d10 : W2.cell? ⟨g, 10, none⟩ = some (.int .u64 z5) := regAt HR.out.bk HZ.out 5 rfl
 have d11 : W2.cell? ⟨g, 11, none⟩ = some (.int .u64 z6) := regAt HR.out.bk HZ.out 6 rfl
 have d12 : W2.cell? ⟨g, 12, none⟩ = some (.int .u64 z7) := regAt HR.out.bk HZ.out 7 rfl
 have d13 : W2.cell? ⟨g, 13, none⟩ = some (.int .u64 z8) := regAt HR.out.bk HZ.out 8 rfl
 have d14 : W2.cell? ⟨g, 14, none⟩ = some (.int .u64 z9) := regAt HR.out.bk HZ.out 9 rfl
 have d15 : W2.cell? ⟨g, 15, none⟩ = some (.int .u64 z10) := regAt HR.out.bk HZ.out 10 rfl
 have d16 : W2.cell? ⟨g, 16, none⟩ = some (.int .u64 z11) := regAt HR.out.bk HZ.out 11 rfl
 have d17 : W2.cell? ⟨g, 17, none⟩ = some (.int .u64 z12) := regAt HR.out.bk HZ.out 12 rfl
 have d18 : W2.cell? ⟨g, 18, none⟩ = some (.int .u64 z13) := regAt HR.out.bk HZ.out 13 rfl
 have d19 : W2.cell? ⟨g, 19, none⟩ = some (.int .u64 z14) := regAt HR.out.bk HZ.out 14 rfl
 have d20 : W2.cell? ⟨g, 20, none⟩ = some (.int .u64 z15) := regAt HR.out.bk HZ.out 15 rfl
 have d21 : W2.cell? ⟨g, 1, none⟩ = some (.int .u64 y0) := argAt HR.out.bk HY4.out 0 rfl
 have d22 : W2.cell? ⟨g, 2, none⟩ = some (.int .u64 y1) := argAt HR.out.bk HY4.out 1 rfl
 have d23 : W2.cell? ⟨g, 3, none⟩ = some (.int .u64 y2) := argAt HR.out.bk HY4.out 2 rfl
 have d24 : W2.cell? ⟨g, 4, none⟩ = some (.int .u64 y3) := argAt HR.out.bk HY4.out 3 rfl
 have HRd := Lib.hid (HR.out.more (grown_drew W2 none))
 have HId : Hid (Bk W2.drew w.heap.size 62 #[.int .i64 op, .int .i64 a, .int .i64 b, .int .i64 c, .int .u64 imm]) := HI.out.drew
 have HGd : Hid (W2.grownBy W2.drew none) := grown_drew _ _
 have e0 : W2.drew.cell? ⟨w.heap.size, 0, none⟩ = some (.int .i64 op) := (HId.out.cell 0).trans rfl
 have e1 : W2.drew.cell? ⟨w.heap.size, 1, none⟩ = some (.int .i64 a) := (HId.out.cell 1).trans rfl
 have e2 : W2.drew.cell? ⟨w.heap.size, 2, none⟩ = some (.int .i64 b) := (HId.out.cell 2).trans rfl
 have e3 : W2.drew.cell? ⟨w.heap.size, 3, none⟩ = some (.int .i64 c) := (HId.out.cell 3).trans rfl
 have e4 : W2.drew.cell? ⟨w.heap.size, 4, none⟩ = some (.int .u64 imm) := (HId.out.cell 4).trans rfl
 have e5 : W2.drew.cell? ⟨g, 5, none⟩ = some (.int .u64 z0) := regAt HRd.out.bk HZ.out 0 rfl
 have e6 : W2.drew.cell? ⟨g, 6, none⟩ = some (.int .u64 z1) := regAt HRd.out.bk HZ.out 1 rfl
 have e7 : W2.drew.cell? ⟨g, 7, none⟩ = some (.int .u64 z2) := regAt HRd.out.bk HZ.out 2 rfl
 have e8 : W2.drew.cell? ⟨g, 8, none⟩ = some (.int .u64 z3) := regAt HRd.out.bk HZ.out 3 rfl
 have e9 : W2.drew.cell? ⟨g, 9, none⟩ = some (.int .u64 z4) := regAt HRd.out.bk HZ.out 4 rfl
 have e10 : W2.drew.cell? ⟨g, 10, none⟩ = some (.int .u64 z5) := regAt HRd.out.bk HZ.out 5 rfl
 have e11 : W2.drew.cell? ⟨g, 11, none⟩ = some (.int .u64 z6) := regAt HRd.out.bk HZ.out 6 rfl
 have e12 : W2.drew.cell? ⟨g, 12, none⟩ = some (.int .u64 z7) := regAt HRd.out.bk HZ.out 7 rfl
 have e13 : W2.drew.cell? ⟨g, 13, none⟩ = some (.int .u64 z8) := regAt HRd.out.bk HZ.out 8 rfl
 have e14 : W2.drew.cell? ⟨g, 14, none⟩ = some (.int .u64 z9) := regAt HRd.out.bk HZ.out 9 rfl
 have e15 : W2.drew.cell? ⟨g, 15, none⟩ = some (.int .u64 z10) := regAt HRd.out.bk HZ.out 10 rfl
 have e16 : W2.drew.cell? ⟨g, 16, none⟩ = some (.int .u64 z11) := regAt HRd.out.bk HZ.out 11 rfl
 have e17 : W2.drew.cell? ⟨g, 17, none⟩ = some (.int .u64 z12) := regAt HRd.out.bk HZ.out 12 rfl
 have e18 : W2.drew.cell? ⟨g, 18, none⟩ = some (.int .u64 z13) := regAt HRd.out.bk HZ.out 13 rfl
 have e19 : W2.drew.cell? ⟨g, 19, none⟩ = some (.int .u64 z14) := regAt HRd.out.bk HZ.out 14 rfl
 have e20 : W2.drew.cell? ⟨g, 20, none⟩ = some (.int .u64 z15) := regAt HRd.out.bk HZ.out 15 rfl
 have e21 : W2.drew.cell? ⟨g, 1, none⟩ = some (.int .u64 y0) := argAt HRd.out.bk HY4.out 0 rfl
 have e22 : W2.drew.cell? ⟨g, 2, none⟩ = some (.int .u64 y1) := argAt HRd.out.bk HY4.out 1 rfl
 have e23 : W2.drew.cell? ⟨g, 3, none⟩ = some (.int .u64 y2) := argAt HRd.out.bk HY4.out 2 rfl
 have e24 : W2.drew.cell? ⟨g, 4, none⟩ = some (.int .u64 y3) := argAt HRd.out.bk HY4.out 3 rfl
 have kA := HRd.out.bk.reg ha16
 have fA := HRd.out.bk.bk.frozen (5 + a)
 go_wp2_with fail
 go_region_law (
  go_simp
  go_at_call 56
  refine (HRk.out _).mono ?_
  rintro e wn ⟨rfl, hgn⟩
  have HGd := Lib.hid (HGd.out.trans hgn)
  have HRd := Lib.hid (HRd.out.more hgn)
  have HId := Lib.hid (HId.out.grown hgn (by simp))
  have e0 : wn.cell? ⟨w.heap.size, 0, none⟩ = some (.int .i64 op) := (HId.out.cell 0).trans rfl
  have e1 : wn.cell? ⟨w.heap.size, 1, none⟩ = some (.int .i64 a) := (HId.out.cell 1).trans rfl
  have e2 : wn.cell? ⟨w.heap.size, 2, none⟩ = some (.int .i64 b) := (HId.out.cell 2).trans rfl
  have e3 : wn.cell? ⟨w.heap.size, 3, none⟩ = some (.int .i64 c) := (HId.out.cell 3).trans rfl
  have e4 : wn.cell? ⟨w.heap.size, 4, none⟩ = some (.int .u64 imm) := (HId.out.cell 4).trans rfl
  have e5 : wn.cell? ⟨g, 5, none⟩ = some (.int .u64 z0) := regAt HRd.out.bk HZ.out 0 rfl
  have e6 : wn.cell? ⟨g, 6, none⟩ = some (.int .u64 z1) := regAt HRd.out.bk HZ.out 1 rfl
  have e7 : wn.cell? ⟨g, 7, none⟩ = some (.int .u64 z2) := regAt HRd.out.bk HZ.out 2 rfl
  have e8 : wn.cell? ⟨g, 8, none⟩ = some (.int .u64 z3) := regAt HRd.out.bk HZ.out 3 rfl
  have e9 : wn.cell? ⟨g, 9, none⟩ = some (.int .u64 z4) := regAt HRd.out.bk HZ.out 4 rfl
  have e10 : wn.cell? ⟨g, 10, none⟩ = some (.int .u64 z5) := regAt HRd.out.bk HZ.out 5 rfl
  have e11 : wn.cell? ⟨g, 11, none⟩ = some (.int .u64 z6) := regAt HRd.out.bk HZ.out 6 rfl
  have e12 : wn.cell? ⟨g, 12, none⟩ = some (.int .u64 z7) := regAt HRd.out.bk HZ.out 7 rfl
  have e13 : wn.cell? ⟨g, 13, none⟩ = some (.int .u64 z8) := regAt HRd.out.bk HZ.out 8 rfl
  have e14 : wn.cell? ⟨g, 14, none⟩ = some (.int .u64 z9) := regAt HRd.out.bk HZ.out 9 rfl
  have e15 : wn.cell? ⟨g, 15, none⟩ = some (.int .u64 z10) := regAt HRd.out.bk HZ.out 10 rfl
  have e16 : wn.cell? ⟨g, 16, none⟩ = some (.int .u64 z11) := regAt HRd.out.bk HZ.out 11 rfl
  have e17 : wn.cell? ⟨g, 17, none⟩ = some (.int .u64 z12) := regAt HRd.out.bk HZ.out 12 rfl
  have e18 : wn.cell? ⟨g, 18, none⟩ = some (.int .u64 z13) := regAt HRd.out.bk HZ.out 13 rfl
  have e19 : wn.cell? ⟨g, 19, none⟩ = some (.int .u64 z14) := regAt HRd.out.bk HZ.out 14 rfl
  have e20 : wn.cell? ⟨g, 20, none⟩ = some (.int .u64 z15) := regAt HRd.out.bk HZ.out 15 rfl
  have e21 : wn.cell? ⟨g, 1, none⟩ = some (.int .u64 y0) := argAt HRd.out.bk HY4.out 0 rfl
  have e22 : wn.cell? ⟨g, 2, none⟩ = some (.int .u64 y1) := argAt HRd.out.bk HY4.out 1 rfl
  have e23 : wn.cell? ⟨g, 3, none⟩ = some (.int .u64 y2) := argAt HRd.out.bk HY4.out 2 rfl
  have e24 : wn.cell? ⟨g, 4, none⟩ = some (.int .u64 y3) := argAt HRd.out.bk HY4.out 3 rfl
  have kA := HRd.out.bk.reg ha16
  have fA := HRd.out.bk.bk.frozen (5 + a)
  clear hgn)
 all_goals
  go_wp2
  go_ret
  rw [HSt.out, HE.out]
  have hb := HB2.out.trans ((Below.refl _ _).grown HGd.out HR.out.pos (by simp))
  exact DoPost2.mk rfl (HRd.out.putReg ha16 V) (hb.setCell HRd.out.bg _)
end Go.Proofs.Ytjggmimaolddkaa
namespace Go.Proofs.Ytjggmimaolddkaa
open Go.RowKit
set_option linter.unusedVariables false
theorem u64_wrap (x : Int) : U64 (wrapU x) := by unfold wrapU U64; omega
theorem reckon_u64 {i : Ins} {regs args : List Int} (hr : ∀ x ∈ regs, U64 x) (ha : ∀ x ∈ args, U64 x) (hi : U64 i.imm) : U64 (reckonP i regs args) := by
 have h0 : U64 0 := ⟨by decide, by decide⟩
 have h1 : U64 1 := ⟨by decide, by decide⟩
 have hb := getD_u64 hr i.b.toNat
 have hc := getD_u64 hr i.c.toNat
 unfold reckonP
 split
 ·exact hi
 split
 ·exact hb
 split
 ·exact u64_wrap _
 split
 ·exact u64_wrap _
 split
 ·exact u64_wrap _
 split
 ·split
  ·exact hb
  ·rename_i hz
   unfold U64 at hb hc ⊢
   have h2 := Int.emod_nonneg (regs.getD i.b.toNat 0) hz
   have h3 := Int.emod_lt_of_pos (regs.getD i.b.toNat 0) (by omega : 0 < regs.getD i.c.toNat 0)
   omega
 split
 ·split <;> assumption
 split
 ·split <;> assumption
 split
 ·exact getD_u64 ha _
 ·exact h0
theorem mem_set {α : Type} {l : List α} {k : Nat} {v x : α} (h : x ∈ l.set k v) : x = v ∨ x ∈ l := by
 rcases List.mem_or_eq_of_mem_set h with h | h
 ·exact .inr h
 ·exact .inl h
section
variable {maxw : Int} {r r' : MRun}
theorem ROk.put (h : ROk maxw r) (k : Int) {v : Int} (hv : U64 v) : ROk maxw (r.put k v) :=
 ⟨fun x hx => by
  rcases mem_set hx with rfl | hx
  ·exact hv
  ·exact h.regs x hx, h.roots, h.blocks, h.pick, h.w0, h.w1, h.mw⟩
theorem ROk.reg (h : ROk maxw r) (k : Int) : U64 (r.reg k) := getD_u64 h.regs _
theorem payP_some {op : Int} (h : payP maxw op r = some r') : r' = { r with writes := r.writes + writesOf op } ∧ writesOf op ≤ maxw - r.writes := by
 unfold payP at h
 split at h
 ·cases h
 ·cases h; exact ⟨rfl, by omega⟩
theorem ROk.pay {op : Int} (h : ROk maxw r) (hw : r.writes ≤ 999999999000) (hp : payP maxw op r = some r') : ROk maxw r' := by
 obtain ⟨rfl, h2⟩ := payP_some hp
 have hb := writesOf_bd op
 exact ⟨h.regs, h.roots, h.blocks, h.pick, by have := h.w0; show _ ∧ r.writes + writesOf op ≤ _; simp only; omega, by show r.writes + writesOf op ≤ maxw ∨ _; omega, h.mw⟩
theorem upd_ok {f : Int → Option (List Int)} (h : ∀ y ws, f y = some ws → ∀ x ∈ ws, U64 x) {k : Int} {o : Option (List Int)} (ho : ∀ ws, o = some ws → ∀ x ∈ ws, U64 x) : ∀ y ws, upd f k o y = some ws → ∀ x ∈ ws, U64 x := by
 intro y ws hy
 unfold upd at hy
 split at hy
 ·exact ho ws hy
 ·exact h y ws hy
theorem root_ok {i : Ins} (h : ROk maxw r) (hw : r.writes ≤ 999999999000) : ROk maxw (rootP maxw i r).2 := by
 unfold rootP
 split
 ·exact h
 split
 ·exact h.put _ (getD_u64 h.roots _)
 split
 ·exact h
 ·rename_i r2 hp
  have h2 := h.pay hw hp
  exact ⟨h2.regs, fun x hx => by
   rcases mem_set hx with rfl | hx
   ·exact h.reg _
   ·exact h.roots x hx, by obtain ⟨rfl, _⟩ := payP_some hp; exact h.blocks, h2.pick, h2.w0, h2.w1, h2.mw⟩
theorem word_ok {i : Ins} (h : ROk maxw r) (hw : r.writes ≤ 999999999000) : ROk maxw (wordP maxw i r).2 := by
 unfold wordP
 split
 ·exact h
 ·rename_i ws hf
  split
  ·exact h
  split
  ·exact h.put _ (getD_u64 (h.blocks _ _ hf) _)
  split
  ·exact h
  ·rename_i r2 hp
   have h2 := h.pay hw hp
   exact ⟨h2.regs, by obtain ⟨rfl, _⟩ := payP_some hp; exact h.roots, upd_ok h.blocks (fun ws' e => by
    cases e
    intro x hx
    rcases mem_set hx with rfl | hx
    ·exact h.reg _
    ·exact h.blocks _ _ hf x hx), h2.pick, h2.w0, h2.w1, h2.mw⟩
theorem fresh_ok {i : Ins} (h : ROk maxw r) (hw : r.writes ≤ 999999999000) : ROk maxw (freshP maxw i r).2 := by
 unfold freshP
 split
 ·exact h
 ·rename_i r2 hp
  have h2 := h.pay hw hp
  split
  ·exact h2
  ·rename_i x rest hpk
   split
   ·exact h2
   ·have hx : U64 x := h.pick x (by rw [hpk]; simp)
    exact ⟨fun y hy => by
     rcases mem_set hy with rfl | hy
     ·exact hx
     ·exact h.regs y hy, by obtain ⟨rfl, _⟩ := payP_some hp; exact h.roots, upd_ok h.blocks (fun ws' e => by
     cases e
     intro y hy
     simp [zero8] at hy
     subst hy
     exact ⟨by decide, by decide⟩), fun y hy => h.pick y (by rw [hpk]; exact List.mem_cons_of_mem _ hy), h2.w0, h2.w1, h2.mw⟩
theorem free_ok {i : Ins} (h : ROk maxw r) (hw : r.writes ≤ 999999999000) : ROk maxw (freeP maxw i r).2 := by
 unfold freeP
 split
 ·exact h
 ·split
  ·exact h
  ·rename_i r2 hp
   have h2 := h.pay hw hp
   exact ⟨h2.regs, by obtain ⟨rfl, _⟩ := payP_some hp; exact h.roots, upd_ok h.blocks (fun ws' e => by cases e), h2.pick, h2.w0, h2.w1, h2.mw⟩
theorem do_ok {args : List Int} {i : Ins} (h : ROk maxw r) (hw : r.writes ≤ 999999999000) (ha : ∀ x ∈ args, U64 x) (hi : U64 i.imm) : ROk maxw (doP args maxw i r).2 := by
 unfold doP
 split
 ·exact ⟨h.regs, h.roots, h.blocks, h.pick, h.w0, h.w1, h.mw⟩
 split
 ·show ROk maxw (if _ then _ else _)
  split
  ·exact ⟨h.regs, h.roots, h.blocks, h.pick, h.w0, h.w1, h.mw⟩
  ·exact h
 split
 ·show ROk maxw (if _ then _ else _)
  split
  ·exact h
  ·exact ⟨h.regs, h.roots, h.blocks, h.pick, h.w0, h.w1, h.mw⟩
 split
 ·exact ⟨h.regs, h.roots, h.blocks, h.pick, h.w0, h.w1, h.mw⟩
 split
 ·exact ⟨h.regs, h.roots, h.blocks, h.pick, h.w0, h.w1, h.mw⟩
 split
 ·exact root_ok h hw
 split
 ·exact word_ok h hw
 split
 ·exact fresh_ok h hw
 split
 ·exact free_ok h hw
 ·exact h.put _ (reckon_u64 h.regs ha hi)
theorem step_ok {args : List Int} {i : Ins} (h : ROk maxw r) (hw : r.writes ≤ 999999999000) (ha : ∀ x ∈ args, U64 x) (hi : U64 i.imm) : ROk maxw (stepP args maxw i r).2 :=
 do_ok (r := { r with pc := r.pc + 1 }) ⟨h.regs, h.roots, h.blocks, h.pick, h.w0, h.w1, h.mw⟩ hw ha hi
end
end Go.Proofs.Ytjggmimaolddkaa
namespace Go.Proofs.Ytjggmimaolddkaa
open Go.RowKit
set_option linter.unusedVariables false
structure StIn (w : World) (B n sb mb : Nat) (s : MSt) : Prop where
 st : BkS w sb s.roots mb
 map : OwnB w Try.prog 31 mb n s.blocks
 roots : s.roots.length = 16
 bs : B ≤ sb
 bm : B ≤ mb
def emptyS : MSt := ⟨zero16, fun _ => none⟩
def NewPost (w : World) (e : Ending) (w' : World) : Prop := ∃ sb mb, e = .returned (.pointer (some ⟨sb, 0, none⟩)) ∧ StIn w' w.heap.size 0 sb mb emptyS ∧ Below w.heap.size w w'
set_option maxRecDepth 100000 in
set_option maxHeartbeats 1000000 in
theorem mnew_any (w : World) : Calls Try.prog 20 #[] w (NewPost w) := by
 have hmm := @run_makeMap Try.prog
 go_enter Try.func20, Try.ntmps20
 go_wp2
 go_ret
 refine ⟨w.heap.size + 1, w.heap.size, by simp, ⟨?_, ?_, rfl, by omega, Nat.le_refl _⟩, ((Below.refl _ _).alloc (Nat.le_refl _) _).alloc (by simp) _⟩
 ·have := Bk.new (w.alloc (.map #[] 0)) 98 (stCells zero16 w.heap.size).toArray
  have h2 : Bk ((w.alloc (.map #[] 0)).alloc (.cells (stCells zero16 w.heap.size).toArray 98)) (w.heap.size + 1) 98 (stCells zero16 w.heap.size).toArray := by simpa using this
  exact h2
 ·exact (OwnB.made w Try.prog 31).alloc _
end Go.Proofs.Ytjggmimaolddkaa
