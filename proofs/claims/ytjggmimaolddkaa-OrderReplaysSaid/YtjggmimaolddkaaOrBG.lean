import Derived.Test.YtjggmimaolddkaaOrBF
import Derived.Deep.DeepCutAuto
namespace Go.Proofs.Ytjggmimaolddkaa
open Go.RowKit
set_option linter.unusedVariables false
set_option linter.unusedSimpArgs false
set_option maxRecDepth 100000 in
set_option maxHeartbeats 16000000 in
theorem rstep_rk (c : RR) (r : MRun) (op ia ib ic imm : Int) (l : List Ins) (A : Option Addr) (n k : Nat) (args : List Int) (fuel maxw : Int) (w : World) (hv0 : RVIn w w.heap.size c r) (hI : RdI w w.heap.size A n l) (hpc0 : 0 ≤ r.pc) (hli : l[r.pc.toNat]? = some ⟨op, ia, ib, ic, imm⟩) (hi : InsOk ⟨op, ia, ib, ic, imm⟩) (h4 : args.length = 4) (hu0 : ∀ x ∈ r.regs, U64 x) (hw0 : 0 ≤ r.writes ∧ r.writes ≤ 1000000000000) (hmw : 0 ≤ maxw ∧ maxw ≤ 1000000) (hfu : 0 ≤ fuel ∧ fuel ≤ 1000000) (hst : 0 ≤ r.steps) (hpu : ∀ x ∈ r.pick, U64 x) (hn : r.news.length ≤ 1000000) (S : Nat → Prop) (hs : SIn S c) (hSl : ∀ b, S b → b < w.heap.size) (hop : 0 ≤ op ∧ op < 9) :
 Calls Try.prog 42 #[.agg c.cells.toArray, .slice A n k, .agg (u64s args).toArray, .int .i64 fuel, .int .i64 maxw] w (RunP S (step17 args fuel maxw ⟨op, ia, ib, ic, imm⟩ r) w) := by
 obtain ⟨⟨⟨a0, a1⟩, ⟨b0, b1⟩, ⟨cc0, cc1⟩⟩, ⟨o0, o1⟩, him, harg, hgoes⟩ := hi
 simp only at a0 a1 b0 b1 cc0 cc1 o0 o1 him harg hgoes
 obtain ⟨a, rfl⟩ : ∃ a : Nat, ia = (a : Int) := ⟨ia.toNat, by omega⟩
 have ha16 : a < 16 := by omega
 have hv := Lib.hid hv0
 have HRI := Lib.hid hI
 have HPU := Lib.hid hpu
 have HN := Lib.hid hn
 have HSS := Lib.hid hs
 have HSL := Lib.hid hSl
 have HRG := Lib.hid hv0.regs
 have HU := Lib.hid hu0
 have HW0 := Lib.hid hw0
 have HMW := Lib.hid hmw
 have HIM := Lib.hid him
 have HAR := Lib.hid harg
 have H4 := Lib.hid h4
 have HBC := Lib.hid (And.intro (And.intro b0 b1) (And.intro cc0 cc1))
 obtain ⟨pc, hpc⟩ : ∃ pc : Nat, r.pc = (pc : Int) := ⟨r.pc.toNat, by omega⟩
 rw [hpc, Int.toNat_natCast] at hli
 obtain ⟨st, hst1⟩ : ∃ st, r.steps = st := ⟨_, rfl⟩
 rw [hst1] at hst
 have hcpc : c.pc = (pc : Int) := hv0.pc.trans hpc
 have hcst : c.steps = st := hv0.steps.trans hst1
 have hpl : pc < l.length := (List.getElem?_eq_some_iff.1 hli).1
 have hpn : pc < n := by rw [← hI.insLen]; exact hpl
 have hn63 := hI.le
 unfold maxLen at hn63
 have hpni : (pc : Int) < (n : Int) := by omega
 have HPC := Lib.hid hpc
 have HST := Lib.hid hst1
 have HCP := Lib.hid hcpc
 have HCS := Lib.hid hcst
 have HLI := Lib.hid hli
 obtain ⟨Y, hYY⟩ : ∃ Y, c.regs.getD a 0 = Y := ⟨_, rfl⟩
 have hYr : r.reg (a : Int) = Y := by rw [← hYY, hv0.regs]; rfl
 have HYr := Lib.hid hYr
 have HYY := Lib.hid hYY
 have uY : U64 Y := by rw [← hYr]; exact getD_u64 hu0 _
 have uY0 := uY.1
 have hsz := hv0.sz
 obtain ⟨M, hM⟩ : ∃ M, c.cells.toArray = M := ⟨_, rfl⟩
 obtain ⟨CA, hCA⟩ : ∃ CA, (u64s args).toArray = CA := ⟨_, rfl⟩
 rw [hM, hCA]
 obtain ⟨W1, hW1⟩ : ∃ W1, ((w.alloc (.cells M 87)).alloc (.cells CA 37)).alloc (.cells #[.int .u64 0, .int .u64 0, .int .u64 0, .int .u64 0, .int .u64 0, .int .u64 0, .int .u64 0, .int .u64 0, .int .u64 0, .int .u64 0, .int .u64 0, .int .u64 0, .int .u64 0, .int .u64 0, .int .u64 0, .int .u64 0, .slice none 0 0, .int .i64 0, .int .u64 0, .int .u64 0, .int .u64 0, .int .u64 0, .int .u64 0, .int .u64 0, .int .u64 0, .int .u64 0, .int .u64 0, .int .u64 0, .int .u64 0, .int .u64 0, .int .u64 0, .int .u64 0, .int .u64 0, .int .u64 0, .int .i64 0, .int .i64 0, .slice none 0 0, .slice none 0 0, .bool false, .int .u64 0, .int .i64 0] 87) = W1 := ⟨_, rfl⟩
 have HB : Hid (Below w.heap.size w W1) := by show Below _ _ _; rw [← hW1]; exact (((Below.refl _ _).alloc (Nat.le_refl _) _).alloc (by simp) _).alloc (by simp; omega) _
 have HK : Hid (BkC W1 w.heap.size c) := by show BkC _ _ _; rw [← hW1, ← hM]; exact ⟨((Bk.new w _ _).alloc _).alloc _, hsz⟩
 have HAg : Hid (Bk W1 (w.heap.size + 1) 37 CA) := by show Bk _ _ _ _; rw [← hW1]; exact (rf_new1 _ (by simp) _ _).alloc _
 have HZ : Hid (Bk W1 (w.heap.size + 1 + 1) 87 zero41) := by show Bk _ _ _ _; rw [← hW1]; exact rf_new1 _ (by simp) _ _
 have HSz : Hid (W1.heap.size = w.heap.size + 1 + 1 + 1) := by show _ = _; rw [← hW1]; simp
 have HW1 := Lib.hid hW1
 have HCA := Lib.hid hCA
 have k34 : W1.cell? ⟨w.heap.size, 34, none⟩ = some (.int .i64 st) := HK.out.steps.trans (by rw [hcst])
 clear hv0 hI hpc0 hu0 hpu hs hSl hsz hW1 hYY hYr uY him harg hpl hst1 hpc hcpc hcst hli hn h4 hCA hw0 hmw
 go_enter Try.func42, Try.ntmps42
 go_upto_region 1 with fail
 rw [HW1.out]
 clear HW1
 by_cases hfs : fuel ≤ st
 ·have gf : decide (fuel ≤ st) = true := decide_eq_true hfs
  have HE : Hid (step17 args fuel maxw ⟨op, (a : Int), ib, ic, imm⟩ r = { r with code := 41 }) := step_fuel (by rw [HST.out]; exact hfs)
  go_upto_region 2 with fail
  have HF := Lib.hid (hv.out.setE 41)
  have HOne := Lib.hid HF.out.ones
  have c40 := HK.out.err
  have f40 : W1.frozen? ⟨w.heap.size, 40, none⟩ = false := HK.out.bk.frozen 40
  have HK43 := Lib.hid (HK.out.setE 41)
  have HZ43 : Hid (Bk (W1.setCell ⟨w.heap.size, 40, none⟩ (.int .i64 41)) (w.heap.size + 1 + 1) 87 zero41) := HZ.out.set_ne (by omega) _ _
  have HB43 : Hid (Below w.heap.size w (W1.setCell ⟨w.heap.size, 40, none⟩ (.int .i64 41))) := HB.out.setCell (Nat.le_refl _) _
  go_wp2_with (first
   | (refine wpList_load_row (by rfl) 87 (.tmp 5) (by rfl) w.heap.size (by rfl) 87 ({ c with e := 41 } : RR).cells.toArray (0, 0) _ HK43.out.bk Try.underlying87 (by rfl) (info_run17 HK43.out.sz) ?_)
   | (refine wpList_store_row (by rfl) 87 (.tmp 10) (.tmp 17) (by rfl) (w.heap.size + 1 + 1) ({ c with e := 41 } : RR).cells.toArray (by rfl) (by rfl) 87 zero41 HZ43.out (info_run17 HK43.out.sz) (zero41_size HK43.out.sz) HOne.out ?_))
  refine bodyPost_ret (res_run 10 rfl _ _ (w.heap.size + 1 + 1) { c with e := 41 } (by rfl) ⟨HZ43.out.setRow _, HK43.out.sz⟩) rfl ?_
  have hb9 := lbelow_setRow HB43.out (show w.heap.size ≤ w.heap.size + 1 + 1 by omega) ({ c with e := 41 } : RR).cells.toArray
  rw [HE.out]
  exact ⟨_, rfl, (HF.out.below hb9).more hb9.size, (HSS.out.keep rfl rfl rfl), hb9⟩
 have gf : decide (fuel ≤ st) = false := decide_eq_false hfs
 have HFS : Hid (¬ fuel ≤ st) := hfs
 have k17 : W1.cell? ⟨w.heap.size, 17, none⟩ = some (.int .i64 pc) := HK.out.pc.trans (by rw [HCP.out])
 obtain ⟨cb, co, i', rfl, hcb, hl', hcell⟩ := HRI.out.insAt hpn
 rw [HLI.out] at hl'
 injection hl' with hl'
 subst hl'
 have z0 : W1.cell? ⟨cb, co + pc * 5, none⟩ = some (.int .i64 op) := (HB.out.cell (p := ⟨cb, co + pc * 5, none⟩) hcb).trans hcell.1
 have z1 : W1.cell? ⟨cb, co + pc * 5 + 1, none⟩ = some (.int .i64 a) := (HB.out.cell (p := ⟨cb, co + pc * 5 + 1, none⟩) hcb).trans hcell.2.1
 have z2 : W1.cell? ⟨cb, co + pc * 5 + 2, none⟩ = some (.int .i64 ib) := (HB.out.cell (p := ⟨cb, co + pc * 5 + 2, none⟩) hcb).trans hcell.2.2.1
 have z3 : W1.cell? ⟨cb, co + pc * 5 + 3, none⟩ = some (.int .i64 ic) := (HB.out.cell (p := ⟨cb, co + pc * 5 + 3, none⟩) hcb).trans hcell.2.2.2.1
 have z4 : W1.cell? ⟨cb, co + pc * 5 + 4, none⟩ = some (.int .u64 imm) := (HB.out.cell (p := ⟨cb, co + pc * 5 + 4, none⟩) hcb).trans hcell.2.2.2.2
 clear hcell
 go_upto_region 5 with fail
 obtain ⟨W2, hW2⟩ : ∃ W2, W1.alloc (.cells #[.int .i64 op, .int .i64 a, .int .i64 ib, .int .i64 ic, .int .u64 imm] 62) = W2 := ⟨_, rfl⟩
 have HK' : Hid (BkC W2 w.heap.size c) := by show BkC _ _ _; rw [← hW2]; exact HK.out.alloc _
 have HB' : Hid (Below w.heap.size w W2) := by show Below _ _ _; rw [← hW2]; exact HB.out.alloc HB.out.size _
 have HZ' : Hid (Bk W2 (w.heap.size + 1 + 1) 87 zero41) := by show Bk _ _ _ _; rw [← hW2]; exact HZ.out.alloc _
 have HI' : Hid (Bk W2 (w.heap.size + 1 + 1 + 1) 62 #[.int .i64 op, .int .i64 a, .int .i64 ib, .int .i64 ic, .int .u64 imm]) := by show Bk _ _ _ _; rw [← hW2]; exact rf_new1 _ HSz.out _ _
 have HAg' : Hid (Bk W2 (w.heap.size + 1) 37 CA) := by show Bk _ _ _ _; rw [← hW2]; exact HAg.out.alloc _
 try rw [hW2]
 rw [HSz.out]
 clear hW2 k34 k17 z0 z1 z2 z3 z4 HK HB HZ HAg HSz
 have HK := HK'
 have HB := HB'
 have HZ := HZ'
 have HI := HI'
 have HAg := HAg'
 clear HK' HB' HZ' HI' HAg'
 have k34 : W2.cell? ⟨w.heap.size, 34, none⟩ = some (.int .i64 st) := HK.out.steps.trans (by rw [HCS.out])
 have f34 := HK.out.bk.frozen 34
 obtain ⟨W3, hW3⟩ : ∃ W3, W2.setCell ⟨w.heap.size, 34, none⟩ (.int .i64 (st + 1)) = W3 := ⟨_, rfl⟩
 have HK' := Lib.hid (show BkC W3 w.heap.size _ by rw [← hW3]; exact HK.out.setSteps (st + 1))
 have HB' : Hid (Below w.heap.size w W3) := by show Below _ _ _; rw [← hW3]; exact HB.out.setCell (Nat.le_refl _) _
 have HZ' : Hid (Bk W3 (w.heap.size + 1 + 1) 87 zero41) := by show Bk _ _ _ _; rw [← hW3]; exact HZ.out.set_ne (by omega) _ _
 have HI' : Hid (Bk W3 (w.heap.size + 1 + 1 + 1) 62 #[.int .i64 op, .int .i64 a, .int .i64 ib, .int .i64 ic, .int .u64 imm]) := by show Bk _ _ _ _; rw [← hW3]; exact HI.out.set_ne (by omega) _ _
 have HAg' : Hid (Bk W3 (w.heap.size + 1) 37 CA) := by show Bk _ _ _ _; rw [← hW3]; exact HAg.out.set_ne (by omega) _ _
 go_upto_region 6 with fail
 try rw [hW3]
 clear hW3 k34 f34
 clear HK HB HZ HI HAg
 have HK := HK'
 have HB := HB'
 have HZ := HZ'
 have HI := HI'
 have HAg := HAg'
 clear HK' HB' HZ' HI' HAg' 
 have k17 : W3.cell? ⟨w.heap.size, 17, none⟩ = some (.int .i64 pc) := HK.out.pc.trans (by show some (Value.int .i64 c.pc) = _; rw [HCP.out])
 have f17 := HK.out.bk.frozen 17
 obtain ⟨W4, hW4⟩ : ∃ W4, W3.setCell ⟨w.heap.size, 17, none⟩ (.int .i64 (pc + 1)) = W4 := ⟨_, rfl⟩
 have HK' := Lib.hid (show BkC W4 w.heap.size _ by rw [← hW4]; exact HK.out.setPc (pc + 1))
 have HB' : Hid (Below w.heap.size w W4) := by show Below _ _ _; rw [← hW4]; exact HB.out.setCell (Nat.le_refl _) _
 have HZ' : Hid (Bk W4 (w.heap.size + 1 + 1) 87 zero41) := by show Bk _ _ _ _; rw [← hW4]; exact HZ.out.set_ne (by omega) _ _
 have HI' : Hid (Bk W4 (w.heap.size + 1 + 1 + 1) 62 #[.int .i64 op, .int .i64 a, .int .i64 ib, .int .i64 ic, .int .u64 imm]) := by show Bk _ _ _ _; rw [← hW4]; exact HI.out.set_ne (by omega) _ _
 have HAg' : Hid (Bk W4 (w.heap.size + 1) 37 CA) := by show Bk _ _ _ _; rw [← hW4]; exact HAg.out.set_ne (by omega) _ _
 go_upto_region 7 with fail
 try rw [hW4]
 clear hW4 k17 f17
 clear HK HB HZ HI HAg
 have HK := HK'
 have HB := HB'
 have HZ := HZ'
 have HI := HI'
 have HAg := HAg'
 clear HK' HB' HZ' HI' HAg' 
 have j0 := (HI.out.cell 0).trans rfl
 have j1 := (HI.out.cell 1).trans rfl
 have j4 := (HI.out.cell 4).trans rfl
 have kY : W4.cell? ⟨w.heap.size, 18 + a, none⟩ = some (.int .u64 Y) := (HK.out.reg ha16).trans (by show some (Value.int .u64 (c.regs.getD a 0)) = _; rw [HYY.out])
 have g17 : (op == 17) = false := beq_eq_false_iff_ne.2 (by omega)
 have g18 : (op == 18) = false := beq_eq_false_iff_ne.2 (by omega)
 have g19 : (op == 19) = false := beq_eq_false_iff_ne.2 (by omega)
 have g20 : (op == 20) = false := beq_eq_false_iff_ne.2 (by omega)
 have g21 : (op == 21) = false := beq_eq_false_iff_ne.2 (by omega)
 have g9 : decide (op < 9) = true := decide_eq_true (by omega)
 have g9b : decide (9 ≤ op) = false := decide_eq_false (by omega)
 have HW4S := Lib.hid HB.out.size
 obtain ⟨z0, z1, z2, z3, z4, z5, z6, z7, z8, z9, z10, z11, z12, z13, z14, z15, hz16⟩ := sixteen hv.out.sz.regs
 obtain ⟨y0, y1, y2, y3, hy4⟩ := four H4.out
 have HZ16 := Lib.hid hz16
 have hCA : CA = #[.int .u64 y0, .int .u64 y1, .int .u64 y2, .int .u64 y3] := by rw [← HCA.out, hy4]; rfl
 subst hCA
 have hrk : ∀ W, Calls Try.prog 58 #[.agg #[.int .i64 op, .int .i64 a, .int .i64 ib, .int .i64 ic, .int .u64 imm], .agg #[.int .u64 z0, .int .u64 z1, .int .u64 z2, .int .u64 z3, .int .u64 z4, .int .u64 z5, .int .u64 z6, .int .u64 z7, .int .u64 z8, .int .u64 z9, .int .u64 z10, .int .u64 z11, .int .u64 z12, .int .u64 z13, .int .u64 z14, .int .u64 z15], .agg #[.int .u64 y0, .int .u64 y1, .int .u64 y2, .int .u64 y3]] W fun e w' => e = .returned (.int .u64 (reckonP ⟨op, (a : Int), ib, ic, imm⟩ r.regs args)) ∧ Below W.heap.size W w' := by
  intro W
  have h := rreckon_any ⟨op, (a : Int), ib, ic, imm⟩ c.regs args W hv.out.sz.regs H4.out (by rw [HRG.out]; exact HU.out) hop HBC.out.1 HBC.out.2 (fun h8 => ⟨HIM.out.1, HAR.out h8⟩)
  rw [← HRG.out]
  rw [hz16, hy4] at h ⊢
  exact h
 obtain ⟨V, hV⟩ : ∃ V, reckonP ⟨op, (a : Int), ib, ic, imm⟩ r.regs args = V := ⟨_, rfl⟩
 rw [hV] at hrk
 have HRk := Lib.hid hrk
 have HV := Lib.hid hV
 clear hz16 hy4 hV hrk
 go_upto_region 16 with fail
 clear j0 j1 j4 kY g17 g18 g19 g20 g21
 have d0 : W4.cell? ⟨w.heap.size + 1 + 1 + 1, 0, none⟩ = some (.int .i64 op) := (HI.out.cell 0).trans rfl
 have d1 : W4.cell? ⟨w.heap.size + 1 + 1 + 1, 1, none⟩ = some (.int .i64 a) := (HI.out.cell 1).trans rfl
 have d2 : W4.cell? ⟨w.heap.size + 1 + 1 + 1, 2, none⟩ = some (.int .i64 ib) := (HI.out.cell 2).trans rfl
 have d3 : W4.cell? ⟨w.heap.size + 1 + 1 + 1, 3, none⟩ = some (.int .i64 ic) := (HI.out.cell 3).trans rfl
 have d4 : W4.cell? ⟨w.heap.size + 1 + 1 + 1, 4, none⟩ = some (.int .u64 imm) := (HI.out.cell 4).trans rfl
 have d5 : W4.cell? ⟨w.heap.size, 18, none⟩ = some (.int .u64 z0) := rgAt HK.out HZ16.out 0 rfl
 have d6 : W4.cell? ⟨w.heap.size, 19, none⟩ = some (.int .u64 z1) := rgAt HK.out HZ16.out 1 rfl
 have d7 : W4.cell? ⟨w.heap.size, 20, none⟩ = some (.int .u64 z2) := rgAt HK.out HZ16.out 2 rfl
 have d8 : W4.cell? ⟨w.heap.size, 21, none⟩ = some (.int .u64 z3) := rgAt HK.out HZ16.out 3 rfl
 have d9 : W4.cell? ⟨w.heap.size, 22, none⟩ = some (.int .u64 z4) := rgAt HK.out HZ16.out 4 rfl
 have d10 : W4.cell? ⟨w.heap.size, 23, none⟩ = some (.int .u64 z5) := rgAt HK.out HZ16.out 5 rfl
 have d11 : W4.cell? ⟨w.heap.size, 24, none⟩ = some (.int .u64 z6) := rgAt HK.out HZ16.out 6 rfl
 have d12 : W4.cell? ⟨w.heap.size, 25, none⟩ = some (.int .u64 z7) := rgAt HK.out HZ16.out 7 rfl
 have d13 : W4.cell? ⟨w.heap.size, 26, none⟩ = some (.int .u64 z8) := rgAt HK.out HZ16.out 8 rfl
 have d14 : W4.cell? ⟨w.heap.size, 27, none⟩ = some (.int .u64 z9) := rgAt HK.out HZ16.out 9 rfl
 have d15 : W4.cell? ⟨w.heap.size, 28, none⟩ = some (.int .u64 z10) := rgAt HK.out HZ16.out 10 rfl
 have d16 : W4.cell? ⟨w.heap.size, 29, none⟩ = some (.int .u64 z11) := rgAt HK.out HZ16.out 11 rfl
 have d17 : W4.cell? ⟨w.heap.size, 30, none⟩ = some (.int .u64 z12) := rgAt HK.out HZ16.out 12 rfl
 have d18 : W4.cell? ⟨w.heap.size, 31, none⟩ = some (.int .u64 z13) := rgAt HK.out HZ16.out 13 rfl
 have d19 : W4.cell? ⟨w.heap.size, 32, none⟩ = some (.int .u64 z14) := rgAt HK.out HZ16.out 14 rfl
 have d20 : W4.cell? ⟨w.heap.size, 33, none⟩ = some (.int .u64 z15) := rgAt HK.out HZ16.out 15 rfl
 have d21 : W4.cell? ⟨w.heap.size + 1, 0, none⟩ = some (.int .u64 y0) := (HAg.out.cell 0).trans rfl
 have d22 : W4.cell? ⟨w.heap.size + 1, 1, none⟩ = some (.int .u64 y1) := (HAg.out.cell 1).trans rfl
 have d23 : W4.cell? ⟨w.heap.size + 1, 2, none⟩ = some (.int .u64 y2) := (HAg.out.cell 2).trans rfl
 have d24 : W4.cell? ⟨w.heap.size + 1, 3, none⟩ = some (.int .u64 y3) := (HAg.out.cell 3).trans rfl
 have HKd := Lib.hid HK.out.drew
 have HId : Hid (Bk W4.drew (w.heap.size + 1 + 1 + 1) 62 #[.int .i64 op, .int .i64 a, .int .i64 ib, .int .i64 ic, .int .u64 imm]) := HI.out.drew
 have HAd : Hid (Bk W4.drew (w.heap.size + 1) 37 #[.int .u64 y0, .int .u64 y1, .int .u64 y2, .int .u64 y3]) := HAg.out.drew
 have HZd : Hid (Bk W4.drew (w.heap.size + 1 + 1) 87 zero41) := HZ.out.drew
 have HBd : Hid (Below w.heap.size w W4.drew) := HB.out.drew
 have e0 : W4.drew.cell? ⟨w.heap.size + 1 + 1 + 1, 0, none⟩ = some (.int .i64 op) := (HId.out.cell 0).trans rfl
 have e1 : W4.drew.cell? ⟨w.heap.size + 1 + 1 + 1, 1, none⟩ = some (.int .i64 a) := (HId.out.cell 1).trans rfl
 have e2 : W4.drew.cell? ⟨w.heap.size + 1 + 1 + 1, 2, none⟩ = some (.int .i64 ib) := (HId.out.cell 2).trans rfl
 have e3 : W4.drew.cell? ⟨w.heap.size + 1 + 1 + 1, 3, none⟩ = some (.int .i64 ic) := (HId.out.cell 3).trans rfl
 have e4 : W4.drew.cell? ⟨w.heap.size + 1 + 1 + 1, 4, none⟩ = some (.int .u64 imm) := (HId.out.cell 4).trans rfl
 have e5 : W4.drew.cell? ⟨w.heap.size, 18, none⟩ = some (.int .u64 z0) := rgAt HKd.out HZ16.out 0 rfl
 have e6 : W4.drew.cell? ⟨w.heap.size, 19, none⟩ = some (.int .u64 z1) := rgAt HKd.out HZ16.out 1 rfl
 have e7 : W4.drew.cell? ⟨w.heap.size, 20, none⟩ = some (.int .u64 z2) := rgAt HKd.out HZ16.out 2 rfl
 have e8 : W4.drew.cell? ⟨w.heap.size, 21, none⟩ = some (.int .u64 z3) := rgAt HKd.out HZ16.out 3 rfl
 have e9 : W4.drew.cell? ⟨w.heap.size, 22, none⟩ = some (.int .u64 z4) := rgAt HKd.out HZ16.out 4 rfl
 have e10 : W4.drew.cell? ⟨w.heap.size, 23, none⟩ = some (.int .u64 z5) := rgAt HKd.out HZ16.out 5 rfl
 have e11 : W4.drew.cell? ⟨w.heap.size, 24, none⟩ = some (.int .u64 z6) := rgAt HKd.out HZ16.out 6 rfl
 have e12 : W4.drew.cell? ⟨w.heap.size, 25, none⟩ = some (.int .u64 z7) := rgAt HKd.out HZ16.out 7 rfl
 have e13 : W4.drew.cell? ⟨w.heap.size, 26, none⟩ = some (.int .u64 z8) := rgAt HKd.out HZ16.out 8 rfl
 have e14 : W4.drew.cell? ⟨w.heap.size, 27, none⟩ = some (.int .u64 z9) := rgAt HKd.out HZ16.out 9 rfl
 have e15 : W4.drew.cell? ⟨w.heap.size, 28, none⟩ = some (.int .u64 z10) := rgAt HKd.out HZ16.out 10 rfl
 have e16 : W4.drew.cell? ⟨w.heap.size, 29, none⟩ = some (.int .u64 z11) := rgAt HKd.out HZ16.out 11 rfl
 have e17 : W4.drew.cell? ⟨w.heap.size, 30, none⟩ = some (.int .u64 z12) := rgAt HKd.out HZ16.out 12 rfl
 have e18 : W4.drew.cell? ⟨w.heap.size, 31, none⟩ = some (.int .u64 z13) := rgAt HKd.out HZ16.out 13 rfl
 have e19 : W4.drew.cell? ⟨w.heap.size, 32, none⟩ = some (.int .u64 z14) := rgAt HKd.out HZ16.out 14 rfl
 have e20 : W4.drew.cell? ⟨w.heap.size, 33, none⟩ = some (.int .u64 z15) := rgAt HKd.out HZ16.out 15 rfl
 have e21 : W4.drew.cell? ⟨w.heap.size + 1, 0, none⟩ = some (.int .u64 y0) := (HAd.out.cell 0).trans rfl
 have e22 : W4.drew.cell? ⟨w.heap.size + 1, 1, none⟩ = some (.int .u64 y1) := (HAd.out.cell 1).trans rfl
 have e23 : W4.drew.cell? ⟨w.heap.size + 1, 2, none⟩ = some (.int .u64 y2) := (HAd.out.cell 2).trans rfl
 have e24 : W4.drew.cell? ⟨w.heap.size + 1, 3, none⟩ = some (.int .u64 y3) := (HAd.out.cell 3).trans rfl
 have kA := HKd.out.reg ha16
 have fA := HKd.out.bk.frozen (18 + a)
 clear HK HB HZ HI HAg
 go_cut [90] (fun v wx => v = .int .u64 V ∧ Hid (BkC wx w.heap.size { { { c with steps := st + 1 } with pc := (pc : Int) + 1 } with regs := c.regs.set a V }) ∧ Hid (Bk wx (w.heap.size + 1 + 1) 87 zero41) ∧ Hid (Bk wx (w.heap.size + 1 + 1 + 1) 62 #[.int .i64 op, .int .i64 a, .int .i64 ib, .int .i64 ic, .int .u64 imm]) ∧ Hid (Below w.heap.size w wx))
 case first =>
  go_region_law (
   go_simp
   go_at_call 58
   refine (HRk.out _).mono ?_
   rintro e wn ⟨rfl, hbn⟩
   have HBd := Lib.hid (HBd.out.trans (hbn.mono HBd.out.size))
   have HKd := Lib.hid (HKd.out.below hbn)
   have HId := Lib.hid (HId.out.below hbn HId.out.lt)
   have HAd := Lib.hid (HAd.out.below hbn HAd.out.lt)
   have HZd := Lib.hid (HZd.out.below hbn HZd.out.lt)
   have e0 : wn.cell? ⟨w.heap.size + 1 + 1 + 1, 0, none⟩ = some (.int .i64 op) := (HId.out.cell 0).trans rfl
   have e1 : wn.cell? ⟨w.heap.size + 1 + 1 + 1, 1, none⟩ = some (.int .i64 a) := (HId.out.cell 1).trans rfl
   have e2 : wn.cell? ⟨w.heap.size + 1 + 1 + 1, 2, none⟩ = some (.int .i64 ib) := (HId.out.cell 2).trans rfl
   have e3 : wn.cell? ⟨w.heap.size + 1 + 1 + 1, 3, none⟩ = some (.int .i64 ic) := (HId.out.cell 3).trans rfl
   have e4 : wn.cell? ⟨w.heap.size + 1 + 1 + 1, 4, none⟩ = some (.int .u64 imm) := (HId.out.cell 4).trans rfl
   have e5 : wn.cell? ⟨w.heap.size, 18, none⟩ = some (.int .u64 z0) := rgAt HKd.out HZ16.out 0 rfl
   have e6 : wn.cell? ⟨w.heap.size, 19, none⟩ = some (.int .u64 z1) := rgAt HKd.out HZ16.out 1 rfl
   have e7 : wn.cell? ⟨w.heap.size, 20, none⟩ = some (.int .u64 z2) := rgAt HKd.out HZ16.out 2 rfl
   have e8 : wn.cell? ⟨w.heap.size, 21, none⟩ = some (.int .u64 z3) := rgAt HKd.out HZ16.out 3 rfl
   have e9 : wn.cell? ⟨w.heap.size, 22, none⟩ = some (.int .u64 z4) := rgAt HKd.out HZ16.out 4 rfl
   have e10 : wn.cell? ⟨w.heap.size, 23, none⟩ = some (.int .u64 z5) := rgAt HKd.out HZ16.out 5 rfl
   have e11 : wn.cell? ⟨w.heap.size, 24, none⟩ = some (.int .u64 z6) := rgAt HKd.out HZ16.out 6 rfl
   have e12 : wn.cell? ⟨w.heap.size, 25, none⟩ = some (.int .u64 z7) := rgAt HKd.out HZ16.out 7 rfl
   have e13 : wn.cell? ⟨w.heap.size, 26, none⟩ = some (.int .u64 z8) := rgAt HKd.out HZ16.out 8 rfl
   have e14 : wn.cell? ⟨w.heap.size, 27, none⟩ = some (.int .u64 z9) := rgAt HKd.out HZ16.out 9 rfl
   have e15 : wn.cell? ⟨w.heap.size, 28, none⟩ = some (.int .u64 z10) := rgAt HKd.out HZ16.out 10 rfl
   have e16 : wn.cell? ⟨w.heap.size, 29, none⟩ = some (.int .u64 z11) := rgAt HKd.out HZ16.out 11 rfl
   have e17 : wn.cell? ⟨w.heap.size, 30, none⟩ = some (.int .u64 z12) := rgAt HKd.out HZ16.out 12 rfl
   have e18 : wn.cell? ⟨w.heap.size, 31, none⟩ = some (.int .u64 z13) := rgAt HKd.out HZ16.out 13 rfl
   have e19 : wn.cell? ⟨w.heap.size, 32, none⟩ = some (.int .u64 z14) := rgAt HKd.out HZ16.out 14 rfl
   have e20 : wn.cell? ⟨w.heap.size, 33, none⟩ = some (.int .u64 z15) := rgAt HKd.out HZ16.out 15 rfl
   have e21 : wn.cell? ⟨w.heap.size + 1, 0, none⟩ = some (.int .u64 y0) := (HAd.out.cell 0).trans rfl
   have e22 : wn.cell? ⟨w.heap.size + 1, 1, none⟩ = some (.int .u64 y1) := (HAd.out.cell 1).trans rfl
   have e23 : wn.cell? ⟨w.heap.size + 1, 2, none⟩ = some (.int .u64 y2) := (HAd.out.cell 2).trans rfl
   have e24 : wn.cell? ⟨w.heap.size + 1, 3, none⟩ = some (.int .u64 y3) := (HAd.out.cell 3).trans rfl
   have kA := HKd.out.reg ha16
   have fA := HKd.out.bk.frozen (18 + a)
   clear hbn)
  all_goals
   clear d0 d1 d2 d3 d4 d5 d6 d7 d8 d9 d10 d11 d12 d13 d14 d15 d16 d17 d18 d19 d20 d21 d22 d23 d24 e0 e1 e2 e3 e4 e5 e6 e7 e8 e9 e10 e11 e12 e13 e14 e15 e16 e17 e18 e19 e20 e21 e22 e23 e24
   go_wp2_with fail
   go_meet
   exact ⟨rfl, HKd.out.setReg ha16 V, HZd.out.set_ne (by omega) _ _, HId.out.set_ne (by omega) _ _, HBd.out.setCell (Nat.le_refl _) _⟩
 case rest =>
  obtain ⟨rfl, HK, HZ, HI, HB⟩ := hcut
  clear d0 d1 d2 d3 d4 d5 d6 d7 d8 d9 d10 d11 d12 d13 d14 d15 d16 d17 d18 d19 d20 d21 d22 d23 d24 e0 e1 e2 e3 e4 e5 e6 e7 e8 e9 e10 e11 e12 e13 e14 e15 e16 e17 e18 e19 e20 e21 e22 e23 e24 kA fA HKd HId HAd HZd HBd
  have j0 := (HI.out.cell 0).trans rfl
  have j1 := (HI.out.cell 1).trans rfl
  have j4 := (HI.out.cell 4).trans rfl
  go_upto_region 19 with fail
  have HE : Hid (step17 args fuel maxw ⟨op, (a : Int), ib, ic, imm⟩ r = { r with steps := st + 1, pc := (pc : Int) + 1, regs := r.regs.set a V }) := by show _ = _; rw [step_reckon (by show ¬ fuel ≤ r.steps; rw [HST.out]; have := HFS.out; omega) hop, HST.out, HPC.out, HV.out]; rfl
  have HF := Lib.hid (((hv.out.setSteps (st + 1)).setPc ((pc : Int) + 1)).setReg a V)
  have HOne := Lib.hid HF.out.ones
  go_wp2_with (first
   | (refine wpList_load_row (by rfl) 87 (.tmp 5) (by rfl) w.heap.size (by rfl) 87 _ (0, 0) _ HK.out.bk Try.underlying87 (by rfl) (info_run17 HK.out.sz) ?_)
   | (refine wpList_store_row (by rfl) 87 (.tmp 10) (.tmp 105) (by rfl) (w.heap.size + 1 + 1) _ (by rfl) (by rfl) 87 zero41 HZ.out (info_run17 HK.out.sz) (zero41_size HK.out.sz) HOne.out ?_))
  refine bodyPost_ret (res_run 10 rfl _ _ (w.heap.size + 1 + 1) _ (by rfl) ⟨HZ.out.setRow _, HK.out.sz⟩) rfl ?_
  have hb9 := fun cs => lbelow_setRow HB.out (show w.heap.size ≤ w.heap.size + 1 + 1 by omega) cs
  rw [HE.out]
  exact ⟨_, rfl, (HF.out.below (hb9 _)).more (hb9 _).size, (HSS.out.keep rfl rfl rfl), hb9 _⟩
end Go.Proofs.Ytjggmimaolddkaa
