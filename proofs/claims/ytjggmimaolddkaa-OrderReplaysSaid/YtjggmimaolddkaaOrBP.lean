import Derived.Test.YtjggmimaolddkaaOrBF
namespace Go.Proofs.Ytjggmimaolddkaa
open Go.RowKit
set_option linter.unusedVariables false
set_option linter.unusedSimpArgs false
set_option maxRecDepth 100000 in
set_option maxHeartbeats 16000000 in
theorem rstep_bb (c : RR) (r : MRun) (ia ib ic imm : Int) (l : List Ins) (A : Option Addr) (n k : Nat) (args : List Int) (fuel maxw : Int) (w : World) (hv0 : RVIn w w.heap.size c r) (hI : RdI w w.heap.size A n l) (hpc0 : 0 ≤ r.pc) (hli : l[r.pc.toNat]? = some ⟨19, ia, ib, ic, imm⟩) (hi : InsOk ⟨19, ia, ib, ic, imm⟩) (h4 : args.length = 4) (hu0 : ∀ x ∈ r.regs, U64 x) (hw0 : 0 ≤ r.writes ∧ r.writes ≤ 1000000000000) (hmw : 0 ≤ maxw ∧ maxw ≤ 1000000) (hfu : 0 ≤ fuel ∧ fuel ≤ 1000000) (hst : 0 ≤ r.steps) (hpu : ∀ x ∈ r.pick, U64 x) (hn : r.news.length ≤ 1000000) (S : Nat → Prop) (hs : SIn S c) (hSl : ∀ b, S b → b < w.heap.size) (hz : r.reg ia ≠ 0) :
 Calls Try.prog 42 #[.agg c.cells.toArray, .slice A n k, .agg (u64s args).toArray, .int .i64 fuel, .int .i64 maxw] w (RunP S (step17 args fuel maxw ⟨19, ia, ib, ic, imm⟩ r) w) := by
 obtain ⟨⟨⟨a0, a1⟩, ⟨b0, b1⟩, ⟨cc0, cc1⟩⟩, ⟨o0, o1⟩, him, harg, hgoes⟩ := hi
 simp only at a0 a1 b0 b1 cc0 cc1 o0 o1 him harg hgoes
 obtain ⟨a, rfl⟩ : ∃ a : Nat, ia = (a : Int) := ⟨ia.toNat, by omega⟩
 have ha16 : a < 16 := by omega
 have hv := Lib.hid hv0
 have HRI := Lib.hid hI
 have HPU := Lib.hid hpu
 have HN := Lib.hid hn
 have HSS := Lib.hid hs
 have HSL := Lib.hid hSl
 have HRG := Lib.hid hv0.regs
 have HU := Lib.hid hu0
 have HW0 := Lib.hid hw0
 have HMW := Lib.hid hmw
 have HIM := Lib.hid him
 have HAR := Lib.hid harg
 have H4 := Lib.hid h4
 have HBC := Lib.hid (And.intro (And.intro b0 b1) (And.intro cc0 cc1))
 obtain ⟨pc, hpc⟩ : ∃ pc : Nat, r.pc = (pc : Int) := ⟨r.pc.toNat, by omega⟩
 rw [hpc, Int.toNat_natCast] at hli
 obtain ⟨st, hst1⟩ : ∃ st, r.steps = st := ⟨_, rfl⟩
 rw [hst1] at hst
 have hcpc : c.pc = (pc : Int) := hv0.pc.trans hpc
 have hcst : c.steps = st := hv0.steps.trans hst1
 have hpl : pc < l.length := (List.getElem?_eq_some_iff.1 hli).1
 have hpn : pc < n := by rw [← hI.insLen]; exact hpl
 have hn63 := hI.le
 unfold maxLen at hn63
 have hpni : (pc : Int) < (n : Int) := by omega
 have HPC := Lib.hid hpc
 have HST := Lib.hid hst1
 have HCP := Lib.hid hcpc
 have HCS := Lib.hid hcst
 have HLI := Lib.hid hli
 obtain ⟨Y, hYY⟩ : ∃ Y, c.regs.getD a 0 = Y := ⟨_, rfl⟩
 have hYr : r.reg (a : Int) = Y := by rw [← hYY, hv0.regs]; rfl
 have HYr := Lib.hid hYr
 have HYY := Lib.hid hYY
 have uY : U64 Y := by rw [← hYr]; exact getD_u64 hu0 _
 have uY0 := uY.1
 have hsz := hv0.sz
 obtain ⟨M, hM⟩ : ∃ M, c.cells.toArray = M := ⟨_, rfl⟩
 obtain ⟨CA, hCA⟩ : ∃ CA, (u64s args).toArray = CA := ⟨_, rfl⟩
 rw [hM, hCA]
 obtain ⟨W1, hW1⟩ : ∃ W1, ((w.alloc (.cells M 87)).alloc (.cells CA 37)).alloc (.cells #[.int .u64 0, .int .u64 0, .int .u64 0, .int .u64 0, .int .u64 0, .int .u64 0, .int .u64 0, .int .u64 0, .int .u64 0, .int .u64 0, .int .u64 0, .int .u64 0, .int .u64 0, .int .u64 0, .int .u64 0, .int .u64 0, .slice none 0 0, .int .i64 0, .int .u64 0, .int .u64 0, .int .u64 0, .int .u64 0, .int .u64 0, .int .u64 0, .int .u64 0, .int .u64 0, .int .u64 0, .int .u64 0, .int .u64 0, .int .u64 0, .int .u64 0, .int .u64 0, .int .u64 0, .int .u64 0, .int .i64 0, .int .i64 0, .slice none 0 0, .slice none 0 0, .bool false, .int .u64 0, .int .i64 0] 87) = W1 := ⟨_, rfl⟩
 have HB : Hid (Below w.heap.size w W1) := by show Below _ _ _; rw [← hW1]; exact (((Below.refl _ _).alloc (Nat.le_refl _) _).alloc (by simp) _).alloc (by simp; omega) _
 have HK : Hid (BkC W1 w.heap.size c) := by show BkC _ _ _; rw [← hW1, ← hM]; exact ⟨((Bk.new w _ _).alloc _).alloc _, hsz⟩
 have HAg : Hid (Bk W1 (w.heap.size + 1) 37 CA) := by show Bk _ _ _ _; rw [← hW1]; exact (rf_new1 _ (by simp) _ _).alloc _
 have HZ : Hid (Bk W1 (w.heap.size + 1 + 1) 87 zero41) := by show Bk _ _ _ _; rw [← hW1]; exact rf_new1 _ (by simp) _ _
 have HSz : Hid (W1.heap.size = w.heap.size + 1 + 1 + 1) := by show _ = _; rw [← hW1]; simp
 have HW1 := Lib.hid hW1
 have HCA := Lib.hid hCA
 have k34 : W1.cell? ⟨w.heap.size, 34, none⟩ = some (.int .i64 st) := HK.out.steps.trans (by rw [hcst])
 clear hv0 hI hpc0 hu0 hpu hs hSl hsz hW1 hYY hYr uY him harg hpl hst1 hpc hcpc hcst hli hn h4 hCA hw0 hmw
 go_enter Try.func42, Try.ntmps42
 go_upto_region 1 with fail
 rw [HW1.out]
 clear HW1
 by_cases hfs : fuel ≤ st
 ·have gf : decide (fuel ≤ st) = true := decide_eq_true hfs
  have HE : Hid (step17 args fuel maxw ⟨19, (a : Int), ib, ic, imm⟩ r = { r with code := 41 }) := step_fuel (by rw [HST.out]; exact hfs)
  go_upto_region 2 with fail
  have HF := Lib.hid (hv.out.setE 41)
  have HOne := Lib.hid HF.out.ones
  have c40 := HK.out.err
  have f40 : W1.frozen? ⟨w.heap.size, 40, none⟩ = false := HK.out.bk.frozen 40
  have HK43 := Lib.hid (HK.out.setE 41)
  have HZ43 : Hid (Bk (W1.setCell ⟨w.heap.size, 40, none⟩ (.int .i64 41)) (w.heap.size + 1 + 1) 87 zero41) := HZ.out.set_ne (by omega) _ _
  have HB43 : Hid (Below w.heap.size w (W1.setCell ⟨w.heap.size, 40, none⟩ (.int .i64 41))) := HB.out.setCell (Nat.le_refl _) _
  go_wp2_with (first
   | (refine wpList_load_row (by rfl) 87 (.tmp 5) (by rfl) w.heap.size (by rfl) 87 ({ c with e := 41 } : RR).cells.toArray (0, 0) _ HK43.out.bk Try.underlying87 (by rfl) (info_run17 HK43.out.sz) ?_)
   | (refine wpList_store_row (by rfl) 87 (.tmp 10) (.tmp 17) (by rfl) (w.heap.size + 1 + 1) ({ c with e := 41 } : RR).cells.toArray (by rfl) (by rfl) 87 zero41 HZ43.out (info_run17 HK43.out.sz) (zero41_size HK43.out.sz) HOne.out ?_))
  refine bodyPost_ret (res_run 10 rfl _ _ (w.heap.size + 1 + 1) { c with e := 41 } (by rfl) ⟨HZ43.out.setRow _, HK43.out.sz⟩) rfl ?_
  have hb9 := lbelow_setRow HB43.out (show w.heap.size ≤ w.heap.size + 1 + 1 by omega) ({ c with e := 41 } : RR).cells.toArray
  rw [HE.out]
  exact ⟨_, rfl, (HF.out.below hb9).more hb9.size, (HSS.out.keep rfl rfl rfl), hb9⟩
 have gf : decide (fuel ≤ st) = false := decide_eq_false hfs
 have HFS : Hid (¬ fuel ≤ st) := hfs
 have k17 : W1.cell? ⟨w.heap.size, 17, none⟩ = some (.int .i64 pc) := HK.out.pc.trans (by rw [HCP.out])
 obtain ⟨cb, co, i', rfl, hcb, hl', hcell⟩ := HRI.out.insAt hpn
 rw [HLI.out] at hl'
 injection hl' with hl'
 subst hl'
 have z0 : W1.cell? ⟨cb, co + pc * 5, none⟩ = some (.int .i64 19) := (HB.out.cell (p := ⟨cb, co + pc * 5, none⟩) hcb).trans hcell.1
 have z1 : W1.cell? ⟨cb, co + pc * 5 + 1, none⟩ = some (.int .i64 a) := (HB.out.cell (p := ⟨cb, co + pc * 5 + 1, none⟩) hcb).trans hcell.2.1
 have z2 : W1.cell? ⟨cb, co + pc * 5 + 2, none⟩ = some (.int .i64 ib) := (HB.out.cell (p := ⟨cb, co + pc * 5 + 2, none⟩) hcb).trans hcell.2.2.1
 have z3 : W1.cell? ⟨cb, co + pc * 5 + 3, none⟩ = some (.int .i64 ic) := (HB.out.cell (p := ⟨cb, co + pc * 5 + 3, none⟩) hcb).trans hcell.2.2.2.1
 have z4 : W1.cell? ⟨cb, co + pc * 5 + 4, none⟩ = some (.int .u64 imm) := (HB.out.cell (p := ⟨cb, co + pc * 5 + 4, none⟩) hcb).trans hcell.2.2.2.2
 clear hcell
 go_upto_region 5 with fail
 obtain ⟨W2, hW2⟩ : ∃ W2, W1.alloc (.cells #[.int .i64 19, .int .i64 a, .int .i64 ib, .int .i64 ic, .int .u64 imm] 62) = W2 := ⟨_, rfl⟩
 have HK' : Hid (BkC W2 w.heap.size c) := by show BkC _ _ _; rw [← hW2]; exact HK.out.alloc _
 have HB' : Hid (Below w.heap.size w W2) := by show Below _ _ _; rw [← hW2]; exact HB.out.alloc HB.out.size _
 have HZ' : Hid (Bk W2 (w.heap.size + 1 + 1) 87 zero41) := by show Bk _ _ _ _; rw [← hW2]; exact HZ.out.alloc _
 have HI' : Hid (Bk W2 (w.heap.size + 1 + 1 + 1) 62 #[.int .i64 19, .int .i64 a, .int .i64 ib, .int .i64 ic, .int .u64 imm]) := by show Bk _ _ _ _; rw [← hW2]; exact rf_new1 _ HSz.out _ _
 have HAg' : Hid (Bk W2 (w.heap.size + 1) 37 CA) := by show Bk _ _ _ _; rw [← hW2]; exact HAg.out.alloc _
 try rw [hW2]
 rw [HSz.out]
 clear hW2 k34 k17 z0 z1 z2 z3 z4 HK HB HZ HAg HSz
 have HK := HK'
 have HB := HB'
 have HZ := HZ'
 have HI := HI'
 have HAg := HAg'
 clear HK' HB' HZ' HI' HAg'
 have k34 : W2.cell? ⟨w.heap.size, 34, none⟩ = some (.int .i64 st) := HK.out.steps.trans (by rw [HCS.out])
 have f34 := HK.out.bk.frozen 34
 obtain ⟨W3, hW3⟩ : ∃ W3, W2.setCell ⟨w.heap.size, 34, none⟩ (.int .i64 (st + 1)) = W3 := ⟨_, rfl⟩
 have HK' := Lib.hid (show BkC W3 w.heap.size _ by rw [← hW3]; exact HK.out.setSteps (st + 1))
 have HB' : Hid (Below w.heap.size w W3) := by show Below _ _ _; rw [← hW3]; exact HB.out.setCell (Nat.le_refl _) _
 have HZ' : Hid (Bk W3 (w.heap.size + 1 + 1) 87 zero41) := by show Bk _ _ _ _; rw [← hW3]; exact HZ.out.set_ne (by omega) _ _
 have HI' : Hid (Bk W3 (w.heap.size + 1 + 1 + 1) 62 #[.int .i64 19, .int .i64 a, .int .i64 ib, .int .i64 ic, .int .u64 imm]) := by show Bk _ _ _ _; rw [← hW3]; exact HI.out.set_ne (by omega) _ _
 have HAg' : Hid (Bk W3 (w.heap.size + 1) 37 CA) := by show Bk _ _ _ _; rw [← hW3]; exact HAg.out.set_ne (by omega) _ _
 go_upto_region 6 with fail
 try rw [hW3]
 clear hW3 k34 f34
 clear HK HB HZ HI HAg
 have HK := HK'
 have HB := HB'
 have HZ := HZ'
 have HI := HI'
 have HAg := HAg'
 clear HK' HB' HZ' HI' HAg' 
 have k17 : W3.cell? ⟨w.heap.size, 17, none⟩ = some (.int .i64 pc) := HK.out.pc.trans (by show some (Value.int .i64 c.pc) = _; rw [HCP.out])
 have f17 := HK.out.bk.frozen 17
 obtain ⟨W4, hW4⟩ : ∃ W4, W3.setCell ⟨w.heap.size, 17, none⟩ (.int .i64 (pc + 1)) = W4 := ⟨_, rfl⟩
 have HK' := Lib.hid (show BkC W4 w.heap.size _ by rw [← hW4]; exact HK.out.setPc (pc + 1))
 have HB' : Hid (Below w.heap.size w W4) := by show Below _ _ _; rw [← hW4]; exact HB.out.setCell (Nat.le_refl _) _
 have HZ' : Hid (Bk W4 (w.heap.size + 1 + 1) 87 zero41) := by show Bk _ _ _ _; rw [← hW4]; exact HZ.out.set_ne (by omega) _ _
 have HI' : Hid (Bk W4 (w.heap.size + 1 + 1 + 1) 62 #[.int .i64 19, .int .i64 a, .int .i64 ib, .int .i64 ic, .int .u64 imm]) := by show Bk _ _ _ _; rw [← hW4]; exact HI.out.set_ne (by omega) _ _
 have HAg' : Hid (Bk W4 (w.heap.size + 1) 37 CA) := by show Bk _ _ _ _; rw [← hW4]; exact HAg.out.set_ne (by omega) _ _
 go_upto_region 7 with fail
 try rw [hW4]
 clear hW4 k17 f17
 clear HK HB HZ HI HAg
 have HK := HK'
 have HB := HB'
 have HZ := HZ'
 have HI := HI'
 have HAg := HAg'
 clear HK' HB' HZ' HI' HAg' 
 have j0 := (HI.out.cell 0).trans rfl
 have j1 := (HI.out.cell 1).trans rfl
 have j4 := (HI.out.cell 4).trans rfl
 have kY : W4.cell? ⟨w.heap.size, 18 + a, none⟩ = some (.int .u64 Y) := (HK.out.reg ha16).trans (by show some (Value.int .u64 (c.regs.getD a 0)) = _; rw [HYY.out])
 have hy : Y ≠ 0 := fun e => hz (HYr.out.trans e)
 have gy : (Y == 0) = false := beq_eq_false_iff_ne.2 hy
 have gy2 : (Y != 0) = true := bne_iff_ne.2 hy
 have him2 : imm ≤ 256 := hgoes (by omega) (by omega)
 have him0 := HIM.out.1
 have himw : IntKind.i64.wrap imm = imm := by rw [IntKind.wrap_i64]; omega
 have kS := HK.out.pc
 have fS := HK.out.bk.frozen 17
 obtain ⟨W5, hW5⟩ : ∃ W5, W4.setCell ⟨w.heap.size, 17, none⟩ (.int .i64 imm) = W5 := ⟨_, rfl⟩
 have HK' := Lib.hid (show BkC W5 w.heap.size _ by rw [← hW5]; exact HK.out.setPc imm)
 have HB' : Hid (Below w.heap.size w W5) := by show Below _ _ _; rw [← hW5]; exact HB.out.setCell (Nat.le_refl _) _
 have HZ' : Hid (Bk W5 (w.heap.size + 1 + 1) 87 zero41) := by show Bk _ _ _ _; rw [← hW5]; exact HZ.out.set_ne (by omega) _ _
 have HI' : Hid (Bk W5 (w.heap.size + 1 + 1 + 1) 62 #[.int .i64 19, .int .i64 a, .int .i64 ib, .int .i64 ic, .int .u64 imm]) := by show Bk _ _ _ _; rw [← hW5]; exact HI.out.set_ne (by omega) _ _
 have HAg' : Hid (Bk W5 (w.heap.size + 1) 37 CA) := by show Bk _ _ _ _; rw [← hW5]; exact HAg.out.set_ne (by omega) _ _
 go_upto_region 9 with fail
 try rw [hW5]
 clear hW5 kS fS
 clear HK HB HZ HI HAg
 have HK := HK'
 have HB := HB'
 have HZ := HZ'
 have HI := HI'
 have HAg := HAg'
 clear HK' HB' HZ' HI' HAg' 
 have j0 := (HI.out.cell 0).trans rfl
 have j1 := (HI.out.cell 1).trans rfl
 have j4 := (HI.out.cell 4).trans rfl
 go_upto_region 19 with fail
 have HE : Hid (step17 args fuel maxw ⟨19, (a : Int), ib, ic, imm⟩ r = { r with steps := st + 1, pc := imm }) := by show _ = _; rw [step_good (by show ¬ fuel ≤ r.steps; rw [HST.out]; have := HFS.out; omega) (r' := { r with steps := r.steps + 1, pc := imm }) (by have hyr : ({ r with steps := r.steps + 1, pc := r.pc + 1 } : MRun).reg (a : Int) = Y := HYr.out; simp [doP, hyr, hy]), HST.out]
 have HF := Lib.hid (((hv.out.setSteps (st + 1)).setPc ((pc : Int) + 1)).setPc imm)
 have HOne := Lib.hid HF.out.ones
 go_wp2_with (first
  | (refine wpList_load_row (by rfl) 87 (.tmp 5) (by rfl) w.heap.size (by rfl) 87 _ (0, 0) _ HK.out.bk Try.underlying87 (by rfl) (info_run17 HK.out.sz) ?_)
  | (refine wpList_store_row (by rfl) 87 (.tmp 10) (.tmp 105) (by rfl) (w.heap.size + 1 + 1) _ (by rfl) (by rfl) 87 zero41 HZ.out (info_run17 HK.out.sz) (zero41_size HK.out.sz) HOne.out ?_))
 refine bodyPost_ret (res_run 10 rfl _ _ (w.heap.size + 1 + 1) _ (by rfl) ⟨HZ.out.setRow _, HK.out.sz⟩) rfl ?_
 have hb9 := fun cs => lbelow_setRow HB.out (show w.heap.size ≤ w.heap.size + 1 + 1 by omega) cs
 rw [HE.out]
 exact ⟨_, rfl, (HF.out.below (hb9 _)).more (hb9 _).size, (HSS.out.keep rfl rfl rfl), hb9 _⟩
end Go.Proofs.Ytjggmimaolddkaa
namespace Go.Proofs.Ytjggmimaolddkaa
open Go.RowKit
set_option linter.unusedVariables false
set_option linter.unusedSimpArgs false
set_option maxRecDepth 100000 in
set_option maxHeartbeats 16000000 in
theorem rstep_re (c : RR) (r : MRun) (ia ib ic imm : Int) (l : List Ins) (A : Option Addr) (n k : Nat) (args : List Int) (fuel maxw : Int) (w : World) (hv0 : RVIn w w.heap.size c r) (hI : RdI w w.heap.size A n l) (hpc0 : 0 ≤ r.pc) (hli : l[r.pc.toNat]? = some ⟨20, ia, ib, ic, imm⟩) (hi : InsOk ⟨20, ia, ib, ic, imm⟩) (h4 : args.length = 4) (hu0 : ∀ x ∈ r.regs, U64 x) (hw0 : 0 ≤ r.writes ∧ r.writes ≤ 1000000000000) (hmw : 0 ≤ maxw ∧ maxw ≤ 1000000) (hfu : 0 ≤ fuel ∧ fuel ≤ 1000000) (hst : 0 ≤ r.steps) (hpu : ∀ x ∈ r.pick, U64 x) (hn : r.news.length ≤ 1000000) (S : Nat → Prop) (hs : SIn S c) (hSl : ∀ b, S b → b < w.heap.size)  :
 Calls Try.prog 42 #[.agg c.cells.toArray, .slice A n k, .agg (u64s args).toArray, .int .i64 fuel, .int .i64 maxw] w (RunP S (step17 args fuel maxw ⟨20, ia, ib, ic, imm⟩ r) w) := by
 obtain ⟨⟨⟨a0, a1⟩, ⟨b0, b1⟩, ⟨cc0, cc1⟩⟩, ⟨o0, o1⟩, him, harg, hgoes⟩ := hi
 simp only at a0 a1 b0 b1 cc0 cc1 o0 o1 him harg hgoes
 obtain ⟨a, rfl⟩ : ∃ a : Nat, ia = (a : Int) := ⟨ia.toNat, by omega⟩
 have ha16 : a < 16 := by omega
 have hv := Lib.hid hv0
 have HRI := Lib.hid hI
 have HPU := Lib.hid hpu
 have HN := Lib.hid hn
 have HSS := Lib.hid hs
 have HSL := Lib.hid hSl
 have HRG := Lib.hid hv0.regs
 have HU := Lib.hid hu0
 have HW0 := Lib.hid hw0
 have HMW := Lib.hid hmw
 have HIM := Lib.hid him
 have HAR := Lib.hid harg
 have H4 := Lib.hid h4
 have HBC := Lib.hid (And.intro (And.intro b0 b1) (And.intro cc0 cc1))
 obtain ⟨pc, hpc⟩ : ∃ pc : Nat, r.pc = (pc : Int) := ⟨r.pc.toNat, by omega⟩
 rw [hpc, Int.toNat_natCast] at hli
 obtain ⟨st, hst1⟩ : ∃ st, r.steps = st := ⟨_, rfl⟩
 rw [hst1] at hst
 have hcpc : c.pc = (pc : Int) := hv0.pc.trans hpc
 have hcst : c.steps = st := hv0.steps.trans hst1
 have hpl : pc < l.length := (List.getElem?_eq_some_iff.1 hli).1
 have hpn : pc < n := by rw [← hI.insLen]; exact hpl
 have hn63 := hI.le
 unfold maxLen at hn63
 have hpni : (pc : Int) < (n : Int) := by omega
 have HPC := Lib.hid hpc
 have HST := Lib.hid hst1
 have HCP := Lib.hid hcpc
 have HCS := Lib.hid hcst
 have HLI := Lib.hid hli
 obtain ⟨Y, hYY⟩ : ∃ Y, c.regs.getD a 0 = Y := ⟨_, rfl⟩
 have hYr : r.reg (a : Int) = Y := by rw [← hYY, hv0.regs]; rfl
 have HYr := Lib.hid hYr
 have HYY := Lib.hid hYY
 have uY : U64 Y := by rw [← hYr]; exact getD_u64 hu0 _
 have uY0 := uY.1
 have hsz := hv0.sz
 obtain ⟨M, hM⟩ : ∃ M, c.cells.toArray = M := ⟨_, rfl⟩
 obtain ⟨CA, hCA⟩ : ∃ CA, (u64s args).toArray = CA := ⟨_, rfl⟩
 rw [hM, hCA]
 obtain ⟨W1, hW1⟩ : ∃ W1, ((w.alloc (.cells M 87)).alloc (.cells CA 37)).alloc (.cells #[.int .u64 0, .int .u64 0, .int .u64 0, .int .u64 0, .int .u64 0, .int .u64 0, .int .u64 0, .int .u64 0, .int .u64 0, .int .u64 0, .int .u64 0, .int .u64 0, .int .u64 0, .int .u64 0, .int .u64 0, .int .u64 0, .slice none 0 0, .int .i64 0, .int .u64 0, .int .u64 0, .int .u64 0, .int .u64 0, .int .u64 0, .int .u64 0, .int .u64 0, .int .u64 0, .int .u64 0, .int .u64 0, .int .u64 0, .int .u64 0, .int .u64 0, .int .u64 0, .int .u64 0, .int .u64 0, .int .i64 0, .int .i64 0, .slice none 0 0, .slice none 0 0, .bool false, .int .u64 0, .int .i64 0] 87) = W1 := ⟨_, rfl⟩
 have HB : Hid (Below w.heap.size w W1) := by show Below _ _ _; rw [← hW1]; exact (((Below.refl _ _).alloc (Nat.le_refl _) _).alloc (by simp) _).alloc (by simp; omega) _
 have HK : Hid (BkC W1 w.heap.size c) := by show BkC _ _ _; rw [← hW1, ← hM]; exact ⟨((Bk.new w _ _).alloc _).alloc _, hsz⟩
 have HAg : Hid (Bk W1 (w.heap.size + 1) 37 CA) := by show Bk _ _ _ _; rw [← hW1]; exact (rf_new1 _ (by simp) _ _).alloc _
 have HZ : Hid (Bk W1 (w.heap.size + 1 + 1) 87 zero41) := by show Bk _ _ _ _; rw [← hW1]; exact rf_new1 _ (by simp) _ _
 have HSz : Hid (W1.heap.size = w.heap.size + 1 + 1 + 1) := by show _ = _; rw [← hW1]; simp
 have HW1 := Lib.hid hW1
 have HCA := Lib.hid hCA
 have k34 : W1.cell? ⟨w.heap.size, 34, none⟩ = some (.int .i64 st) := HK.out.steps.trans (by rw [hcst])
 clear hv0 hI hpc0 hu0 hpu hs hSl hsz hW1 hYY hYr uY him harg hpl hst1 hpc hcpc hcst hli hn h4 hCA hw0 hmw
 go_enter Try.func42, Try.ntmps42
 go_upto_region 1 with fail
 rw [HW1.out]
 clear HW1
 by_cases hfs : fuel ≤ st
 ·have gf : decide (fuel ≤ st) = true := decide_eq_true hfs
  have HE : Hid (step17 args fuel maxw ⟨20, (a : Int), ib, ic, imm⟩ r = { r with code := 41 }) := step_fuel (by rw [HST.out]; exact hfs)
  go_upto_region 2 with fail
  have HF := Lib.hid (hv.out.setE 41)
  have HOne := Lib.hid HF.out.ones
  have c40 := HK.out.err
  have f40 : W1.frozen? ⟨w.heap.size, 40, none⟩ = false := HK.out.bk.frozen 40
  have HK43 := Lib.hid (HK.out.setE 41)
  have HZ43 : Hid (Bk (W1.setCell ⟨w.heap.size, 40, none⟩ (.int .i64 41)) (w.heap.size + 1 + 1) 87 zero41) := HZ.out.set_ne (by omega) _ _
  have HB43 : Hid (Below w.heap.size w (W1.setCell ⟨w.heap.size, 40, none⟩ (.int .i64 41))) := HB.out.setCell (Nat.le_refl _) _
  go_wp2_with (first
   | (refine wpList_load_row (by rfl) 87 (.tmp 5) (by rfl) w.heap.size (by rfl) 87 ({ c with e := 41 } : RR).cells.toArray (0, 0) _ HK43.out.bk Try.underlying87 (by rfl) (info_run17 HK43.out.sz) ?_)
   | (refine wpList_store_row (by rfl) 87 (.tmp 10) (.tmp 17) (by rfl) (w.heap.size + 1 + 1) ({ c with e := 41 } : RR).cells.toArray (by rfl) (by rfl) 87 zero41 HZ43.out (info_run17 HK43.out.sz) (zero41_size HK43.out.sz) HOne.out ?_))
  refine bodyPost_ret (res_run 10 rfl _ _ (w.heap.size + 1 + 1) { c with e := 41 } (by rfl) ⟨HZ43.out.setRow _, HK43.out.sz⟩) rfl ?_
  have hb9 := lbelow_setRow HB43.out (show w.heap.size ≤ w.heap.size + 1 + 1 by omega) ({ c with e := 41 } : RR).cells.toArray
  rw [HE.out]
  exact ⟨_, rfl, (HF.out.below hb9).more hb9.size, (HSS.out.keep rfl rfl rfl), hb9⟩
 have gf : decide (fuel ≤ st) = false := decide_eq_false hfs
 have HFS : Hid (¬ fuel ≤ st) := hfs
 have k17 : W1.cell? ⟨w.heap.size, 17, none⟩ = some (.int .i64 pc) := HK.out.pc.trans (by rw [HCP.out])
 obtain ⟨cb, co, i', rfl, hcb, hl', hcell⟩ := HRI.out.insAt hpn
 rw [HLI.out] at hl'
 injection hl' with hl'
 subst hl'
 have z0 : W1.cell? ⟨cb, co + pc * 5, none⟩ = some (.int .i64 20) := (HB.out.cell (p := ⟨cb, co + pc * 5, none⟩) hcb).trans hcell.1
 have z1 : W1.cell? ⟨cb, co + pc * 5 + 1, none⟩ = some (.int .i64 a) := (HB.out.cell (p := ⟨cb, co + pc * 5 + 1, none⟩) hcb).trans hcell.2.1
 have z2 : W1.cell? ⟨cb, co + pc * 5 + 2, none⟩ = some (.int .i64 ib) := (HB.out.cell (p := ⟨cb, co + pc * 5 + 2, none⟩) hcb).trans hcell.2.2.1
 have z3 : W1.cell? ⟨cb, co + pc * 5 + 3, none⟩ = some (.int .i64 ic) := (HB.out.cell (p := ⟨cb, co + pc * 5 + 3, none⟩) hcb).trans hcell.2.2.2.1
 have z4 : W1.cell? ⟨cb, co + pc * 5 + 4, none⟩ = some (.int .u64 imm) := (HB.out.cell (p := ⟨cb, co + pc * 5 + 4, none⟩) hcb).trans hcell.2.2.2.2
 clear hcell
 go_upto_region 5 with fail
 obtain ⟨W2, hW2⟩ : ∃ W2, W1.alloc (.cells #[.int .i64 20, .int .i64 a, .int .i64 ib, .int .i64 ic, .int .u64 imm] 62) = W2 := ⟨_, rfl⟩
 have HK' : Hid (BkC W2 w.heap.size c) := by show BkC _ _ _; rw [← hW2]; exact HK.out.alloc _
 have HB' : Hid (Below w.heap.size w W2) := by show Below _ _ _; rw [← hW2]; exact HB.out.alloc HB.out.size _
 have HZ' : Hid (Bk W2 (w.heap.size + 1 + 1) 87 zero41) := by show Bk _ _ _ _; rw [← hW2]; exact HZ.out.alloc _
 have HI' : Hid (Bk W2 (w.heap.size + 1 + 1 + 1) 62 #[.int .i64 20, .int .i64 a, .int .i64 ib, .int .i64 ic, .int .u64 imm]) := by show Bk _ _ _ _; rw [← hW2]; exact rf_new1 _ HSz.out _ _
 have HAg' : Hid (Bk W2 (w.heap.size + 1) 37 CA) := by show Bk _ _ _ _; rw [← hW2]; exact HAg.out.alloc _
 try rw [hW2]
 rw [HSz.out]
 clear hW2 k34 k17 z0 z1 z2 z3 z4 HK HB HZ HAg HSz
 have HK := HK'
 have HB := HB'
 have HZ := HZ'
 have HI := HI'
 have HAg := HAg'
 clear HK' HB' HZ' HI' HAg'
 have k34 : W2.cell? ⟨w.heap.size, 34, none⟩ = some (.int .i64 st) := HK.out.steps.trans (by rw [HCS.out])
 have f34 := HK.out.bk.frozen 34
 obtain ⟨W3, hW3⟩ : ∃ W3, W2.setCell ⟨w.heap.size, 34, none⟩ (.int .i64 (st + 1)) = W3 := ⟨_, rfl⟩
 have HK' := Lib.hid (show BkC W3 w.heap.size _ by rw [← hW3]; exact HK.out.setSteps (st + 1))
 have HB' : Hid (Below w.heap.size w W3) := by show Below _ _ _; rw [← hW3]; exact HB.out.setCell (Nat.le_refl _) _
 have HZ' : Hid (Bk W3 (w.heap.size + 1 + 1) 87 zero41) := by show Bk _ _ _ _; rw [← hW3]; exact HZ.out.set_ne (by omega) _ _
 have HI' : Hid (Bk W3 (w.heap.size + 1 + 1 + 1) 62 #[.int .i64 20, .int .i64 a, .int .i64 ib, .int .i64 ic, .int .u64 imm]) := by show Bk _ _ _ _; rw [← hW3]; exact HI.out.set_ne (by omega) _ _
 have HAg' : Hid (Bk W3 (w.heap.size + 1) 37 CA) := by show Bk _ _ _ _; rw [← hW3]; exact HAg.out.set_ne (by omega) _ _
 go_upto_region 6 with fail
 try rw [hW3]
 clear hW3 k34 f34
 clear HK HB HZ HI HAg
 have HK := HK'
 have HB := HB'
 have HZ := HZ'
 have HI := HI'
 have HAg := HAg'
 clear HK' HB' HZ' HI' HAg' 
 have k17 : W3.cell? ⟨w.heap.size, 17, none⟩ = some (.int .i64 pc) := HK.out.pc.trans (by show some (Value.int .i64 c.pc) = _; rw [HCP.out])
 have f17 := HK.out.bk.frozen 17
 obtain ⟨W4, hW4⟩ : ∃ W4, W3.setCell ⟨w.heap.size, 17, none⟩ (.int .i64 (pc + 1)) = W4 := ⟨_, rfl⟩
 have HK' := Lib.hid (show BkC W4 w.heap.size _ by rw [← hW4]; exact HK.out.setPc (pc + 1))
 have HB' : Hid (Below w.heap.size w W4) := by show Below _ _ _; rw [← hW4]; exact HB.out.setCell (Nat.le_refl _) _
 have HZ' : Hid (Bk W4 (w.heap.size + 1 + 1) 87 zero41) := by show Bk _ _ _ _; rw [← hW4]; exact HZ.out.set_ne (by omega) _ _
 have HI' : Hid (Bk W4 (w.heap.size + 1 + 1 + 1) 62 #[.int .i64 20, .int .i64 a, .int .i64 ib, .int .i64 ic, .int .u64 imm]) := by show Bk _ _ _ _; rw [← hW4]; exact HI.out.set_ne (by omega) _ _
 have HAg' : Hid (Bk W4 (w.heap.size + 1) 37 CA) := by show Bk _ _ _ _; rw [← hW4]; exact HAg.out.set_ne (by omega) _ _
 go_upto_region 7 with fail
 try rw [hW4]
 clear hW4 k17 f17
 clear HK HB HZ HI HAg
 have HK := HK'
 have HB := HB'
 have HZ := HZ'
 have HI := HI'
 have HAg := HAg'
 clear HK' HB' HZ' HI' HAg' 
 have j0 := (HI.out.cell 0).trans rfl
 have j1 := (HI.out.cell 1).trans rfl
 have j4 := (HI.out.cell 4).trans rfl
 have kY : W4.cell? ⟨w.heap.size, 18 + a, none⟩ = some (.int .u64 Y) := (HK.out.reg ha16).trans (by show some (Value.int .u64 (c.regs.getD a 0)) = _; rw [HYY.out])
 go_upto_region 10 with fail
 have kS := HK.out.ended
 have fS := HK.out.bk.frozen 38
 obtain ⟨W5, hW5⟩ : ∃ W5, W4.setCell ⟨w.heap.size, 38, none⟩ (.bool true) = W5 := ⟨_, rfl⟩
 have HK' := Lib.hid (show BkC W5 w.heap.size _ by rw [← hW5]; exact HK.out.setEnded true)
 have HB' : Hid (Below w.heap.size w W5) := by show Below _ _ _; rw [← hW5]; exact HB.out.setCell (Nat.le_refl _) _
 have HZ' : Hid (Bk W5 (w.heap.size + 1 + 1) 87 zero41) := by show Bk _ _ _ _; rw [← hW5]; exact HZ.out.set_ne (by omega) _ _
 have HI' : Hid (Bk W5 (w.heap.size + 1 + 1 + 1) 62 #[.int .i64 20, .int .i64 a, .int .i64 ib, .int .i64 ic, .int .u64 imm]) := by show Bk _ _ _ _; rw [← hW5]; exact HI.out.set_ne (by omega) _ _
 have HAg' : Hid (Bk W5 (w.heap.size + 1) 37 CA) := by show Bk _ _ _ _; rw [← hW5]; exact HAg.out.set_ne (by omega) _ _
 go_upto_region 11 with fail
 try rw [hW5]
 clear hW5 kS fS
 clear HK HB HZ HI HAg
 have HK := HK'
 have HB := HB'
 have HZ := HZ'
 have HI := HI'
 have HAg := HAg'
 clear HK' HB' HZ' HI' HAg' 
 have kY : W5.cell? ⟨w.heap.size, 18 + a, none⟩ = some (.int .u64 Y) := (HK.out.reg ha16).trans (by show some (Value.int .u64 (c.regs.getD a 0)) = _; rw [HYY.out])
 have j0 := (HI.out.cell 0).trans rfl
 have j1 := (HI.out.cell 1).trans rfl
 have j4 := (HI.out.cell 4).trans rfl
 have kS := HK.out.val
 have fS := HK.out.bk.frozen 39
 obtain ⟨W6, hW6⟩ : ∃ W6, W5.setCell ⟨w.heap.size, 39, none⟩ (.int .u64 Y) = W6 := ⟨_, rfl⟩
 have HK' := Lib.hid (show BkC W6 w.heap.size _ by rw [← hW6]; exact HK.out.setVal Y)
 have HB' : Hid (Below w.heap.size w W6) := by show Below _ _ _; rw [← hW6]; exact HB.out.setCell (Nat.le_refl _) _
 have HZ' : Hid (Bk W6 (w.heap.size + 1 + 1) 87 zero41) := by show Bk _ _ _ _; rw [← hW6]; exact HZ.out.set_ne (by omega) _ _
 have HI' : Hid (Bk W6 (w.heap.size + 1 + 1 + 1) 62 #[.int .i64 20, .int .i64 a, .int .i64 ib, .int .i64 ic, .int .u64 imm]) := by show Bk _ _ _ _; rw [← hW6]; exact HI.out.set_ne (by omega) _ _
 have HAg' : Hid (Bk W6 (w.heap.size + 1) 37 CA) := by show Bk _ _ _ _; rw [← hW6]; exact HAg.out.set_ne (by omega) _ _
 go_upto_region 12 with fail
 try rw [hW6]
 clear hW6 kS fS
 clear HK HB HZ HI HAg
 have HK := HK'
 have HB := HB'
 have HZ := HZ'
 have HI := HI'
 have HAg := HAg'
 clear HK' HB' HZ' HI' HAg' 
 have j0 := (HI.out.cell 0).trans rfl
 have j1 := (HI.out.cell 1).trans rfl
 have j4 := (HI.out.cell 4).trans rfl
 go_upto_region 19 with fail
 have HE : Hid (step17 args fuel maxw ⟨20, (a : Int), ib, ic, imm⟩ r = { r with steps := st + 1, pc := (pc : Int) + 1, ended := true, val := Y }) := by show _ = _; rw [step_good (by show ¬ fuel ≤ r.steps; rw [HST.out]; have := HFS.out; omega) (r' := { r with steps := r.steps + 1, pc := r.pc + 1, ended := true, val := Y }) (by have hyr : ({ r with steps := r.steps + 1, pc := r.pc + 1 } : MRun).reg (a : Int) = Y := HYr.out; simp [doP, hyr]), HST.out, HPC.out]
 have HF := Lib.hid ((((hv.out.setSteps (st + 1)).setPc ((pc : Int) + 1)).setEnded true).setVal Y)
 have HOne := Lib.hid HF.out.ones
 go_wp2_with (first
  | (refine wpList_load_row (by rfl) 87 (.tmp 5) (by rfl) w.heap.size (by rfl) 87 _ (0, 0) _ HK.out.bk Try.underlying87 (by rfl) (info_run17 HK.out.sz) ?_)
  | (refine wpList_store_row (by rfl) 87 (.tmp 10) (.tmp 105) (by rfl) (w.heap.size + 1 + 1) _ (by rfl) (by rfl) 87 zero41 HZ.out (info_run17 HK.out.sz) (zero41_size HK.out.sz) HOne.out ?_))
 refine bodyPost_ret (res_run 10 rfl _ _ (w.heap.size + 1 + 1) _ (by rfl) ⟨HZ.out.setRow _, HK.out.sz⟩) rfl ?_
 have hb9 := fun cs => lbelow_setRow HB.out (show w.heap.size ≤ w.heap.size + 1 + 1 by omega) cs
 rw [HE.out]
 exact ⟨_, rfl, (HF.out.below (hb9 _)).more (hb9 _).size, (HSS.out.keep rfl rfl rfl), hb9 _⟩
end Go.Proofs.Ytjggmimaolddkaa
