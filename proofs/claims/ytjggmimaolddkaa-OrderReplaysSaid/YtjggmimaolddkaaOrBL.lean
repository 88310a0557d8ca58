import Derived.Test.YtjggmimaolddkaaOrBF
namespace Go.Proofs.Ytjggmimaolddkaa
open Go.RowKit
set_option linter.unusedVariables false
set_option linter.unusedSimpArgs false
set_option maxRecDepth 100000 in
set_option maxHeartbeats 16000000 in
theorem rtouch12 (c : RR) (r : MRun) (ia ib ic imm maxw : Int) (w : World) (hv0 : RVIn w w.heap.size c r) (hu0 : ∀ x ∈ r.regs, U64 x) (ha : 0 ≤ ia ∧ ia < 16) (hb : 0 ≤ ib ∧ ib < 16) (hc : 0 ≤ ic ∧ ic < 16) (him : U64 imm) (hw0 : 0 ≤ r.writes ∧ r.writes ≤ 1000000000000) (hmw : 0 ≤ maxw ∧ maxw ≤ 1000000) (hpu : ∀ x ∈ r.pick, U64 x) (hn : r.news.length ≤ 1000000) (S : Nat → Prop) (hs : SIn S c) (hSl : ∀ b, S b → b < w.heap.size) :
 Calls Try.prog 59 #[.agg c.cells.toArray, Ins.v ⟨12, ia, ib, ic, imm⟩, .int .i64 maxw] w (RunP S (touch17 maxw ⟨12, ia, ib, ic, imm⟩ r) w) := by
 obtain ⟨a, rfl⟩ : ∃ a : Nat, ia = (a : Int) := ⟨ia.toNat, by omega⟩
 obtain ⟨b, rfl⟩ : ∃ a : Nat, ib = (a : Int) := ⟨ib.toNat, by omega⟩
 obtain ⟨cc, rfl⟩ : ∃ a : Nat, ic = (a : Int) := ⟨ic.toNat, by omega⟩
 have ha16 : a < 16 := by omega
 have hb16 : b < 16 := by omega
 obtain ⟨xA, xn, xk, l, hbv, hX, hBX⟩ := hv0.box
 have hv := Lib.hid hv0
 have HBV := Lib.hid hbv
 have HX := Lib.hid hX
 have HBX := Lib.hid hBX
 have HPU := Lib.hid hpu
 have HN := Lib.hid hn
 have HSS := Lib.hid hs
 have HSL := Lib.hid hSl
 have HRG := Lib.hid hv0.regs
 have HRT := Lib.hid hv0.roots
 have HCC := Lib.hid hc
 have hx65 := few_len hBX hv0.few hX
 obtain ⟨wr, hwr⟩ : ∃ wr, r.writes = wr := ⟨_, rfl⟩
 have hcw : c.writes = wr := hv0.writes.trans hwr
 rw [hwr] at hw0
 have HWR := Lib.hid hwr
 have HCW := Lib.hid hcw
 obtain ⟨X, hXX⟩ : ∃ X, c.regs.getD b 0 = X := ⟨_, rfl⟩
 have hXr : r.reg (b : Int) = X := by rw [← hXX, hv0.regs]; rfl
 have uX : U64 X := by rw [← hXr]; exact getD_u64 hu0 _
 obtain ⟨Y, hYY⟩ : ∃ Y, c.regs.getD a 0 = Y := ⟨_, rfl⟩
 have hYr : r.reg (a : Int) = Y := by rw [← hYY, hv0.regs]; rfl
 have uY : U64 Y := by rw [← hYr]; exact getD_u64 hu0 _
 have HXr := Lib.hid hXr
 have HYr := Lib.hid hYr
 have HYY := Lib.hid hYY
 have uX0 : 0 ≤ X := uX.1
 obtain ⟨wd, hwd⟩ : ∃ wd, wordOf ⟨12, (a : Int), (b : Int), (cc : Int), imm⟩ c.regs = wd := ⟨_, rfl⟩
 have hwdr : wordOf ⟨12, (a : Int), (b : Int), (cc : Int), imm⟩ r.regs = wd := by rw [← hwd, hv0.regs]
 have uwd : U64 wd := by
  rw [← hwdr]; unfold wordOf; split
  ·exact getD_u64 hu0 _
  ·exact him
 have HWD := Lib.hid hwd
 have HWDr := Lib.hid hwdr
 have uwd0 : 0 ≤ wd := uwd.1
 have HUX := Lib.hid uX
 have HUY := Lib.hid uY
 have hsz := hv0.sz
 obtain ⟨M, hM⟩ : ∃ M, c.cells.toArray = M := ⟨_, rfl⟩
 rw [hM]
 obtain ⟨W1, hW1⟩ : ∃ W1, ((w.alloc (.cells M 87)).alloc (.cells #[.int .i64 12, .int .i64 a, .int .i64 b, .int .i64 cc, .int .u64 imm] 62)).alloc (.cells #[.int .u64 0, .int .u64 0, .int .u64 0, .int .u64 0, .int .u64 0, .int .u64 0, .int .u64 0, .int .u64 0, .int .u64 0, .int .u64 0, .int .u64 0, .int .u64 0, .int .u64 0, .int .u64 0, .int .u64 0, .int .u64 0, .slice none 0 0, .int .i64 0, .int .u64 0, .int .u64 0, .int .u64 0, .int .u64 0, .int .u64 0, .int .u64 0, .int .u64 0, .int .u64 0, .int .u64 0, .int .u64 0, .int .u64 0, .int .u64 0, .int .u64 0, .int .u64 0, .int .u64 0, .int .u64 0, .int .i64 0, .int .i64 0, .slice none 0 0, .slice none 0 0, .bool false, .int .u64 0, .int .i64 0] 87) = W1 := ⟨_, rfl⟩
 have HB : Hid (Below w.heap.size w W1) := by show Below _ _ _; rw [← hW1]; exact (((Below.refl _ _).alloc (Nat.le_refl _) _).alloc (by simp) _).alloc (by simp; omega) _
 have HK : Hid (BkC W1 w.heap.size c) := by show BkC _ _ _; rw [← hW1, ← hM]; exact ⟨((Bk.new w _ _).alloc _).alloc _, hsz⟩
 have HI : Hid (Bk W1 (w.heap.size + 1) 62 #[.int .i64 12, .int .i64 a, .int .i64 b, .int .i64 cc, .int .u64 imm]) := by show Bk _ _ _ _; rw [← hW1]; exact (rf_new1 _ (by simp) _ _).alloc _
 have HZ : Hid (Bk W1 (w.heap.size + 1 + 1) 87 zero41) := by show Bk _ _ _ _; rw [← hW1]; exact rf_new1 _ (by simp) _ _
 have HW1 := Lib.hid hW1
 have k2 : W1.cell? ⟨w.heap.size, 18 + b, none⟩ = some (.int .u64 X) := (HK.out.reg hb16).trans (by rw [← hXX])
 have k3 : W1.cell? ⟨w.heap.size, 18 + a, none⟩ = some (.int .u64 Y) := (HK.out.reg ha16).trans (by rw [← hYY])
 have i0 := (HI.out.cell 0).trans rfl
 have i1 := (HI.out.cell 1).trans rfl
 have i2 := (HI.out.cell 2).trans rfl
 have i3 := (HI.out.cell 3).trans rfl
 have i4 := (HI.out.cell 4).trans rfl
 clear hv0 hu0 hpu hs hSl hsz hX hBX hbv hW1 hXX hXr uX hYY hYr uY hwd hwdr uwd him hwr hcw hc hn
 simp only [Ins.v]
 go_enter Try.func59, Try.ntmps59
 go_upto_region 1 with fail
 rw [HW1.out]
 clear HW1
 go_upto_region 4 with fail
 have HR18 : Hid (W1.rangeAt w.heap.size 18 (u64s c.regs)) := HK.out.rg
 have hi16 : (Try.prog.info? 50).map (·.size) = some (u64s c.regs).length := by rw [List.length_map, hv.out.sz.regs]; kernel_rfl
 go_wp2_with (refine wpList_load_mid (by rfl) 50 (.tmp 26) (by rfl) w.heap.size 18 (by rfl) (u64s c.regs) _ HR18.out Try.underlying50 (by rfl) hi16 ?_)
 refine (rword_any ⟨12, (a : Int), (b : Int), (cc : Int), imm⟩ c.regs W1 hv.out.sz.regs HCC.out).mono ?_
 rw [HWD.out]
 rintro e w2 ⟨rfl, hb2⟩
 clear i0 i1 i2 i3 i4 k2 k3 HR18 hi16 HCC HWD
 have HK' := Lib.hid (HK.out.below hb2)
 have HB' := Lib.hid (HB.out.trans (hb2.mono HB.out.size))
 have HZ' := Lib.hid (HZ.out.below hb2 HZ.out.lt)
 have HI' := Lib.hid (HI.out.below hb2 HI.out.lt)
 clear HK HB HZ HI
 have HK := HK'
 have HB := HB'
 have HZ := HZ'
 have HI := HI'
 clear HK' HB' HZ' HI' 
 clear hb2
 have HJ : Hid (w2.rangeAt w.heap.size 0 (stV c.roots (.slice xA xn xk))) := by show World.rangeAt _ _ _ _; rw [← HBV.out]; exact HK.out.st
 have hi17 : (Try.prog.info? 53).map (·.size) = some (stV c.roots (.slice xA xn xk)).length := by rw [show (stV c.roots (.slice xA xn xk)).length = 17 by simp [stV, hv.out.sz.roots]]; exact info_st17
 go_wp2_with (refine wpList_load_mid (by rfl) 53 (.tmp 29) (by rfl) w.heap.size 0 (by rfl) (stV c.roots (.slice xA xn xk)) _ HJ.out Try.underlying53 (by rfl) hi17 ?_)
 refine (rfindx_any (stV c.roots (.slice xA xn xk)).toArray l xA xn xk (stV_bv hv.out.sz.roots _) X w2 ((HX.out.below HB.out).more HB.out.size)).mono ?_
 rintro e w3 ⟨rfl, hb3⟩
 have HK' := Lib.hid (HK.out.below hb3)
 have HB' := Lib.hid (HB.out.trans (hb3.mono HB.out.size))
 have HZ' := Lib.hid (HZ.out.below hb3 HZ.out.lt)
 have HI' := Lib.hid (HI.out.below hb3 HI.out.lt)
 clear HK HB HZ HI
 have HK := HK'
 have HB := HB'
 have HZ := HZ'
 have HI := HI'
 clear HK' HB' HZ' HI' 
 clear hb3 HJ hi17
 have i0 := (HI.out.cell 0).trans rfl
 have i1 := (HI.out.cell 1).trans rfl
 rcases HBX.out.find X with ⟨hf1, hf2⟩ | ⟨kf, ws, hf1, hf2, hf3, hf4⟩
 ·rw [hf2]
  have HF1 := Lib.hid hf1
  clear hf1 hf2
  have HE : Hid (touch17 maxw ⟨12, (a : Int), (b : Int), (cc : Int), imm⟩ r = { r with code := 44 }) := dw_none (.inr (.inl rfl)) (by rw [HXr.out]; exact HF1.out)
  go_upto_region 7 with fail
  have HF := Lib.hid (hv.out.setE 44)
  have HOne := Lib.hid HF.out.ones
  have c40 := HK.out.err
  have f40 : w3.frozen? ⟨w.heap.size, 40, none⟩ = false := HK.out.bk.frozen 40
  have HK43 := Lib.hid (HK.out.setE 44)
  have HZ43 : Hid (Bk (w3.setCell ⟨w.heap.size, 40, none⟩ (.int .i64 44)) (w.heap.size + 1 + 1) 87 zero41) := HZ.out.set_ne (by omega) _ _
  have HB43 : Hid (Below w.heap.size w (w3.setCell ⟨w.heap.size, 40, none⟩ (.int .i64 44))) := HB.out.setCell (Nat.le_refl _) _
  go_wp2_with (first
   | (refine wpList_load_row (by rfl) 87 (.tmp 3) (by rfl) w.heap.size (by rfl) 87 ({ c with e := 44 } : RR).cells.toArray (0, 0) _ HK43.out.bk Try.underlying87 (by rfl) (info_run17 HK43.out.sz) ?_)
   | (refine wpList_store_row (by rfl) 87 (.tmp 6) (.tmp 68) (by rfl) (w.heap.size + 1 + 1) ({ c with e := 44 } : RR).cells.toArray (by rfl) (by rfl) 87 zero41 HZ43.out (info_run17 HK43.out.sz) (zero41_size HK43.out.sz) HOne.out ?_))
  refine bodyPost_ret (res_run 6 rfl _ _ (w.heap.size + 1 + 1) { c with e := 44 } (by rfl) ⟨HZ43.out.setRow _, HK43.out.sz⟩) rfl ?_
  have hb9 := lbelow_setRow HB43.out (show w.heap.size ≤ w.heap.size + 1 + 1 by omega) ({ c with e := 44 } : RR).cells.toArray
  rw [HE.out]
  exact ⟨_, rfl, (HF.out.below hb9).more hb9.size, (HSS.out.keep rfl rfl rfl), hb9⟩
 rw [hf2]
 have HF1 := Lib.hid hf1
 have HF3 := Lib.hid hf3
 have HF4 := Lib.hid hf4
 have gk : decide ((kf : Int) < 0) = false := decide_eq_false (by omega)
 clear hf1 hf2 hf3 hf4
 by_cases h8 : 7 < wd
 ·have g7 : decide (7 < wd) = true := decide_eq_true h8
  have H8 : Hid (8 ≤ wd) := by show _ ≤ _; omega
  have HE : Hid (touch17 maxw ⟨12, (a : Int), (b : Int), (cc : Int), imm⟩ r = { r with code := 44 }) := dw_far (.inr (.inl rfl)) (by rw [HXr.out]; exact HF1.out) (by rw [HWDr.out]; exact H8.out)
  go_upto_region 7 with fail
  have HF := Lib.hid (hv.out.setE 44)
  have HOne := Lib.hid HF.out.ones
  have c40 := HK.out.err
  have f40 : w3.frozen? ⟨w.heap.size, 40, none⟩ = false := HK.out.bk.frozen 40
  have HK43 := Lib.hid (HK.out.setE 44)
  have HZ43 : Hid (Bk (w3.setCell ⟨w.heap.size, 40, none⟩ (.int .i64 44)) (w.heap.size + 1 + 1) 87 zero41) := HZ.out.set_ne (by omega) _ _
  have HB43 : Hid (Below w.heap.size w (w3.setCell ⟨w.heap.size, 40, none⟩ (.int .i64 44))) := HB.out.setCell (Nat.le_refl _) _
  go_wp2_with (first
   | (refine wpList_load_row (by rfl) 87 (.tmp 3) (by rfl) w.heap.size (by rfl) 87 ({ c with e := 44 } : RR).cells.toArray (0, 0) _ HK43.out.bk Try.underlying87 (by rfl) (info_run17 HK43.out.sz) ?_)
   | (refine wpList_store_row (by rfl) 87 (.tmp 6) (.tmp 68) (by rfl) (w.heap.size + 1 + 1) ({ c with e := 44 } : RR).cells.toArray (by rfl) (by rfl) 87 zero41 HZ43.out (info_run17 HK43.out.sz) (zero41_size HK43.out.sz) HOne.out ?_))
  refine bodyPost_ret (res_run 6 rfl _ _ (w.heap.size + 1 + 1) { c with e := 44 } (by rfl) ⟨HZ43.out.setRow _, HK43.out.sz⟩) rfl ?_
  have hb9 := lbelow_setRow HB43.out (show w.heap.size ≤ w.heap.size + 1 + 1 by omega) ({ c with e := 44 } : RR).cells.toArray
  rw [HE.out]
  exact ⟨_, rfl, (HF.out.below hb9).more hb9.size, (HSS.out.keep rfl rfl rfl), hb9⟩
 have g7 : decide (7 < wd) = false := decide_eq_false (by omega)
 obtain ⟨x, hx⟩ : ∃ x : Nat, wd = (x : Int) := ⟨wd.toNat, by omega⟩
 subst hx
 have hx8 : x < 8 := by omega
 go_wp2_with fail
 refine (writes_at 12 0 w3 rfl).mono ?_
 intro e w' h9
 obtain ⟨rfl, h9⟩ := h9
 rw [← h9]
 clear h9 w'
 have k35 : w3.cell? ⟨w.heap.size, 35, none⟩ = some (.int .i64 wr) := HK.out.writes.trans (by rw [HCW.out])
 have f35 := HK.out.bk.frozen 35
 obtain ⟨W4, hW4⟩ : ∃ W4, w3.setCell ⟨w.heap.size, 35, none⟩ (.int .i64 wr) = W4 := ⟨_, rfl⟩
 have HK' := Lib.hid (show BkC W4 w.heap.size _ by rw [← hW4]; exact HK.out.setW _)
 have HB' : Hid (Below w.heap.size w W4) := by show Below _ _ _; rw [← hW4]; exact HB.out.setCell (Nat.le_refl _) _
 have HZ' : Hid (Bk W4 (w.heap.size + 1 + 1) 87 zero41) := by show Bk _ _ _ _; rw [← hW4]; exact HZ.out.set_ne (by omega) _ _
 have HI' : Hid (Bk W4 (w.heap.size + 1) 62 #[.int .i64 12, .int .i64 a, .int .i64 b, .int .i64 cc, .int .u64 imm]) := by show Bk _ _ _ _; rw [← hW4]; exact HI.out.set_ne (by omega) _ _
 obtain ⟨hkn, bA, bo, hA, hbB, hcell⟩ := HX.out.word HF3.out
 subst hA
 obtain ⟨R, hR⟩ : ∃ R, ws.getD x 0 = R := ⟨_, rfl⟩
 have kR : W4.cell? ⟨bA, bo + kf * 9 + 1 + x, none⟩ = some (.int .u64 R) := (HB'.out.cell (p := ⟨bA, bo + kf * 9 + 1 + x, none⟩) hbB).trans ((hcell x hx8).trans (by rw [hR]))
 have kB : W4.cell? ⟨w.heap.size, 16, none⟩ = some (.slice (some ⟨bA, bo, none⟩) xn xk) := HK'.out.bv.trans (by show some c.bv = _; rw [HBV.out])
 have kA : W4.cell? ⟨w.heap.size, 18 + a, none⟩ = some (.int .u64 Y) := (HK'.out.reg ha16).trans (by show some (Value.int .u64 (c.regs.getD a 0)) = _; rw [HYY.out])
 have fA := HK'.out.bk.frozen (18 + a)
 have j0 : W4.cell? ⟨w.heap.size + 1, 0, none⟩ = some (.int .i64 12) := (HI'.out.cell 0).trans rfl
 have j1 : W4.cell? ⟨w.heap.size + 1, 1, none⟩ = some (.int .i64 a) := (HI'.out.cell 1).trans rfl
 have HR := Lib.hid hR
 clear hR hcell
 go_upto_region 19 with fail
 try rw [hW4]
 clear hW4 k35 f35 i0 i1
 clear HK HB HZ HI
 have HK := HK'
 have HB := HB'
 have HZ := HZ'
 have HI := HI'
 clear HK' HB' HZ' HI' 
 have ha3 : (a : Int) < 16 := by omega
 have hx3 : (x : Int) < 8 := by omega
 have hkn3 : (kf : Int) < (xn : Int) := by omega
 go_still_tail 13, (by kernel_rfl)
 go_upto_region 27 with fail
 obtain ⟨W5, hW5⟩ : ∃ W5, (W4.setCell ⟨w.heap.size, 18 + a, none⟩ (.int .u64 R)).drew = W5 := ⟨_, rfl⟩
 try rw [hW5]
 have HK' := Lib.hid (show BkC W5 w.heap.size _ by rw [← hW5]; exact (HK.out.setReg ha16 R).drew)
 have HB' : Hid (Below w.heap.size w W5) := by show Below _ _ _; rw [← hW5]; exact (HB.out.setCell (Nat.le_refl _) _).drew
 have HZ' : Hid (Bk W5 (w.heap.size + 1 + 1) 87 zero41) := by show Bk _ _ _ _; rw [← hW5]; exact HZ.out.set_ne (by omega) _ _
 have HI' : Hid (Bk W5 (w.heap.size + 1) 62 #[.int .i64 12, .int .i64 a, .int .i64 b, .int .i64 cc, .int .u64 imm]) := by show Bk _ _ _ _; rw [← hW5]; exact HI.out.set_ne (by omega) _ _
 clear hW5
 clear HK HB HZ HI
 have HK := HK'
 have HB := HB'
 have HZ := HZ'
 have HI := HI'
 clear HK' HB' HZ' HI' 
 have HE : Hid (touch17 maxw ⟨12, (a : Int), (b : Int), (cc : Int), imm⟩ r = { r with regs := r.regs.set a (ws.getD x 0) }) := by show _ = _; rw [dr_ok (.inr rfl) (by rw [HXr.out]; exact HF1.out) (by rw [HWDr.out]; omega), HWDr.out]; try rfl
 have HF := Lib.hid ((show RVIn w w.heap.size { { c with writes := wr } with regs := c.regs.set a R } { r with regs := r.regs.set a (ws.getD x 0) } by rw [← HR.out, ← HCW.out]; exact hv.out.setReg a _))
 have HOne := Lib.hid HF.out.ones
 go_wp2_with (first
  | (refine wpList_load_row (by rfl) 87 (.tmp 3) (by rfl) w.heap.size (by rfl) 87 _ (0, 0) _ HK.out.bk Try.underlying87 (by rfl) (info_run17 HK.out.sz) ?_)
  | (refine wpList_store_row (by rfl) 87 (.tmp 6) (.tmp 173) (by rfl) (w.heap.size + 1 + 1) _ (by rfl) (by rfl) 87 zero41 HZ.out (info_run17 HK.out.sz) (zero41_size HK.out.sz) HOne.out ?_))
 refine bodyPost_ret (res_run 6 rfl _ _ (w.heap.size + 1 + 1) _ (by rfl) ⟨HZ.out.setRow _, HK.out.sz⟩) rfl ?_
 rw [HE.out]
 exact ⟨_, rfl, (HF.out.below (lbelow_setRow HB.out (show w.heap.size ≤ w.heap.size + 1 + 1 by omega) _)).more (lbelow_setRow HB.out (show w.heap.size ≤ w.heap.size + 1 + 1 by omega) _).size, (HSS.out.keep rfl rfl rfl), lbelow_setRow HB.out (show w.heap.size ≤ w.heap.size + 1 + 1 by omega) _⟩
end Go.Proofs.Ytjggmimaolddkaa
namespace Go.Proofs.Ytjggmimaolddkaa
open Go.RowKit
set_option linter.unusedVariables false
set_option linter.unusedSimpArgs false
set_option maxRecDepth 100000 in
set_option maxHeartbeats 16000000 in
theorem rtouch11 (c : RR) (r : MRun) (ia ib ic imm maxw : Int) (w : World) (hv0 : RVIn w w.heap.size c r) (hu0 : ∀ x ∈ r.regs, U64 x) (ha : 0 ≤ ia ∧ ia < 16) (hb : 0 ≤ ib ∧ ib < 16) (hc : 0 ≤ ic ∧ ic < 16) (him : U64 imm) (hw0 : 0 ≤ r.writes ∧ r.writes ≤ 1000000000000) (hmw : 0 ≤ maxw ∧ maxw ≤ 1000000) (hpu : ∀ x ∈ r.pick, U64 x) (hn : r.news.length ≤ 1000000) (S : Nat → Prop) (hs : SIn S c) (hSl : ∀ b, S b → b < w.heap.size) :
 Calls Try.prog 59 #[.agg c.cells.toArray, Ins.v ⟨11, ia, ib, ic, imm⟩, .int .i64 maxw] w (RunP S (touch17 maxw ⟨11, ia, ib, ic, imm⟩ r) w) := by
 obtain ⟨a, rfl⟩ : ∃ a : Nat, ia = (a : Int) := ⟨ia.toNat, by omega⟩
 obtain ⟨b, rfl⟩ : ∃ a : Nat, ib = (a : Int) := ⟨ib.toNat, by omega⟩
 obtain ⟨cc, rfl⟩ : ∃ a : Nat, ic = (a : Int) := ⟨ic.toNat, by omega⟩
 have ha16 : a < 16 := by omega
 have hb16 : b < 16 := by omega
 obtain ⟨xA, xn, xk, l, hbv, hX, hBX⟩ := hv0.box
 have hv := Lib.hid hv0
 have HBV := Lib.hid hbv
 have HX := Lib.hid hX
 have HBX := Lib.hid hBX
 have HPU := Lib.hid hpu
 have HN := Lib.hid hn
 have HSS := Lib.hid hs
 have HSL := Lib.hid hSl
 have HRG := Lib.hid hv0.regs
 have HRT := Lib.hid hv0.roots
 have HCC := Lib.hid hc
 have hx65 := few_len hBX hv0.few hX
 obtain ⟨wr, hwr⟩ : ∃ wr, r.writes = wr := ⟨_, rfl⟩
 have hcw : c.writes = wr := hv0.writes.trans hwr
 rw [hwr] at hw0
 have HWR := Lib.hid hwr
 have HCW := Lib.hid hcw
 obtain ⟨X, hXX⟩ : ∃ X, c.regs.getD b 0 = X := ⟨_, rfl⟩
 have hXr : r.reg (b : Int) = X := by rw [← hXX, hv0.regs]; rfl
 have uX : U64 X := by rw [← hXr]; exact getD_u64 hu0 _
 obtain ⟨Y, hYY⟩ : ∃ Y, c.regs.getD a 0 = Y := ⟨_, rfl⟩
 have hYr : r.reg (a : Int) = Y := by rw [← hYY, hv0.regs]; rfl
 have uY : U64 Y := by rw [← hYr]; exact getD_u64 hu0 _
 have HXr := Lib.hid hXr
 have HYr := Lib.hid hYr
 have HYY := Lib.hid hYY
 have uX0 : 0 ≤ X := uX.1
 obtain ⟨wd, hwd⟩ : ∃ wd, wordOf ⟨11, (a : Int), (b : Int), (cc : Int), imm⟩ c.regs = wd := ⟨_, rfl⟩
 have hwdr : wordOf ⟨11, (a : Int), (b : Int), (cc : Int), imm⟩ r.regs = wd := by rw [← hwd, hv0.regs]
 have uwd : U64 wd := by
  rw [← hwdr]; unfold wordOf; split
  ·exact getD_u64 hu0 _
  ·exact him
 have HWD := Lib.hid hwd
 have HWDr := Lib.hid hwdr
 have uwd0 : 0 ≤ wd := uwd.1
 have HUX := Lib.hid uX
 have HUY := Lib.hid uY
 have hsz := hv0.sz
 obtain ⟨M, hM⟩ : ∃ M, c.cells.toArray = M := ⟨_, rfl⟩
 rw [hM]
 obtain ⟨W1, hW1⟩ : ∃ W1, ((w.alloc (.cells M 87)).alloc (.cells #[.int .i64 11, .int .i64 a, .int .i64 b, .int .i64 cc, .int .u64 imm] 62)).alloc (.cells #[.int .u64 0, .int .u64 0, .int .u64 0, .int .u64 0, .int .u64 0, .int .u64 0, .int .u64 0, .int .u64 0, .int .u64 0, .int .u64 0, .int .u64 0, .int .u64 0, .int .u64 0, .int .u64 0, .int .u64 0, .int .u64 0, .slice none 0 0, .int .i64 0, .int .u64 0, .int .u64 0, .int .u64 0, .int .u64 0, .int .u64 0, .int .u64 0, .int .u64 0, .int .u64 0, .int .u64 0, .int .u64 0, .int .u64 0, .int .u64 0, .int .u64 0, .int .u64 0, .int .u64 0, .int .u64 0, .int .i64 0, .int .i64 0, .slice none 0 0, .slice none 0 0, .bool false, .int .u64 0, .int .i64 0] 87) = W1 := ⟨_, rfl⟩
 have HB : Hid (Below w.heap.size w W1) := by show Below _ _ _; rw [← hW1]; exact (((Below.refl _ _).alloc (Nat.le_refl _) _).alloc (by simp) _).alloc (by simp; omega) _
 have HK : Hid (BkC W1 w.heap.size c) := by show BkC _ _ _; rw [← hW1, ← hM]; exact ⟨((Bk.new w _ _).alloc _).alloc _, hsz⟩
 have HI : Hid (Bk W1 (w.heap.size + 1) 62 #[.int .i64 11, .int .i64 a, .int .i64 b, .int .i64 cc, .int .u64 imm]) := by show Bk _ _ _ _; rw [← hW1]; exact (rf_new1 _ (by simp) _ _).alloc _
 have HZ : Hid (Bk W1 (w.heap.size + 1 + 1) 87 zero41) := by show Bk _ _ _ _; rw [← hW1]; exact rf_new1 _ (by simp) _ _
 have HW1 := Lib.hid hW1
 have k2 : W1.cell? ⟨w.heap.size, 18 + b, none⟩ = some (.int .u64 X) := (HK.out.reg hb16).trans (by rw [← hXX])
 have k3 : W1.cell? ⟨w.heap.size, 18 + a, none⟩ = some (.int .u64 Y) := (HK.out.reg ha16).trans (by rw [← hYY])
 have i0 := (HI.out.cell 0).trans rfl
 have i1 := (HI.out.cell 1).trans rfl
 have i2 := (HI.out.cell 2).trans rfl
 have i3 := (HI.out.cell 3).trans rfl
 have i4 := (HI.out.cell 4).trans rfl
 clear hv0 hu0 hpu hs hSl hsz hX hBX hbv hW1 hXX hXr uX hYY hYr uY hwd hwdr uwd him hwr hcw hc hn
 simp only [Ins.v]
 go_enter Try.func59, Try.ntmps59
 go_upto_region 1 with fail
 rw [HW1.out]
 clear HW1
 go_upto_region 4 with fail
 have HR18 : Hid (W1.rangeAt w.heap.size 18 (u64s c.regs)) := HK.out.rg
 have hi16 : (Try.prog.info? 50).map (·.size) = some (u64s c.regs).length := by rw [List.length_map, hv.out.sz.regs]; kernel_rfl
 go_wp2_with (refine wpList_load_mid (by rfl) 50 (.tmp 26) (by rfl) w.heap.size 18 (by rfl) (u64s c.regs) _ HR18.out Try.underlying50 (by rfl) hi16 ?_)
 refine (rword_any ⟨11, (a : Int), (b : Int), (cc : Int), imm⟩ c.regs W1 hv.out.sz.regs HCC.out).mono ?_
 rw [HWD.out]
 rintro e w2 ⟨rfl, hb2⟩
 clear i0 i1 i2 i3 i4 k2 k3 HR18 hi16 HCC HWD
 have HK' := Lib.hid (HK.out.below hb2)
 have HB' := Lib.hid (HB.out.trans (hb2.mono HB.out.size))
 have HZ' := Lib.hid (HZ.out.below hb2 HZ.out.lt)
 have HI' := Lib.hid (HI.out.below hb2 HI.out.lt)
 clear HK HB HZ HI
 have HK := HK'
 have HB := HB'
 have HZ := HZ'
 have HI := HI'
 clear HK' HB' HZ' HI' 
 clear hb2
 have HJ : Hid (w2.rangeAt w.heap.size 0 (stV c.roots (.slice xA xn xk))) := by show World.rangeAt _ _ _ _; rw [← HBV.out]; exact HK.out.st
 have hi17 : (Try.prog.info? 53).map (·.size) = some (stV c.roots (.slice xA xn xk)).length := by rw [show (stV c.roots (.slice xA xn xk)).length = 17 by simp [stV, hv.out.sz.roots]]; exact info_st17
 go_wp2_with (refine wpList_load_mid (by rfl) 53 (.tmp 29) (by rfl) w.heap.size 0 (by rfl) (stV c.roots (.slice xA xn xk)) _ HJ.out Try.underlying53 (by rfl) hi17 ?_)
 refine (rfindx_any (stV c.roots (.slice xA xn xk)).toArray l xA xn xk (stV_bv hv.out.sz.roots _) X w2 ((HX.out.below HB.out).more HB.out.size)).mono ?_
 rintro e w3 ⟨rfl, hb3⟩
 have HK' := Lib.hid (HK.out.below hb3)
 have HB' := Lib.hid (HB.out.trans (hb3.mono HB.out.size))
 have HZ' := Lib.hid (HZ.out.below hb3 HZ.out.lt)
 have HI' := Lib.hid (HI.out.below hb3 HI.out.lt)
 clear HK HB HZ HI
 have HK := HK'
 have HB := HB'
 have HZ := HZ'
 have HI := HI'
 clear HK' HB' HZ' HI' 
 clear hb3 HJ hi17
 have i0 := (HI.out.cell 0).trans rfl
 have i1 := (HI.out.cell 1).trans rfl
 rcases HBX.out.find X with ⟨hf1, hf2⟩ | ⟨kf, ws, hf1, hf2, hf3, hf4⟩
 ·rw [hf2]
  have HF1 := Lib.hid hf1
  clear hf1 hf2
  have HE : Hid (touch17 maxw ⟨11, (a : Int), (b : Int), (cc : Int), imm⟩ r = { r with code := 44 }) := dw_none (.inl rfl) (by rw [HXr.out]; exact HF1.out)
  go_upto_region 7 with fail
  have HF := Lib.hid (hv.out.setE 44)
  have HOne := Lib.hid HF.out.ones
  have c40 := HK.out.err
  have f40 : w3.frozen? ⟨w.heap.size, 40, none⟩ = false := HK.out.bk.frozen 40
  have HK43 := Lib.hid (HK.out.setE 44)
  have HZ43 : Hid (Bk (w3.setCell ⟨w.heap.size, 40, none⟩ (.int .i64 44)) (w.heap.size + 1 + 1) 87 zero41) := HZ.out.set_ne (by omega) _ _
  have HB43 : Hid (Below w.heap.size w (w3.setCell ⟨w.heap.size, 40, none⟩ (.int .i64 44))) := HB.out.setCell (Nat.le_refl _) _
  go_wp2_with (first
   | (refine wpList_load_row (by rfl) 87 (.tmp 3) (by rfl) w.heap.size (by rfl) 87 ({ c with e := 44 } : RR).cells.toArray (0, 0) _ HK43.out.bk Try.underlying87 (by rfl) (info_run17 HK43.out.sz) ?_)
   | (refine wpList_store_row (by rfl) 87 (.tmp 6) (.tmp 68) (by rfl) (w.heap.size + 1 + 1) ({ c with e := 44 } : RR).cells.toArray (by rfl) (by rfl) 87 zero41 HZ43.out (info_run17 HK43.out.sz) (zero41_size HK43.out.sz) HOne.out ?_))
  refine bodyPost_ret (res_run 6 rfl _ _ (w.heap.size + 1 + 1) { c with e := 44 } (by rfl) ⟨HZ43.out.setRow _, HK43.out.sz⟩) rfl ?_
  have hb9 := lbelow_setRow HB43.out (show w.heap.size ≤ w.heap.size + 1 + 1 by omega) ({ c with e := 44 } : RR).cells.toArray
  rw [HE.out]
  exact ⟨_, rfl, (HF.out.below hb9).more hb9.size, (HSS.out.keep rfl rfl rfl), hb9⟩
 rw [hf2]
 have HF1 := Lib.hid hf1
 have HF3 := Lib.hid hf3
 have HF4 := Lib.hid hf4
 have gk : decide ((kf : Int) < 0) = false := decide_eq_false (by omega)
 clear hf1 hf2 hf3 hf4
 by_cases h8 : 7 < wd
 ·have g7 : decide (7 < wd) = true := decide_eq_true h8
  have H8 : Hid (8 ≤ wd) := by show _ ≤ _; omega
  have HE : Hid (touch17 maxw ⟨11, (a : Int), (b : Int), (cc : Int), imm⟩ r = { r with code := 44 }) := dw_far (.inl rfl) (by rw [HXr.out]; exact HF1.out) (by rw [HWDr.out]; exact H8.out)
  go_upto_region 7 with fail
  have HF := Lib.hid (hv.out.setE 44)
  have HOne := Lib.hid HF.out.ones
  have c40 := HK.out.err
  have f40 : w3.frozen? ⟨w.heap.size, 40, none⟩ = false := HK.out.bk.frozen 40
  have HK43 := Lib.hid (HK.out.setE 44)
  have HZ43 : Hid (Bk (w3.setCell ⟨w.heap.size, 40, none⟩ (.int .i64 44)) (w.heap.size + 1 + 1) 87 zero41) := HZ.out.set_ne (by omega) _ _
  have HB43 : Hid (Below w.heap.size w (w3.setCell ⟨w.heap.size, 40, none⟩ (.int .i64 44))) := HB.out.setCell (Nat.le_refl _) _
  go_wp2_with (first
   | (refine wpList_load_row (by rfl) 87 (.tmp 3) (by rfl) w.heap.size (by rfl) 87 ({ c with e := 44 } : RR).cells.toArray (0, 0) _ HK43.out.bk Try.underlying87 (by rfl) (info_run17 HK43.out.sz) ?_)
   | (refine wpList_store_row (by rfl) 87 (.tmp 6) (.tmp 68) (by rfl) (w.heap.size + 1 + 1) ({ c with e := 44 } : RR).cells.toArray (by rfl) (by rfl) 87 zero41 HZ43.out (info_run17 HK43.out.sz) (zero41_size HK43.out.sz) HOne.out ?_))
  refine bodyPost_ret (res_run 6 rfl _ _ (w.heap.size + 1 + 1) { c with e := 44 } (by rfl) ⟨HZ43.out.setRow _, HK43.out.sz⟩) rfl ?_
  have hb9 := lbelow_setRow HB43.out (show w.heap.size ≤ w.heap.size + 1 + 1 by omega) ({ c with e := 44 } : RR).cells.toArray
  rw [HE.out]
  exact ⟨_, rfl, (HF.out.below hb9).more hb9.size, (HSS.out.keep rfl rfl rfl), hb9⟩
 have g7 : decide (7 < wd) = false := decide_eq_false (by omega)
 obtain ⟨x, hx⟩ : ∃ x : Nat, wd = (x : Int) := ⟨wd.toNat, by omega⟩
 subst hx
 have hx8 : x < 8 := by omega
 go_wp2_with fail
 refine (writes_at 11 0 w3 rfl).mono ?_
 intro e w' h9
 obtain ⟨rfl, h9⟩ := h9
 rw [← h9]
 clear h9 w'
 have k35 : w3.cell? ⟨w.heap.size, 35, none⟩ = some (.int .i64 wr) := HK.out.writes.trans (by rw [HCW.out])
 have f35 := HK.out.bk.frozen 35
 obtain ⟨W4, hW4⟩ : ∃ W4, w3.setCell ⟨w.heap.size, 35, none⟩ (.int .i64 wr) = W4 := ⟨_, rfl⟩
 have HK' := Lib.hid (show BkC W4 w.heap.size _ by rw [← hW4]; exact HK.out.setW _)
 have HB' : Hid (Below w.heap.size w W4) := by show Below _ _ _; rw [← hW4]; exact HB.out.setCell (Nat.le_refl _) _
 have HZ' : Hid (Bk W4 (w.heap.size + 1 + 1) 87 zero41) := by show Bk _ _ _ _; rw [← hW4]; exact HZ.out.set_ne (by omega) _ _
 have HI' : Hid (Bk W4 (w.heap.size + 1) 62 #[.int .i64 11, .int .i64 a, .int .i64 b, .int .i64 cc, .int .u64 imm]) := by show Bk _ _ _ _; rw [← hW4]; exact HI.out.set_ne (by omega) _ _
 obtain ⟨hkn, bA, bo, hA, hbB, hcell⟩ := HX.out.word HF3.out
 subst hA
 obtain ⟨R, hR⟩ : ∃ R, ws.getD x 0 = R := ⟨_, rfl⟩
 have kR : W4.cell? ⟨bA, bo + kf * 9 + 1 + x, none⟩ = some (.int .u64 R) := (HB'.out.cell (p := ⟨bA, bo + kf * 9 + 1 + x, none⟩) hbB).trans ((hcell x hx8).trans (by rw [hR]))
 have kB : W4.cell? ⟨w.heap.size, 16, none⟩ = some (.slice (some ⟨bA, bo, none⟩) xn xk) := HK'.out.bv.trans (by show some c.bv = _; rw [HBV.out])
 have kA : W4.cell? ⟨w.heap.size, 18 + a, none⟩ = some (.int .u64 Y) := (HK'.out.reg ha16).trans (by show some (Value.int .u64 (c.regs.getD a 0)) = _; rw [HYY.out])
 have fA := HK'.out.bk.frozen (18 + a)
 have j0 : W4.cell? ⟨w.heap.size + 1, 0, none⟩ = some (.int .i64 11) := (HI'.out.cell 0).trans rfl
 have j1 : W4.cell? ⟨w.heap.size + 1, 1, none⟩ = some (.int .i64 a) := (HI'.out.cell 1).trans rfl
 have HR := Lib.hid hR
 clear hR hcell
 go_upto_region 19 with fail
 try rw [hW4]
 clear hW4 k35 f35 i0 i1
 clear HK HB HZ HI
 have HK := HK'
 have HB := HB'
 have HZ := HZ'
 have HI := HI'
 clear HK' HB' HZ' HI' 
 have ha3 : (a : Int) < 16 := by omega
 have hx3 : (x : Int) < 8 := by omega
 have hkn3 : (kf : Int) < (xn : Int) := by omega
 go_still_tail 13, (by kernel_rfl)
 go_upto_region 27 with fail
 obtain ⟨W5, hW5⟩ : ∃ W5, (W4.setCell ⟨w.heap.size, 18 + a, none⟩ (.int .u64 R)).drew = W5 := ⟨_, rfl⟩
 try rw [hW5]
 have HK' := Lib.hid (show BkC W5 w.heap.size _ by rw [← hW5]; exact (HK.out.setReg ha16 R).drew)
 have HB' : Hid (Below w.heap.size w W5) := by show Below _ _ _; rw [← hW5]; exact (HB.out.setCell (Nat.le_refl _) _).drew
 have HZ' : Hid (Bk W5 (w.heap.size + 1 + 1) 87 zero41) := by show Bk _ _ _ _; rw [← hW5]; exact HZ.out.set_ne (by omega) _ _
 have HI' : Hid (Bk W5 (w.heap.size + 1) 62 #[.int .i64 11, .int .i64 a, .int .i64 b, .int .i64 cc, .int .u64 imm]) := by show Bk _ _ _ _; rw [← hW5]; exact HI.out.set_ne (by omega) _ _
 clear hW5
 clear HK HB HZ HI
 have HK := HK'
 have HB := HB'
 have HZ := HZ'
 have HI := HI'
 clear HK' HB' HZ' HI' 
 have HE : Hid (touch17 maxw ⟨11, (a : Int), (b : Int), (cc : Int), imm⟩ r = { r with regs := r.regs.set a (ws.getD x 0) }) := by show _ = _; rw [dr_ok (.inl rfl) (by rw [HXr.out]; exact HF1.out) (by rw [HWDr.out]; omega), HWDr.out]; try rfl
 have HF := Lib.hid ((show RVIn w w.heap.size { { c with writes := wr } with regs := c.regs.set a R } { r with regs := r.regs.set a (ws.getD x 0) } by rw [← HR.out, ← HCW.out]; exact hv.out.setReg a _))
 have HOne := Lib.hid HF.out.ones
 go_wp2_with (first
  | (refine wpList_load_row (by rfl) 87 (.tmp 3) (by rfl) w.heap.size (by rfl) 87 _ (0, 0) _ HK.out.bk Try.underlying87 (by rfl) (info_run17 HK.out.sz) ?_)
  | (refine wpList_store_row (by rfl) 87 (.tmp 6) (.tmp 173) (by rfl) (w.heap.size + 1 + 1) _ (by rfl) (by rfl) 87 zero41 HZ.out (info_run17 HK.out.sz) (zero41_size HK.out.sz) HOne.out ?_))
 refine bodyPost_ret (res_run 6 rfl _ _ (w.heap.size + 1 + 1) _ (by rfl) ⟨HZ.out.setRow _, HK.out.sz⟩) rfl ?_
 rw [HE.out]
 exact ⟨_, rfl, (HF.out.below (lbelow_setRow HB.out (show w.heap.size ≤ w.heap.size + 1 + 1 by omega) _)).more (lbelow_setRow HB.out (show w.heap.size ≤ w.heap.size + 1 + 1 by omega) _).size, (HSS.out.keep rfl rfl rfl), lbelow_setRow HB.out (show w.heap.size ≤ w.heap.size + 1 + 1 by omega) _⟩
end Go.Proofs.Ytjggmimaolddkaa
