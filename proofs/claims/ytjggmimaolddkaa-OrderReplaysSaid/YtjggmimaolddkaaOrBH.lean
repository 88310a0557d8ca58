import Derived.Test.YtjggmimaolddkaaOrBF
namespace Go.Proofs.Ytjggmimaolddkaa
open Go.RowKit
set_option linter.unusedVariables false
set_option linter.unusedSimpArgs false
set_option maxRecDepth 100000 in
set_option maxHeartbeats 16000000 in
theorem rtouch9 (c : RR) (r : MRun) (ia ib ic imm maxw : Int) (w : World) (hv0 : RVIn w w.heap.size c r) (hu0 : ∀ x ∈ r.regs, U64 x) (ha : 0 ≤ ia ∧ ia < 16) (hb : 0 ≤ ib ∧ ib < 16) (hc : 0 ≤ ic ∧ ic < 16) (him : U64 imm) (hw0 : 0 ≤ r.writes ∧ r.writes ≤ 1000000000000) (hmw : 0 ≤ maxw ∧ maxw ≤ 1000000) (hpu : ∀ x ∈ r.pick, U64 x) (hn : r.news.length ≤ 1000000) (S : Nat → Prop) (hs : SIn S c) (hSl : ∀ b, S b → b < w.heap.size) :
 Calls Try.prog 59 #[.agg c.cells.toArray, Ins.v ⟨9, ia, ib, ic, imm⟩, .int .i64 maxw] w (RunP S (touch17 maxw ⟨9, ia, ib, ic, imm⟩ r) w) := by
 obtain ⟨a, rfl⟩ : ∃ a : Nat, ia = (a : Int) := ⟨ia.toNat, by omega⟩
 obtain ⟨b, rfl⟩ : ∃ a : Nat, ib = (a : Int) := ⟨ib.toNat, by omega⟩
 obtain ⟨cc, rfl⟩ : ∃ a : Nat, ic = (a : Int) := ⟨ic.toNat, by omega⟩
 have ha16 : a < 16 := by omega
 have hb16 : b < 16 := by omega
 obtain ⟨xA, xn, xk, l, hbv, hX, hBX⟩ := hv0.box
 have hv := Lib.hid hv0
 have HBV := Lib.hid hbv
 have HX := Lib.hid hX
 have HBX := Lib.hid hBX
 have HPU := Lib.hid hpu
 have HN := Lib.hid hn
 have HSS := Lib.hid hs
 have HSL := Lib.hid hSl
 have HRG := Lib.hid hv0.regs
 have HRT := Lib.hid hv0.roots
 have HCC := Lib.hid hc
 have hx65 := few_len hBX hv0.few hX
 obtain ⟨wr, hwr⟩ : ∃ wr, r.writes = wr := ⟨_, rfl⟩
 have hcw : c.writes = wr := hv0.writes.trans hwr
 rw [hwr] at hw0
 have HWR := Lib.hid hwr
 have HCW := Lib.hid hcw
 obtain ⟨X, hXX⟩ : ∃ X, c.regs.getD b 0 = X := ⟨_, rfl⟩
 have hXr : r.reg (b : Int) = X := by rw [← hXX, hv0.regs]; rfl
 have uX : U64 X := by rw [← hXr]; exact getD_u64 hu0 _
 obtain ⟨Y, hYY⟩ : ∃ Y, c.regs.getD a 0 = Y := ⟨_, rfl⟩
 have hYr : r.reg (a : Int) = Y := by rw [← hYY, hv0.regs]; rfl
 have uY : U64 Y := by rw [← hYr]; exact getD_u64 hu0 _
 have HXr := Lib.hid hXr
 have HYr := Lib.hid hYr
 have HYY := Lib.hid hYY
 have uX0 : 0 ≤ X := uX.1
 obtain ⟨wd, hwd⟩ : ∃ wd, wordOf ⟨9, (a : Int), (b : Int), (cc : Int), imm⟩ c.regs = wd := ⟨_, rfl⟩
 have hwdr : wordOf ⟨9, (a : Int), (b : Int), (cc : Int), imm⟩ r.regs = wd := by rw [← hwd, hv0.regs]
 have uwd : U64 wd := by
  rw [← hwdr]; unfold wordOf; split
  ·exact getD_u64 hu0 _
  ·exact him
 have HWD := Lib.hid hwd
 have HWDr := Lib.hid hwdr
 have uwd0 : 0 ≤ wd := uwd.1
 have HUX := Lib.hid uX
 have HUY := Lib.hid uY
 have hsz := hv0.sz
 obtain ⟨M, hM⟩ : ∃ M, c.cells.toArray = M := ⟨_, rfl⟩
 rw [hM]
 obtain ⟨W1, hW1⟩ : ∃ W1, ((w.alloc (.cells M 87)).alloc (.cells #[.int .i64 9, .int .i64 a, .int .i64 b, .int .i64 cc, .int .u64 imm] 62)).alloc (.cells #[.int .u64 0, .int .u64 0, .int .u64 0, .int .u64 0, .int .u64 0, .int .u64 0, .int .u64 0, .int .u64 0, .int .u64 0, .int .u64 0, .int .u64 0, .int .u64 0, .int .u64 0, .int .u64 0, .int .u64 0, .int .u64 0, .slice none 0 0, .int .i64 0, .int .u64 0, .int .u64 0, .int .u64 0, .int .u64 0, .int .u64 0, .int .u64 0, .int .u64 0, .int .u64 0, .int .u64 0, .int .u64 0, .int .u64 0, .int .u64 0, .int .u64 0, .int .u64 0, .int .u64 0, .int .u64 0, .int .i64 0, .int .i64 0, .slice none 0 0, .slice none 0 0, .bool false, .int .u64 0, .int .i64 0] 87) = W1 := ⟨_, rfl⟩
 have HB : Hid (Below w.heap.size w W1) := by show Below _ _ _; rw [← hW1]; exact (((Below.refl _ _).alloc (Nat.le_refl _) _).alloc (by simp) _).alloc (by simp; omega) _
 have HK : Hid (BkC W1 w.heap.size c) := by show BkC _ _ _; rw [← hW1, ← hM]; exact ⟨((Bk.new w _ _).alloc _).alloc _, hsz⟩
 have HI : Hid (Bk W1 (w.heap.size + 1) 62 #[.int .i64 9, .int .i64 a, .int .i64 b, .int .i64 cc, .int .u64 imm]) := by show Bk _ _ _ _; rw [← hW1]; exact (rf_new1 _ (by simp) _ _).alloc _
 have HZ : Hid (Bk W1 (w.heap.size + 1 + 1) 87 zero41) := by show Bk _ _ _ _; rw [← hW1]; exact rf_new1 _ (by simp) _ _
 have HW1 := Lib.hid hW1
 have k2 : W1.cell? ⟨w.heap.size, 18 + b, none⟩ = some (.int .u64 X) := (HK.out.reg hb16).trans (by rw [← hXX])
 have k3 : W1.cell? ⟨w.heap.size, 18 + a, none⟩ = some (.int .u64 Y) := (HK.out.reg ha16).trans (by rw [← hYY])
 have i0 := (HI.out.cell 0).trans rfl
 have i1 := (HI.out.cell 1).trans rfl
 have i2 := (HI.out.cell 2).trans rfl
 have i3 := (HI.out.cell 3).trans rfl
 have i4 := (HI.out.cell 4).trans rfl
 clear hv0 hu0 hpu hs hSl hsz hX hBX hbv hW1 hXX hXr uX hYY hYr uY hwd hwdr uwd him hwr hcw hc hn
 simp only [Ins.v]
 go_enter Try.func59, Try.ntmps59
 go_upto_region 1 with fail
 rw [HW1.out]
 clear HW1
 go_upto_region 4 with fail
 have HR18 : Hid (W1.rangeAt w.heap.size 18 (u64s c.regs)) := HK.out.rg
 have hi16 : (Try.prog.info? 50).map (·.size) = some (u64s c.regs).length := by rw [List.length_map, hv.out.sz.regs]; kernel_rfl
 go_wp2_with (refine wpList_load_mid (by rfl) 50 (.tmp 26) (by rfl) w.heap.size 18 (by rfl) (u64s c.regs) _ HR18.out Try.underlying50 (by rfl) hi16 ?_)
 refine (rword_any ⟨9, (a : Int), (b : Int), (cc : Int), imm⟩ c.regs W1 hv.out.sz.regs HCC.out).mono ?_
 rw [HWD.out]
 rintro e w2 ⟨rfl, hb2⟩
 clear i0 i1 i2 i3 i4 k2 k3 HR18 hi16 HCC HWD
 have HK' := Lib.hid (HK.out.below hb2)
 have HB' := Lib.hid (HB.out.trans (hb2.mono HB.out.size))
 have HZ' := Lib.hid (HZ.out.below hb2 HZ.out.lt)
 have HI' := Lib.hid (HI.out.below hb2 HI.out.lt)
 clear HK HB HZ HI
 have HK := HK'
 have HB := HB'
 have HZ := HZ'
 have HI := HI'
 clear HK' HB' HZ' HI' 
 clear hb2
 have HJ : Hid (w2.rangeAt w.heap.size 0 (stV c.roots (.slice xA xn xk))) := by show World.rangeAt _ _ _ _; rw [← HBV.out]; exact HK.out.st
 have hi17 : (Try.prog.info? 53).map (·.size) = some (stV c.roots (.slice xA xn xk)).length := by rw [show (stV c.roots (.slice xA xn xk)).length = 17 by simp [stV, hv.out.sz.roots]]; exact info_st17
 go_wp2_with (refine wpList_load_mid (by rfl) 53 (.tmp 29) (by rfl) w.heap.size 0 (by rfl) (stV c.roots (.slice xA xn xk)) _ HJ.out Try.underlying53 (by rfl) hi17 ?_)
 refine (rfindx_any (stV c.roots (.slice xA xn xk)).toArray l xA xn xk (stV_bv hv.out.sz.roots _) X w2 ((HX.out.below HB.out).more HB.out.size)).mono ?_
 rintro e w3 ⟨rfl, hb3⟩
 have HK' := Lib.hid (HK.out.below hb3)
 have HB' := Lib.hid (HB.out.trans (hb3.mono HB.out.size))
 have HZ' := Lib.hid (HZ.out.below hb3 HZ.out.lt)
 have HI' := Lib.hid (HI.out.below hb3 HI.out.lt)
 clear HK HB HZ HI
 have HK := HK'
 have HB := HB'
 have HZ := HZ'
 have HI := HI'
 clear HK' HB' HZ' HI' 
 clear hb3 HJ hi17
 have i0 := (HI.out.cell 0).trans rfl
 have i1 := (HI.out.cell 1).trans rfl
 obtain ⟨z, hz⟩ : ∃ z, findX X l 0 = z := ⟨_, rfl⟩
 rw [hz]
 clear hz
 by_cases h15 : 15 < X
 ·have g15 : decide (15 < X) = true := decide_eq_true h15
  have H15 : Hid (16 ≤ X) := by show _ ≤ _; omega
  have HE : Hid (touch17 maxw ⟨9, (a : Int), (b : Int), (cc : Int), imm⟩ r = { r with code := 44 }) := d9_bad (by rw [HXr.out]; exact H15.out)
  go_upto_region 7 with fail
  have HF := Lib.hid (hv.out.setE 44)
  have HOne := Lib.hid HF.out.ones
  have c40 := HK.out.err
  have f40 : w3.frozen? ⟨w.heap.size, 40, none⟩ = false := HK.out.bk.frozen 40
  have HK43 := Lib.hid (HK.out.setE 44)
  have HZ43 : Hid (Bk (w3.setCell ⟨w.heap.size, 40, none⟩ (.int .i64 44)) (w.heap.size + 1 + 1) 87 zero41) := HZ.out.set_ne (by omega) _ _
  have HB43 : Hid (Below w.heap.size w (w3.setCell ⟨w.heap.size, 40, none⟩ (.int .i64 44))) := HB.out.setCell (Nat.le_refl _) _
  go_wp2_with (first
   | (refine wpList_load_row (by rfl) 87 (.tmp 3) (by rfl) w.heap.size (by rfl) 87 ({ c with e := 44 } : RR).cells.toArray (0, 0) _ HK43.out.bk Try.underlying87 (by rfl) (info_run17 HK43.out.sz) ?_)
   | (refine wpList_store_row (by rfl) 87 (.tmp 6) (.tmp 68) (by rfl) (w.heap.size + 1 + 1) ({ c with e := 44 } : RR).cells.toArray (by rfl) (by rfl) 87 zero41 HZ43.out (info_run17 HK43.out.sz) (zero41_size HK43.out.sz) HOne.out ?_))
  refine bodyPost_ret (res_run 6 rfl _ _ (w.heap.size + 1 + 1) { c with e := 44 } (by rfl) ⟨HZ43.out.setRow _, HK43.out.sz⟩) rfl ?_
  have hb9 := lbelow_setRow HB43.out (show w.heap.size ≤ w.heap.size + 1 + 1 by omega) ({ c with e := 44 } : RR).cells.toArray
  rw [HE.out]
  exact ⟨_, rfl, (HF.out.below hb9).more hb9.size, (HSS.out.keep rfl rfl rfl), hb9⟩
 have g15 : decide (15 < X) = false := decide_eq_false (by omega)
 obtain ⟨x, hx⟩ : ∃ x : Nat, X = (x : Int) := ⟨X.toNat, by omega⟩
 subst hx
 have hx16 : x < 16 := by omega
 go_wp2_with fail
 refine (writes_at 9 0 w3 rfl).mono ?_
 intro e w' h9
 obtain ⟨rfl, h9⟩ := h9
 rw [← h9]
 clear h9 w'
 have k35 : w3.cell? ⟨w.heap.size, 35, none⟩ = some (.int .i64 wr) := HK.out.writes.trans (by rw [HCW.out])
 have f35 := HK.out.bk.frozen 35
 obtain ⟨W4, hW4⟩ : ∃ W4, w3.setCell ⟨w.heap.size, 35, none⟩ (.int .i64 wr) = W4 := ⟨_, rfl⟩
 have HK' := Lib.hid (show BkC W4 w.heap.size _ by rw [← hW4]; exact HK.out.setW _)
 have HB' : Hid (Below w.heap.size w W4) := by show Below _ _ _; rw [← hW4]; exact HB.out.setCell (Nat.le_refl _) _
 have HZ' : Hid (Bk W4 (w.heap.size + 1 + 1) 87 zero41) := by show Bk _ _ _ _; rw [← hW4]; exact HZ.out.set_ne (by omega) _ _
 have HI' : Hid (Bk W4 (w.heap.size + 1) 62 #[.int .i64 9, .int .i64 a, .int .i64 b, .int .i64 cc, .int .u64 imm]) := by show Bk _ _ _ _; rw [← hW4]; exact HI.out.set_ne (by omega) _ _
 obtain ⟨R, hR⟩ : ∃ R, c.roots.getD x 0 = R := ⟨_, rfl⟩
 have kR : W4.cell? ⟨w.heap.size, x, none⟩ = some (.int .u64 R) := (HK'.out.root hx16).trans (by show some (Value.int .u64 (c.roots.getD x 0)) = _; rw [hR])
 have kA : W4.cell? ⟨w.heap.size, 18 + a, none⟩ = some (.int .u64 Y) := (HK'.out.reg ha16).trans (by show some (Value.int .u64 (c.regs.getD a 0)) = _; rw [HYY.out])
 have fA := HK'.out.bk.frozen (18 + a)
 have j0 : W4.cell? ⟨w.heap.size + 1, 0, none⟩ = some (.int .i64 9) := (HI'.out.cell 0).trans rfl
 have j1 : W4.cell? ⟨w.heap.size + 1, 1, none⟩ = some (.int .i64 a) := (HI'.out.cell 1).trans rfl
 have HR := Lib.hid hR
 clear hR
 go_upto_region 15 with fail
 try rw [hW4]
 clear hW4 k35 f35 i0 i1
 clear HK HB HZ HI
 have HK := HK'
 have HB := HB'
 have HZ := HZ'
 have HI := HI'
 clear HK' HB' HZ' HI' 
 have ha3 : (a : Int) < 16 := by omega
 have hx3 : (x : Int) < 16 := by omega
 go_still_tail 9, (by kernel_rfl)
 go_upto_region 27 with fail
 obtain ⟨W5, hW5⟩ : ∃ W5, (W4.setCell ⟨w.heap.size, 18 + a, none⟩ (.int .u64 R)).drew = W5 := ⟨_, rfl⟩
 try rw [hW5]
 have HK' := Lib.hid (show BkC W5 w.heap.size _ by rw [← hW5]; exact (HK.out.setReg ha16 R).drew)
 have HB' : Hid (Below w.heap.size w W5) := by show Below _ _ _; rw [← hW5]; exact (HB.out.setCell (Nat.le_refl _) _).drew
 have HZ' : Hid (Bk W5 (w.heap.size + 1 + 1) 87 zero41) := by show Bk _ _ _ _; rw [← hW5]; exact HZ.out.set_ne (by omega) _ _
 have HI' : Hid (Bk W5 (w.heap.size + 1) 62 #[.int .i64 9, .int .i64 a, .int .i64 b, .int .i64 cc, .int .u64 imm]) := by show Bk _ _ _ _; rw [← hW5]; exact HI.out.set_ne (by omega) _ _
 clear hW5
 clear HK HB HZ HI
 have HK := HK'
 have HB := HB'
 have HZ := HZ'
 have HI := HI'
 clear HK' HB' HZ' HI' 
 have HE : Hid (touch17 maxw ⟨9, (a : Int), (b : Int), (cc : Int), imm⟩ r = { r with regs := r.regs.set a (r.st.roots.getD x 0) }) := by show _ = _; rw [d9_ok (by rw [HXr.out]; omega), HXr.out]; try rfl
 have HF := Lib.hid ((show RVIn w w.heap.size { { c with writes := wr } with regs := c.regs.set a R } { r with regs := r.regs.set a (r.st.roots.getD x 0) } by have e : R = r.st.roots.getD x 0 := (by rw [← HR.out, HRT.out]); rw [e, ← HCW.out]; exact hv.out.setReg a _))
 have HOne := Lib.hid HF.out.ones
 go_wp2_with (first
  | (refine wpList_load_row (by rfl) 87 (.tmp 3) (by rfl) w.heap.size (by rfl) 87 _ (0, 0) _ HK.out.bk Try.underlying87 (by rfl) (info_run17 HK.out.sz) ?_)
  | (refine wpList_store_row (by rfl) 87 (.tmp 6) (.tmp 173) (by rfl) (w.heap.size + 1 + 1) _ (by rfl) (by rfl) 87 zero41 HZ.out (info_run17 HK.out.sz) (zero41_size HK.out.sz) HOne.out ?_))
 refine bodyPost_ret (res_run 6 rfl _ _ (w.heap.size + 1 + 1) _ (by rfl) ⟨HZ.out.setRow _, HK.out.sz⟩) rfl ?_
 rw [HE.out]
 exact ⟨_, rfl, (HF.out.below (lbelow_setRow HB.out (show w.heap.size ≤ w.heap.size + 1 + 1 by omega) _)).more (lbelow_setRow HB.out (show w.heap.size ≤ w.heap.size + 1 + 1 by omega) _).size, (HSS.out.keep rfl rfl rfl), lbelow_setRow HB.out (show w.heap.size ≤ w.heap.size + 1 + 1 by omega) _⟩
end Go.Proofs.Ytjggmimaolddkaa
namespace Go.Proofs.Ytjggmimaolddkaa
open Go.RowKit
set_option linter.unusedVariables false
set_option linter.unusedSimpArgs false
set_option maxRecDepth 100000 in
set_option maxHeartbeats 16000000 in
theorem rtouch16 (c : RR) (r : MRun) (ia ib ic imm maxw : Int) (w : World) (hv0 : RVIn w w.heap.size c r) (hu0 : ∀ x ∈ r.regs, U64 x) (ha : 0 ≤ ia ∧ ia < 16) (hb : 0 ≤ ib ∧ ib < 16) (hc : 0 ≤ ic ∧ ic < 16) (him : U64 imm) (hw0 : 0 ≤ r.writes ∧ r.writes ≤ 1000000000000) (hmw : 0 ≤ maxw ∧ maxw ≤ 1000000) (hpu : ∀ x ∈ r.pick, U64 x) (hn : r.news.length ≤ 1000000) (S : Nat → Prop) (hs : SIn S c) (hSl : ∀ b, S b → b < w.heap.size) :
 Calls Try.prog 59 #[.agg c.cells.toArray, Ins.v ⟨16, ia, ib, ic, imm⟩, .int .i64 maxw] w (RunP S (touch17 maxw ⟨16, ia, ib, ic, imm⟩ r) w) := by
 obtain ⟨a, rfl⟩ : ∃ a : Nat, ia = (a : Int) := ⟨ia.toNat, by omega⟩
 obtain ⟨b, rfl⟩ : ∃ a : Nat, ib = (a : Int) := ⟨ib.toNat, by omega⟩
 obtain ⟨cc, rfl⟩ : ∃ a : Nat, ic = (a : Int) := ⟨ic.toNat, by omega⟩
 have ha16 : a < 16 := by omega
 have hb16 : b < 16 := by omega
 obtain ⟨xA, xn, xk, l, hbv, hX, hBX⟩ := hv0.box
 have hv := Lib.hid hv0
 have HBV := Lib.hid hbv
 have HX := Lib.hid hX
 have HBX := Lib.hid hBX
 have HPU := Lib.hid hpu
 have HN := Lib.hid hn
 have HSS := Lib.hid hs
 have HSL := Lib.hid hSl
 have HRG := Lib.hid hv0.regs
 have HRT := Lib.hid hv0.roots
 have HCC := Lib.hid hc
 have hx65 := few_len hBX hv0.few hX
 obtain ⟨wr, hwr⟩ : ∃ wr, r.writes = wr := ⟨_, rfl⟩
 have hcw : c.writes = wr := hv0.writes.trans hwr
 rw [hwr] at hw0
 have HWR := Lib.hid hwr
 have HCW := Lib.hid hcw
 obtain ⟨X, hXX⟩ : ∃ X, c.regs.getD b 0 = X := ⟨_, rfl⟩
 have hXr : r.reg (b : Int) = X := by rw [← hXX, hv0.regs]; rfl
 have uX : U64 X := by rw [← hXr]; exact getD_u64 hu0 _
 obtain ⟨Y, hYY⟩ : ∃ Y, c.regs.getD a 0 = Y := ⟨_, rfl⟩
 have hYr : r.reg (a : Int) = Y := by rw [← hYY, hv0.regs]; rfl
 have uY : U64 Y := by rw [← hYr]; exact getD_u64 hu0 _
 have HXr := Lib.hid hXr
 have HYr := Lib.hid hYr
 have HYY := Lib.hid hYY
 have uX0 : 0 ≤ X := uX.1
 obtain ⟨wd, hwd⟩ : ∃ wd, wordOf ⟨16, (a : Int), (b : Int), (cc : Int), imm⟩ c.regs = wd := ⟨_, rfl⟩
 have hwdr : wordOf ⟨16, (a : Int), (b : Int), (cc : Int), imm⟩ r.regs = wd := by rw [← hwd, hv0.regs]
 have uwd : U64 wd := by
  rw [← hwdr]; unfold wordOf; split
  ·exact getD_u64 hu0 _
  ·exact him
 have HWD := Lib.hid hwd
 have HWDr := Lib.hid hwdr
 have uwd0 : 0 ≤ wd := uwd.1
 have HUX := Lib.hid uX
 have HUY := Lib.hid uY
 have hsz := hv0.sz
 obtain ⟨M, hM⟩ : ∃ M, c.cells.toArray = M := ⟨_, rfl⟩
 rw [hM]
 obtain ⟨W1, hW1⟩ : ∃ W1, ((w.alloc (.cells M 87)).alloc (.cells #[.int .i64 16, .int .i64 a, .int .i64 b, .int .i64 cc, .int .u64 imm] 62)).alloc (.cells #[.int .u64 0, .int .u64 0, .int .u64 0, .int .u64 0, .int .u64 0, .int .u64 0, .int .u64 0, .int .u64 0, .int .u64 0, .int .u64 0, .int .u64 0, .int .u64 0, .int .u64 0, .int .u64 0, .int .u64 0, .int .u64 0, .slice none 0 0, .int .i64 0, .int .u64 0, .int .u64 0, .int .u64 0, .int .u64 0, .int .u64 0, .int .u64 0, .int .u64 0, .int .u64 0, .int .u64 0, .int .u64 0, .int .u64 0, .int .u64 0, .int .u64 0, .int .u64 0, .int .u64 0, .int .u64 0, .int .i64 0, .int .i64 0, .slice none 0 0, .slice none 0 0, .bool false, .int .u64 0, .int .i64 0] 87) = W1 := ⟨_, rfl⟩
 have HB : Hid (Below w.heap.size w W1) := by show Below _ _ _; rw [← hW1]; exact (((Below.refl _ _).alloc (Nat.le_refl _) _).alloc (by simp) _).alloc (by simp; omega) _
 have HK : Hid (BkC W1 w.heap.size c) := by show BkC _ _ _; rw [← hW1, ← hM]; exact ⟨((Bk.new w _ _).alloc _).alloc _, hsz⟩
 have HI : Hid (Bk W1 (w.heap.size + 1) 62 #[.int .i64 16, .int .i64 a, .int .i64 b, .int .i64 cc, .int .u64 imm]) := by show Bk _ _ _ _; rw [← hW1]; exact (rf_new1 _ (by simp) _ _).alloc _
 have HZ : Hid (Bk W1 (w.heap.size + 1 + 1) 87 zero41) := by show Bk _ _ _ _; rw [← hW1]; exact rf_new1 _ (by simp) _ _
 have HW1 := Lib.hid hW1
 have k2 : W1.cell? ⟨w.heap.size, 18 + b, none⟩ = some (.int .u64 X) := (HK.out.reg hb16).trans (by rw [← hXX])
 have k3 : W1.cell? ⟨w.heap.size, 18 + a, none⟩ = some (.int .u64 Y) := (HK.out.reg ha16).trans (by rw [← hYY])
 have i0 := (HI.out.cell 0).trans rfl
 have i1 := (HI.out.cell 1).trans rfl
 have i2 := (HI.out.cell 2).trans rfl
 have i3 := (HI.out.cell 3).trans rfl
 have i4 := (HI.out.cell 4).trans rfl
 clear hv0 hu0 hpu hs hSl hsz hX hBX hbv hW1 hXX hXr uX hYY hYr uY hwd hwdr uwd him hwr hcw hc hn
 simp only [Ins.v]
 go_enter Try.func59, Try.ntmps59
 go_upto_region 1 with fail
 rw [HW1.out]
 clear HW1
 go_upto_region 4 with fail
 have HR18 : Hid (W1.rangeAt w.heap.size 18 (u64s c.regs)) := HK.out.rg
 have hi16 : (Try.prog.info? 50).map (·.size) = some (u64s c.regs).length := by rw [List.length_map, hv.out.sz.regs]; kernel_rfl
 go_wp2_with (refine wpList_load_mid (by rfl) 50 (.tmp 26) (by rfl) w.heap.size 18 (by rfl) (u64s c.regs) _ HR18.out Try.underlying50 (by rfl) hi16 ?_)
 refine (rword_any ⟨16, (a : Int), (b : Int), (cc : Int), imm⟩ c.regs W1 hv.out.sz.regs HCC.out).mono ?_
 rw [HWD.out]
 rintro e w2 ⟨rfl, hb2⟩
 clear i0 i1 i2 i3 i4 k2 k3 HR18 hi16 HCC HWD
 have HK' := Lib.hid (HK.out.below hb2)
 have HB' := Lib.hid (HB.out.trans (hb2.mono HB.out.size))
 have HZ' := Lib.hid (HZ.out.below hb2 HZ.out.lt)
 have HI' := Lib.hid (HI.out.below hb2 HI.out.lt)
 clear HK HB HZ HI
 have HK := HK'
 have HB := HB'
 have HZ := HZ'
 have HI := HI'
 clear HK' HB' HZ' HI' 
 clear hb2
 have HJ : Hid (w2.rangeAt w.heap.size 0 (stV c.roots (.slice xA xn xk))) := by show World.rangeAt _ _ _ _; rw [← HBV.out]; exact HK.out.st
 have hi17 : (Try.prog.info? 53).map (·.size) = some (stV c.roots (.slice xA xn xk)).length := by rw [show (stV c.roots (.slice xA xn xk)).length = 17 by simp [stV, hv.out.sz.roots]]; exact info_st17
 go_wp2_with (refine wpList_load_mid (by rfl) 53 (.tmp 29) (by rfl) w.heap.size 0 (by rfl) (stV c.roots (.slice xA xn xk)) _ HJ.out Try.underlying53 (by rfl) hi17 ?_)
 refine (rfindx_any (stV c.roots (.slice xA xn xk)).toArray l xA xn xk (stV_bv hv.out.sz.roots _) Y w2 ((HX.out.below HB.out).more HB.out.size)).mono ?_
 rintro e w3 ⟨rfl, hb3⟩
 have HK' := Lib.hid (HK.out.below hb3)
 have HB' := Lib.hid (HB.out.trans (hb3.mono HB.out.size))
 have HZ' := Lib.hid (HZ.out.below hb3 HZ.out.lt)
 have HI' := Lib.hid (HI.out.below hb3 HI.out.lt)
 clear HK HB HZ HI
 have HK := HK'
 have HB := HB'
 have HZ := HZ'
 have HI := HI'
 clear HK' HB' HZ' HI' 
 clear hb3 HJ hi17
 have i0 := (HI.out.cell 0).trans rfl
 have i1 := (HI.out.cell 1).trans rfl
 rcases HBX.out.find Y with ⟨hf1, hf2⟩ | ⟨kf, ws, hf1, hf2, hf3, hf4⟩
 ·rw [hf2]
  have HF1 := Lib.hid hf1
  clear hf1 hf2
  have HE : Hid (touch17 maxw ⟨16, (a : Int), (b : Int), (cc : Int), imm⟩ r = { r with code := 44 }) := d16_none (by rw [HYr.out]; exact HF1.out)
  go_upto_region 7 with fail
  have HF := Lib.hid (hv.out.setE 44)
  have HOne := Lib.hid HF.out.ones
  have c40 := HK.out.err
  have f40 : w3.frozen? ⟨w.heap.size, 40, none⟩ = false := HK.out.bk.frozen 40
  have HK43 := Lib.hid (HK.out.setE 44)
  have HZ43 : Hid (Bk (w3.setCell ⟨w.heap.size, 40, none⟩ (.int .i64 44)) (w.heap.size + 1 + 1) 87 zero41) := HZ.out.set_ne (by omega) _ _
  have HB43 : Hid (Below w.heap.size w (w3.setCell ⟨w.heap.size, 40, none⟩ (.int .i64 44))) := HB.out.setCell (Nat.le_refl _) _
  go_wp2_with (first
   | (refine wpList_load_row (by rfl) 87 (.tmp 3) (by rfl) w.heap.size (by rfl) 87 ({ c with e := 44 } : RR).cells.toArray (0, 0) _ HK43.out.bk Try.underlying87 (by rfl) (info_run17 HK43.out.sz) ?_)
   | (refine wpList_store_row (by rfl) 87 (.tmp 6) (.tmp 68) (by rfl) (w.heap.size + 1 + 1) ({ c with e := 44 } : RR).cells.toArray (by rfl) (by rfl) 87 zero41 HZ43.out (info_run17 HK43.out.sz) (zero41_size HK43.out.sz) HOne.out ?_))
  refine bodyPost_ret (res_run 6 rfl _ _ (w.heap.size + 1 + 1) { c with e := 44 } (by rfl) ⟨HZ43.out.setRow _, HK43.out.sz⟩) rfl ?_
  have hb9 := lbelow_setRow HB43.out (show w.heap.size ≤ w.heap.size + 1 + 1 by omega) ({ c with e := 44 } : RR).cells.toArray
  rw [HE.out]
  exact ⟨_, rfl, (HF.out.below hb9).more hb9.size, (HSS.out.keep rfl rfl rfl), hb9⟩
 rw [hf2]
 have HF1 := Lib.hid hf1
 have gk : decide ((kf : Int) < 0) = false := decide_eq_false (by omega)
 clear hf1 hf2 hf3 hf4
 go_wp2_with fail
 refine (writes_at 16 2 w3 rfl).mono ?_
 intro e w' h9
 obtain ⟨rfl, h9⟩ := h9
 rw [← h9]
 clear h9 w'
 have k35 : w3.cell? ⟨w.heap.size, 35, none⟩ = some (.int .i64 wr) := HK.out.writes.trans (by rw [HCW.out])
 have f35 := HK.out.bk.frozen 35
 by_cases hp : maxw - wr < 2
 ·have hp2 : decide (maxw - wr < 2) = true := decide_eq_true hp
  have HE : Hid (touch17 maxw ⟨16, (a : Int), (b : Int), (cc : Int), imm⟩ r = { r with code := 42 }) := d16_poor (by rw [HYr.out]; exact HF1.out) (by rw [HWR.out]; omega)
  go_upto_region 11 with fail
  have HF := Lib.hid (hv.out.setE 42)
  have HOne := Lib.hid HF.out.ones
  have c40 := HK.out.err
  have f40 : w3.frozen? ⟨w.heap.size, 40, none⟩ = false := HK.out.bk.frozen 40
  have HK43 := Lib.hid (HK.out.setE 42)
  have HZ43 : Hid (Bk (w3.setCell ⟨w.heap.size, 40, none⟩ (.int .i64 42)) (w.heap.size + 1 + 1) 87 zero41) := HZ.out.set_ne (by omega) _ _
  have HB43 : Hid (Below w.heap.size w (w3.setCell ⟨w.heap.size, 40, none⟩ (.int .i64 42))) := HB.out.setCell (Nat.le_refl _) _
  go_wp2_with (first
   | (refine wpList_load_row (by rfl) 87 (.tmp 3) (by rfl) w.heap.size (by rfl) 87 ({ c with e := 42 } : RR).cells.toArray (0, 0) _ HK43.out.bk Try.underlying87 (by rfl) (info_run17 HK43.out.sz) ?_)
   | (refine wpList_store_row (by rfl) 87 (.tmp 6) (.tmp 83) (by rfl) (w.heap.size + 1 + 1) ({ c with e := 42 } : RR).cells.toArray (by rfl) (by rfl) 87 zero41 HZ43.out (info_run17 HK43.out.sz) (zero41_size HK43.out.sz) HOne.out ?_))
  refine bodyPost_ret (res_run 6 rfl _ _ (w.heap.size + 1 + 1) { c with e := 42 } (by rfl) ⟨HZ43.out.setRow _, HK43.out.sz⟩) rfl ?_
  have hb9 := lbelow_setRow HB43.out (show w.heap.size ≤ w.heap.size + 1 + 1 by omega) ({ c with e := 42 } : RR).cells.toArray
  rw [HE.out]
  exact ⟨_, rfl, (HF.out.below hb9).more hb9.size, (HSS.out.keep rfl rfl rfl), hb9⟩
 have hp2 : decide (maxw - wr < 2) = false := decide_eq_false hp
 have HPP : Hid (¬ maxw - wr < 2) := hp
 obtain ⟨W4, hW4⟩ : ∃ W4, w3.setCell ⟨w.heap.size, 35, none⟩ (.int .i64 (wr + 2)) = W4 := ⟨_, rfl⟩
 have HK' := Lib.hid (show BkC W4 w.heap.size _ by rw [← hW4]; exact HK.out.setW _)
 have HB' : Hid (Below w.heap.size w W4) := by show Below _ _ _; rw [← hW4]; exact HB.out.setCell (Nat.le_refl _) _
 have HZ' : Hid (Bk W4 (w.heap.size + 1 + 1) 87 zero41) := by show Bk _ _ _ _; rw [← hW4]; exact HZ.out.set_ne (by omega) _ _
 have HI' : Hid (Bk W4 (w.heap.size + 1) 62 #[.int .i64 16, .int .i64 a, .int .i64 b, .int .i64 cc, .int .u64 imm]) := by show Bk _ _ _ _; rw [← hW4]; exact HI.out.set_ne (by omega) _ _
 have j0 : W4.cell? ⟨w.heap.size + 1, 0, none⟩ = some (.int .i64 16) := (HI'.out.cell 0).trans rfl
 go_upto_region 25 with fail
 try rw [hW4]
 clear hW4 k35 f35 i0 i1
 clear HK HB HZ HI
 have HK := HK'
 have HB := HB'
 have HZ := HZ'
 have HI := HI'
 clear HK' HB' HZ' HI' 
 have HJ : Hid (W4.rangeAt w.heap.size 0 (stV c.roots (.slice xA xn xk))) := by show World.rangeAt _ _ _ _; rw [← HBV.out]; exact HK.out.st
 have hi17 : (Try.prog.info? 53).map (·.size) = some (stV c.roots (.slice xA xn xk)).length := by rw [show (stV c.roots (.slice xA xn xk)).length = 17 by simp [stV, hv.out.sz.roots]]; exact info_st17
 go_wp2_with (refine wpList_load_mid (by rfl) 53 (.tmp 165) (by rfl) w.heap.size 0 (by rfl) (stV c.roots (.slice xA xn xk)) _ HJ.out Try.underlying53 (by rfl) hi17 ?_)
 refine (rwithout_any c.roots hv.out.sz.roots l xA xn xk Y W4 ((HX.out.below HB.out).more HB.out.size) (by omega)).mono ?_
 rintro e w5 ⟨⟨A4, n4, k4, rfl, hO4⟩, hb5⟩
 have HO4 := Lib.hid hO4
 have HOB := Lib.hid (HB.out.size)
 have HK' := Lib.hid (HK.out.below hb5)
 have HB' := Lib.hid (HB.out.trans (hb5.mono HB.out.size))
 have HZ' := Lib.hid (HZ.out.below hb5 HZ.out.lt)
 have HI' := Lib.hid (HI.out.below hb5 HI.out.lt)
 clear HK HB HZ HI
 have HK := HK'
 have HB := HB'
 have HZ := HZ'
 have HI := HI'
 clear HK' HB' HZ' HI' 
 clear hO4 hb5 HJ hi17 j0
 have hS17 : (Try.prog.info? 53).map (·.size) = some (stV c.roots (.slice A4 n4 k4)).toArray.size := by rw [stV_len hv.out.sz.roots]; exact info_st17
 have hS41 : (stV c.roots (.slice A4 n4 k4)).toArray.size ≤ ({ c with writes := wr + 2 } : RR).cells.toArray.size := by rw [stV_len hv.out.sz.roots, List.size_toArray, RR.len HK.out.sz]; decide
 go_upto_region 27 with (refine wpList_store_seg (by rfl) 53 (.tmp 169) (.tmp 168) (by rfl) w.heap.size (stV c.roots (.slice A4 n4 k4)).toArray (by rfl) (by rfl) 87 ({ c with writes := wr + 2 } : RR).cells.toArray ({ c with writes := wr + 2, bv := .slice A4 n4 k4 } : RR).cells.toArray HK.out.bk hS17 hS41 (stV_one A4 n4 k4) (RR.seg HK.out.sz hv.out.sz.roots _) ?_)
 obtain ⟨cN, hcN⟩ : ∃ cN : RR, ({ c with writes := wr + 2, bv := .slice A4 n4 k4 } : RR) = cN := ⟨_, rfl⟩
 have hszN : cN.Sz := by rw [← hcN]; exact ⟨hv.out.sz.1, hv.out.sz.2⟩
 have hszN2 : ({ c with writes := wr + 2, bv := .slice A4 n4 k4 } : RR).Sz := ⟨hv.out.sz.1, hv.out.sz.2⟩
 obtain ⟨W9, hW9⟩ : ∃ W9, w5.setRow w.heap.size ({ c with writes := wr + 2, bv := .slice A4 n4 k4 } : RR).cells.toArray = W9 := ⟨_, rfl⟩
 have HK' : Hid (BkC W9 w.heap.size cN) := by show BkC _ _ _; rw [← hW9, ← hcN]; exact HK.out.setRow hszN2
 have HB' : Hid (Below w.heap.size w W9) := by show Below _ _ _; rw [← hW9]; exact lbelow_setRow HB.out (Nat.le_refl _) _
 have HZ' : Hid (Bk W9 (w.heap.size + 1 + 1) 87 zero41) := by show Bk _ _ _ _; rw [← hW9]; exact HZ.out.setRow_ne (by omega) _
 have HO6 := Lib.hid (show W9.ownsRow W4.heap.size 93 9 (.slice A4 n4 k4) n4 _ by rw [← hW9]; exact own_setRow HK.out.bk HO4.out.own (by decide) _)
 have HCN := Lib.hid hcN
 have HOne : Hid (cN.cells.toArray.all (·.oneCell') = true) := by
  show _ = _
  rw [← hcN]
  obtain ⟨A', k', e3, _, _⟩ := hv.out.news
  obtain ⟨A'', k'', e5, _, _⟩ := hv.out.pick
  exact RR.one _ rfl (by show c.nv.oneCell' = true; rw [e3]; rfl) (by show c.pv.oneCell' = true; rw [e5]; rfl)
 try rw [hW9]
 clear hS17 hS41 hcN hszN hszN2 hW9 HK HB HZ HI
 have HK := HK'
 have HB := HB'
 have HZ := HZ'
 clear HK' HB' HZ'
 go_wp2_with (first
  | (refine wpList_load_row (by rfl) 87 (.tmp 3) (by rfl) w.heap.size (by rfl) 87 _ (0, 0) _ HK.out.bk Try.underlying87 (by rfl) (info_run17 HK.out.sz) ?_)
  | (refine wpList_store_row (by rfl) 87 (.tmp 6) (.tmp 173) (by rfl) (w.heap.size + 1 + 1) _ (by rfl) (by rfl) 87 zero41 HZ.out (info_run17 HK.out.sz) (zero41_size HK.out.sz) HOne.out ?_))
 refine bodyPost_ret (res_run 6 rfl _ _ (w.heap.size + 1 + 1) _ (by rfl) ⟨HZ.out.setRow _, HK.out.sz⟩) rfl ?_
 have HE : touch17 maxw ⟨16, (a : Int), (b : Int), (cc : Int), imm⟩ r = { r with writes := wr + 2, st := { r.st with blocks := upd r.st.blocks Y none } } := by show _ = _; rw [d16_ok (by rw [HYr.out]; exact HF1.out) (by rw [HWR.out]; have := HPP.out; omega), HYr.out, HWR.out]; try rfl
 rw [HE]
 have hb9 := lbelow_setRow HB.out (show w.heap.size ≤ w.heap.size + 1 + 1 by omega) cN.cells.toArray
 have hO := own_setRow HZ.out HO6.out (by decide) cN.cells.toArray
 obtain ⟨A4', c4', e4, hc4', hr4⟩ := Rd.of_own_cap hO
 injection e4 with e4a _ e4c
 subst e4a e4c
 obtain ⟨V9, hV9⟩ : ∃ V9, W9.setRow (w.heap.size + 1 + 1) cN.cells.toArray = V9 := ⟨_, rfl⟩
 rw [hV9] at hb9 hr4 hO ⊢
 refine ⟨cN, rfl, ?_, ?_, hb9⟩
 ·rw [← HCN.out]
  exact (((hv.out.setW (wr + 2)).below hb9).more hb9.size).setBox (l := withoutX Y l) ⟨hr4, HO4.out.len, HO4.out.ok⟩ (HBX.out.del Y) (few_del hv.out.few Y)
 ·rw [← HCN.out]
  exact ⟨SlIn.own hO fun b hb => .inr (Nat.le_trans HOB.out hb), HSS.out.nv.mono fun _ hb => .inl hb, HSS.out.pv.mono fun _ hb => .inl hb⟩
end Go.Proofs.Ytjggmimaolddkaa
