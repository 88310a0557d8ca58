import Derived.Test.YtjggmimaolddkaaOrBF
import Derived.Test.YtjggmimaolddkaaOrBH
import Derived.Test.YtjggmimaolddkaaOrBI
import Derived.Test.YtjggmimaolddkaaOrBJ
import Derived.Test.YtjggmimaolddkaaOrBK
import Derived.Test.YtjggmimaolddkaaOrBL
namespace Go.Proofs.Ytjggmimaolddkaa
open Go.RowKit
set_option linter.unusedVariables false
set_option linter.unusedSimpArgs false
set_option maxRecDepth 100000 in
set_option maxHeartbeats 16000000 in
theorem rtouch10 (c : RR) (r : MRun) (ia ib ic imm maxw : Int) (w : World) (hv0 : RVIn w w.heap.size c r) (hu0 : ∀ x ∈ r.regs, U64 x) (ha : 0 ≤ ia ∧ ia < 16) (hb : 0 ≤ ib ∧ ib < 16) (hc : 0 ≤ ic ∧ ic < 16) (him : U64 imm) (hw0 : 0 ≤ r.writes ∧ r.writes ≤ 1000000000000) (hmw : 0 ≤ maxw ∧ maxw ≤ 1000000) (hpu : ∀ x ∈ r.pick, U64 x) (hn : r.news.length ≤ 1000000) (S : Nat → Prop) (hs : SIn S c) (hSl : ∀ b, S b → b < w.heap.size) :
 Calls Try.prog 59 #[.agg c.cells.toArray, Ins.v ⟨10, ia, ib, ic, imm⟩, .int .i64 maxw] w (RunP S (touch17 maxw ⟨10, ia, ib, ic, imm⟩ r) w) := by
 obtain ⟨a, rfl⟩ : ∃ a : Nat, ia = (a : Int) := ⟨ia.toNat, by omega⟩
 obtain ⟨b, rfl⟩ : ∃ a : Nat, ib = (a : Int) := ⟨ib.toNat, by omega⟩
 obtain ⟨cc, rfl⟩ : ∃ a : Nat, ic = (a : Int) := ⟨ic.toNat, by omega⟩
 have ha16 : a < 16 := by omega
 have hb16 : b < 16 := by omega
 obtain ⟨xA, xn, xk, l, hbv, hX, hBX⟩ := hv0.box
 have hv := Lib.hid hv0
 have HBV := Lib.hid hbv
 have HX := Lib.hid hX
 have HBX := Lib.hid hBX
 have HPU := Lib.hid hpu
 have HN := Lib.hid hn
 have HSS := Lib.hid hs
 have HSL := Lib.hid hSl
 have HRG := Lib.hid hv0.regs
 have HRT := Lib.hid hv0.roots
 have HCC := Lib.hid hc
 have hx65 := few_len hBX hv0.few hX
 obtain ⟨wr, hwr⟩ : ∃ wr, r.writes = wr := ⟨_, rfl⟩
 have hcw : c.writes = wr := hv0.writes.trans hwr
 rw [hwr] at hw0
 have HWR := Lib.hid hwr
 have HCW := Lib.hid hcw
 obtain ⟨X, hXX⟩ : ∃ X, c.regs.getD b 0 = X := ⟨_, rfl⟩
 have hXr : r.reg (b : Int) = X := by rw [← hXX, hv0.regs]; rfl
 have uX : U64 X := by rw [← hXr]; exact getD_u64 hu0 _
 obtain ⟨Y, hYY⟩ : ∃ Y, c.regs.getD a 0 = Y := ⟨_, rfl⟩
 have hYr : r.reg (a : Int) = Y := by rw [← hYY, hv0.regs]; rfl
 have uY : U64 Y := by rw [← hYr]; exact getD_u64 hu0 _
 have HXr := Lib.hid hXr
 have HYr := Lib.hid hYr
 have HYY := Lib.hid hYY
 have uX0 : 0 ≤ X := uX.1
 obtain ⟨wd, hwd⟩ : ∃ wd, wordOf ⟨10, (a : Int), (b : Int), (cc : Int), imm⟩ c.regs = wd := ⟨_, rfl⟩
 have hwdr : wordOf ⟨10, (a : Int), (b : Int), (cc : Int), imm⟩ r.regs = wd := by rw [← hwd, hv0.regs]
 have uwd : U64 wd := by
  rw [← hwdr]; unfold wordOf; split
  ·exact getD_u64 hu0 _
  ·exact him
 have HWD := Lib.hid hwd
 have HWDr := Lib.hid hwdr
 have uwd0 : 0 ≤ wd := uwd.1
 have HUX := Lib.hid uX
 have HUY := Lib.hid uY
 have hsz := hv0.sz
 obtain ⟨M, hM⟩ : ∃ M, c.cells.toArray = M := ⟨_, rfl⟩
 rw [hM]
 obtain ⟨W1, hW1⟩ : ∃ W1, ((w.alloc (.cells M 87)).alloc (.cells #[.int .i64 10, .int .i64 a, .int .i64 b, .int .i64 cc, .int .u64 imm] 62)).alloc (.cells #[.int .u64 0, .int .u64 0, .int .u64 0, .int .u64 0, .int .u64 0, .int .u64 0, .int .u64 0, .int .u64 0, .int .u64 0, .int .u64 0, .int .u64 0, .int .u64 0, .int .u64 0, .int .u64 0, .int .u64 0, .int .u64 0, .slice none 0 0, .int .i64 0, .int .u64 0, .int .u64 0, .int .u64 0, .int .u64 0, .int .u64 0, .int .u64 0, .int .u64 0, .int .u64 0, .int .u64 0, .int .u64 0, .int .u64 0, .int .u64 0, .int .u64 0, .int .u64 0, .int .u64 0, .int .u64 0, .int .i64 0, .int .i64 0, .slice none 0 0, .slice none 0 0, .bool false, .int .u64 0, .int .i64 0] 87) = W1 := ⟨_, rfl⟩
 have HB : Hid (Below w.heap.size w W1) := by show Below _ _ _; rw [← hW1]; exact (((Below.refl _ _).alloc (Nat.le_refl _) _).alloc (by simp) _).alloc (by simp; omega) _
 have HK : Hid (BkC W1 w.heap.size c) := by show BkC _ _ _; rw [← hW1, ← hM]; exact ⟨((Bk.new w _ _).alloc _).alloc _, hsz⟩
 have HI : Hid (Bk W1 (w.heap.size + 1) 62 #[.int .i64 10, .int .i64 a, .int .i64 b, .int .i64 cc, .int .u64 imm]) := by show Bk _ _ _ _; rw [← hW1]; exact (rf_new1 _ (by simp) _ _).alloc _
 have HZ : Hid (Bk W1 (w.heap.size + 1 + 1) 87 zero41) := by show Bk _ _ _ _; rw [← hW1]; exact rf_new1 _ (by simp) _ _
 have HW1 := Lib.hid hW1
 have k2 : W1.cell? ⟨w.heap.size, 18 + b, none⟩ = some (.int .u64 X) := (HK.out.reg hb16).trans (by rw [← hXX])
 have k3 : W1.cell? ⟨w.heap.size, 18 + a, none⟩ = some (.int .u64 Y) := (HK.out.reg ha16).trans (by rw [← hYY])
 have i0 := (HI.out.cell 0).trans rfl
 have i1 := (HI.out.cell 1).trans rfl
 have i2 := (HI.out.cell 2).trans rfl
 have i3 := (HI.out.cell 3).trans rfl
 have i4 := (HI.out.cell 4).trans rfl
 clear hv0 hu0 hpu hs hSl hsz hX hBX hbv hW1 hXX hXr uX hYY hYr uY hwd hwdr uwd him hwr hcw hc hn
 simp only [Ins.v]
 go_enter Try.func59, Try.ntmps59
 go_upto_region 1 with fail
 rw [HW1.out]
 clear HW1
 go_upto_region 4 with fail
 have HR18 : Hid (W1.rangeAt w.heap.size 18 (u64s c.regs)) := HK.out.rg
 have hi16 : (Try.prog.info? 50).map (·.size) = some (u64s c.regs).length := by rw [List.length_map, hv.out.sz.regs]; kernel_rfl
 go_wp2_with (refine wpList_load_mid (by rfl) 50 (.tmp 26) (by rfl) w.heap.size 18 (by rfl) (u64s c.regs) _ HR18.out Try.underlying50 (by rfl) hi16 ?_)
 refine (rword_any ⟨10, (a : Int), (b : Int), (cc : Int), imm⟩ c.regs W1 hv.out.sz.regs HCC.out).mono ?_
 rw [HWD.out]
 rintro e w2 ⟨rfl, hb2⟩
 clear i0 i1 i2 i3 i4 k2 k3 HR18 hi16 HCC HWD
 have HK' := Lib.hid (HK.out.below hb2)
 have HB' := Lib.hid (HB.out.trans (hb2.mono HB.out.size))
 have HZ' := Lib.hid (HZ.out.below hb2 HZ.out.lt)
 have HI' := Lib.hid (HI.out.below hb2 HI.out.lt)
 clear HK HB HZ HI
 have HK := HK'
 have HB := HB'
 have HZ := HZ'
 have HI := HI'
 clear HK' HB' HZ' HI' 
 clear hb2
 have HJ : Hid (w2.rangeAt w.heap.size 0 (stV c.roots (.slice xA xn xk))) := by show World.rangeAt _ _ _ _; rw [← HBV.out]; exact HK.out.st
 have hi17 : (Try.prog.info? 53).map (·.size) = some (stV c.roots (.slice xA xn xk)).length := by rw [show (stV c.roots (.slice xA xn xk)).length = 17 by simp [stV, hv.out.sz.roots]]; exact info_st17
 go_wp2_with (refine wpList_load_mid (by rfl) 53 (.tmp 29) (by rfl) w.heap.size 0 (by rfl) (stV c.roots (.slice xA xn xk)) _ HJ.out Try.underlying53 (by rfl) hi17 ?_)
 refine (rfindx_any (stV c.roots (.slice xA xn xk)).toArray l xA xn xk (stV_bv hv.out.sz.roots _) X w2 ((HX.out.below HB.out).more HB.out.size)).mono ?_
 rintro e w3 ⟨rfl, hb3⟩
 have HK' := Lib.hid (HK.out.below hb3)
 have HB' := Lib.hid (HB.out.trans (hb3.mono HB.out.size))
 have HZ' := Lib.hid (HZ.out.below hb3 HZ.out.lt)
 have HI' := Lib.hid (HI.out.below hb3 HI.out.lt)
 clear HK HB HZ HI
 have HK := HK'
 have HB := HB'
 have HZ := HZ'
 have HI := HI'
 clear HK' HB' HZ' HI' 
 clear hb3 HJ hi17
 have i0 := (HI.out.cell 0).trans rfl
 have i1 := (HI.out.cell 1).trans rfl
 obtain ⟨z, hz⟩ : ∃ z, findX X l 0 = z := ⟨_, rfl⟩
 rw [hz]
 clear hz
 by_cases h15 : 15 < X
 ·have g15 : decide (15 < X) = true := decide_eq_true h15
  have H15 : Hid (16 ≤ X) := by show _ ≤ _; omega
  have HE : Hid (touch17 maxw ⟨10, (a : Int), (b : Int), (cc : Int), imm⟩ r = { r with code := 44 }) := d10_bad (by rw [HXr.out]; exact H15.out)
  go_upto_region 7 with fail
  have HF := Lib.hid (hv.out.setE 44)
  have HOne := Lib.hid HF.out.ones
  have c40 := HK.out.err
  have f40 : w3.frozen? ⟨w.heap.size, 40, none⟩ = false := HK.out.bk.frozen 40
  have HK43 := Lib.hid (HK.out.setE 44)
  have HZ43 : Hid (Bk (w3.setCell ⟨w.heap.size, 40, none⟩ (.int .i64 44)) (w.heap.size + 1 + 1) 87 zero41) := HZ.out.set_ne (by omega) _ _
  have HB43 : Hid (Below w.heap.size w (w3.setCell ⟨w.heap.size, 40, none⟩ (.int .i64 44))) := HB.out.setCell (Nat.le_refl _) _
  go_wp2_with (first
   | (refine wpList_load_row (by rfl) 87 (.tmp 3) (by rfl) w.heap.size (by rfl) 87 ({ c with e := 44 } : RR).cells.toArray (0, 0) _ HK43.out.bk Try.underlying87 (by rfl) (info_run17 HK43.out.sz) ?_)
   | (refine wpList_store_row (by rfl) 87 (.tmp 6) (.tmp 68) (by rfl) (w.heap.size + 1 + 1) ({ c with e := 44 } : RR).cells.toArray (by rfl) (by rfl) 87 zero41 HZ43.out (info_run17 HK43.out.sz) (zero41_size HK43.out.sz) HOne.out ?_))
  refine bodyPost_ret (res_run 6 rfl _ _ (w.heap.size + 1 + 1) { c with e := 44 } (by rfl) ⟨HZ43.out.setRow _, HK43.out.sz⟩) rfl ?_
  have hb9 := lbelow_setRow HB43.out (show w.heap.size ≤ w.heap.size + 1 + 1 by omega) ({ c with e := 44 } : RR).cells.toArray
  rw [HE.out]
  exact ⟨_, rfl, (HF.out.below hb9).more hb9.size, (HSS.out.keep rfl rfl rfl), hb9⟩
 have g15 : decide (15 < X) = false := decide_eq_false (by omega)
 obtain ⟨x, hx⟩ : ∃ x : Nat, X = (x : Int) := ⟨X.toNat, by omega⟩
 subst hx
 have hx16 : x < 16 := by omega
 go_wp2_with fail
 refine (writes_at 10 1 w3 rfl).mono ?_
 intro e w' h9
 obtain ⟨rfl, h9⟩ := h9
 rw [← h9]
 clear h9 w'
 have k35 : w3.cell? ⟨w.heap.size, 35, none⟩ = some (.int .i64 wr) := HK.out.writes.trans (by rw [HCW.out])
 have f35 := HK.out.bk.frozen 35
 by_cases hp : maxw - wr < 1
 ·have hp2 : decide (maxw - wr < 1) = true := decide_eq_true hp
  have HE : Hid (touch17 maxw ⟨10, (a : Int), (b : Int), (cc : Int), imm⟩ r = { r with code := 42 }) := d10_poor (by rw [HXr.out]; omega) (by rw [HWR.out]; omega)
  go_upto_region 11 with fail
  have HF := Lib.hid (hv.out.setE 42)
  have HOne := Lib.hid HF.out.ones
  have c40 := HK.out.err
  have f40 : w3.frozen? ⟨w.heap.size, 40, none⟩ = false := HK.out.bk.frozen 40
  have HK43 := Lib.hid (HK.out.setE 42)
  have HZ43 : Hid (Bk (w3.setCell ⟨w.heap.size, 40, none⟩ (.int .i64 42)) (w.heap.size + 1 + 1) 87 zero41) := HZ.out.set_ne (by omega) _ _
  have HB43 : Hid (Below w.heap.size w (w3.setCell ⟨w.heap.size, 40, none⟩ (.int .i64 42))) := HB.out.setCell (Nat.le_refl _) _
  go_wp2_with (first
   | (refine wpList_load_row (by rfl) 87 (.tmp 3) (by rfl) w.heap.size (by rfl) 87 ({ c with e := 42 } : RR).cells.toArray (0, 0) _ HK43.out.bk Try.underlying87 (by rfl) (info_run17 HK43.out.sz) ?_)
   | (refine wpList_store_row (by rfl) 87 (.tmp 6) (.tmp 83) (by rfl) (w.heap.size + 1 + 1) ({ c with e := 42 } : RR).cells.toArray (by rfl) (by rfl) 87 zero41 HZ43.out (info_run17 HK43.out.sz) (zero41_size HK43.out.sz) HOne.out ?_))
  refine bodyPost_ret (res_run 6 rfl _ _ (w.heap.size + 1 + 1) { c with e := 42 } (by rfl) ⟨HZ43.out.setRow _, HK43.out.sz⟩) rfl ?_
  have hb9 := lbelow_setRow HB43.out (show w.heap.size ≤ w.heap.size + 1 + 1 by omega) ({ c with e := 42 } : RR).cells.toArray
  rw [HE.out]
  exact ⟨_, rfl, (HF.out.below hb9).more hb9.size, (HSS.out.keep rfl rfl rfl), hb9⟩
 have hp2 : decide (maxw - wr < 1) = false := decide_eq_false hp
 have HPP : Hid (¬ maxw - wr < 1) := hp
 obtain ⟨W4, hW4⟩ : ∃ W4, w3.setCell ⟨w.heap.size, 35, none⟩ (.int .i64 (wr + 1)) = W4 := ⟨_, rfl⟩
 have HK' := Lib.hid (show BkC W4 w.heap.size _ by rw [← hW4]; exact HK.out.setW _)
 have HB' : Hid (Below w.heap.size w W4) := by show Below _ _ _; rw [← hW4]; exact HB.out.setCell (Nat.le_refl _) _
 have HZ' : Hid (Bk W4 (w.heap.size + 1 + 1) 87 zero41) := by show Bk _ _ _ _; rw [← hW4]; exact HZ.out.set_ne (by omega) _ _
 have HI' : Hid (Bk W4 (w.heap.size + 1) 62 #[.int .i64 10, .int .i64 a, .int .i64 b, .int .i64 cc, .int .u64 imm]) := by show Bk _ _ _ _; rw [← hW4]; exact HI.out.set_ne (by omega) _ _
 have kX : W4.cell? ⟨w.heap.size, x, none⟩ = some (.int .u64 (c.roots.getD x 0)) := HK'.out.root hx16
 have fX := HK'.out.bk.frozen x
 have kA : W4.cell? ⟨w.heap.size, 18 + a, none⟩ = some (.int .u64 Y) := (HK'.out.reg ha16).trans (by show some (Value.int .u64 (c.regs.getD a 0)) = _; rw [HYY.out])
 have j0 : W4.cell? ⟨w.heap.size + 1, 0, none⟩ = some (.int .i64 10) := (HI'.out.cell 0).trans rfl
 have j1 : W4.cell? ⟨w.heap.size + 1, 1, none⟩ = some (.int .i64 a) := (HI'.out.cell 1).trans rfl
 go_upto_region 17 with fail
 try rw [hW4]
 clear hW4 k35 f35 i0 i1
 clear HK HB HZ HI
 have HK := HK'
 have HB := HB'
 have HZ := HZ'
 have HI := HI'
 clear HK' HB' HZ' HI' 
 obtain ⟨W5, hW5⟩ : ∃ W5, W4.setCell ⟨w.heap.size, x, none⟩ (.int .u64 Y) = W5 := ⟨_, rfl⟩
 have HK' := Lib.hid (show BkC W5 w.heap.size _ by rw [← hW5]; exact HK.out.setRoot hx16 _)
 have HB' : Hid (Below w.heap.size w W5) := by show Below _ _ _; rw [← hW5]; exact HB.out.setCell (Nat.le_refl _) _
 have HZ' : Hid (Bk W5 (w.heap.size + 1 + 1) 87 zero41) := by show Bk _ _ _ _; rw [← hW5]; exact HZ.out.set_ne (by omega) _ _
 have HI' : Hid (Bk W5 (w.heap.size + 1) 62 #[.int .i64 10, .int .i64 a, .int .i64 b, .int .i64 cc, .int .u64 imm]) := by show Bk _ _ _ _; rw [← hW5]; exact HI.out.set_ne (by omega) _ _
 go_upto_region 27 with fail
 try rw [hW5]
 clear hW5 kX fX kA j0 j1
 clear HK HB HZ HI
 have HK := HK'
 have HB := HB'
 have HZ := HZ'
 have HI := HI'
 clear HK' HB' HZ' HI' 
 have HE : Hid (touch17 maxw ⟨10, (a : Int), (b : Int), (cc : Int), imm⟩ r = { r with writes := wr + 1, st := { r.st with roots := r.st.roots.set x Y } }) := by show _ = _; rw [d10_ok (by rw [HXr.out]; omega) (by rw [HWR.out]; have := HPP.out; omega), HXr.out, HYr.out, HWR.out]; try rfl
 have HF := Lib.hid ((hv.out.setW (wr + 1)).setRoot x Y)
 have HOne := Lib.hid HF.out.ones
 go_wp2_with (first
  | (refine wpList_load_row (by rfl) 87 (.tmp 3) (by rfl) w.heap.size (by rfl) 87 _ (0, 0) _ HK.out.bk Try.underlying87 (by rfl) (info_run17 HK.out.sz) ?_)
  | (refine wpList_store_row (by rfl) 87 (.tmp 6) (.tmp 173) (by rfl) (w.heap.size + 1 + 1) _ (by rfl) (by rfl) 87 zero41 HZ.out (info_run17 HK.out.sz) (zero41_size HK.out.sz) HOne.out ?_))
 refine bodyPost_ret (res_run 6 rfl _ _ (w.heap.size + 1 + 1) _ (by rfl) ⟨HZ.out.setRow _, HK.out.sz⟩) rfl ?_
 rw [HE.out]
 exact ⟨_, rfl, (HF.out.below (lbelow_setRow HB.out (show w.heap.size ≤ w.heap.size + 1 + 1 by omega) _)).more (lbelow_setRow HB.out (show w.heap.size ≤ w.heap.size + 1 + 1 by omega) _).size, (HSS.out.keep rfl rfl rfl), lbelow_setRow HB.out (show w.heap.size ≤ w.heap.size + 1 + 1 by omega) _⟩
end Go.Proofs.Ytjggmimaolddkaa
namespace Go.Proofs.Ytjggmimaolddkaa
open Go.RowKit
set_option linter.unusedVariables false
set_option linter.unusedSimpArgs false
theorem rtouch_any (c : RR) (r : MRun) (i : Ins) (maxw : Int) (w : World) (hv0 : RVIn w w.heap.size c r) (hu0 : ∀ x ∈ r.regs, U64 x) (hop : 9 ≤ i.op ∧ i.op ≤ 16) (ha : 0 ≤ i.a ∧ i.a < 16) (hb : 0 ≤ i.b ∧ i.b < 16) (hc : 0 ≤ i.c ∧ i.c < 16) (him : U64 i.imm) (hw0 : 0 ≤ r.writes ∧ r.writes ≤ 1000000000000) (hmw : 0 ≤ maxw ∧ maxw ≤ 1000000) (hpu : ∀ x ∈ r.pick, U64 x) (hn : r.news.length ≤ 1000000) (S : Nat → Prop) (hs : SIn S c) (hSl : ∀ b, S b → b < w.heap.size) :
 Calls Try.prog 59 #[.agg c.cells.toArray, i.v, .int .i64 maxw] w (RunP S (touch17 maxw i r) w) := by
 obtain ⟨op, ia, ib, ic, imm⟩ := i
 simp only at hop ha hb hc him
 have : op = 9 ∨ op = 10 ∨ op = 11 ∨ op = 12 ∨ op = 13 ∨ op = 14 ∨ op = 15 ∨ op = 16 := by omega
 rcases this with rfl | rfl | rfl | rfl | rfl | rfl | rfl | rfl
 ·exact rtouch9 c r ia ib ic imm maxw w hv0 hu0 ha hb hc him hw0 hmw hpu hn S hs hSl
 ·exact rtouch10 c r ia ib ic imm maxw w hv0 hu0 ha hb hc him hw0 hmw hpu hn S hs hSl
 ·exact rtouch11 c r ia ib ic imm maxw w hv0 hu0 ha hb hc him hw0 hmw hpu hn S hs hSl
 ·exact rtouch12 c r ia ib ic imm maxw w hv0 hu0 ha hb hc him hw0 hmw hpu hn S hs hSl
 ·exact rtouch13 c r ia ib ic imm maxw w hv0 hu0 ha hb hc him hw0 hmw hpu hn S hs hSl
 ·exact rtouch14 c r ia ib ic imm maxw w hv0 hu0 ha hb hc him hw0 hmw hpu hn S hs hSl
 ·exact rtouch15 c r ia ib ic imm maxw w hv0 hu0 ha hb hc him hw0 hmw hpu hn S hs hSl
 ·exact rtouch16 c r ia ib ic imm maxw w hv0 hu0 ha hb hc him hw0 hmw hpu hn S hs hSl
end Go.Proofs.Ytjggmimaolddkaa
namespace Go.Proofs.Ytjggmimaolddkaa
open Go.RowKit
set_option linter.unusedVariables false
set_option linter.unusedSimpArgs false
set_option maxRecDepth 100000 in
set_option maxHeartbeats 16000000 in
theorem rstep_to (c : RR) (r : MRun) (op ia ib ic imm : Int) (l : List Ins) (A : Option Addr) (n k : Nat) (args : List Int) (fuel maxw : Int) (w : World) (hv0 : RVIn w w.heap.size c r) (hI : RdI w w.heap.size A n l) (hpc0 : 0 ≤ r.pc) (hli : l[r.pc.toNat]? = some ⟨op, ia, ib, ic, imm⟩) (hi : InsOk ⟨op, ia, ib, ic, imm⟩) (h4 : args.length = 4) (hu0 : ∀ x ∈ r.regs, U64 x) (hw0 : 0 ≤ r.writes ∧ r.writes ≤ 1000000000000) (hmw : 0 ≤ maxw ∧ maxw ≤ 1000000) (hfu : 0 ≤ fuel ∧ fuel ≤ 1000000) (hst : 0 ≤ r.steps) (hpu : ∀ x ∈ r.pick, U64 x) (hn : r.news.length ≤ 1000000) (S : Nat → Prop) (hs : SIn S c) (hSl : ∀ b, S b → b < w.heap.size) (hop : 9 ≤ op ∧ op ≤ 16) :
 Calls Try.prog 42 #[.agg c.cells.toArray, .slice A n k, .agg (u64s args).toArray, .int .i64 fuel, .int .i64 maxw] w (RunP S (step17 args fuel maxw ⟨op, ia, ib, ic, imm⟩ r) w) := by
 obtain ⟨⟨⟨a0, a1⟩, ⟨b0, b1⟩, ⟨cc0, cc1⟩⟩, ⟨o0, o1⟩, him, harg, hgoes⟩ := hi
 simp only at a0 a1 b0 b1 cc0 cc1 o0 o1 him harg hgoes
 obtain ⟨a, rfl⟩ : ∃ a : Nat, ia = (a : Int) := ⟨ia.toNat, by omega⟩
 have ha16 : a < 16 := by omega
 have hv := Lib.hid hv0
 have HRI := Lib.hid hI
 have HPU := Lib.hid hpu
 have HN := Lib.hid hn
 have HSS := Lib.hid hs
 have HSL := Lib.hid hSl
 have HRG := Lib.hid hv0.regs
 have HU := Lib.hid hu0
 have HW0 := Lib.hid hw0
 have HMW := Lib.hid hmw
 have HIM := Lib.hid him
 have HAR := Lib.hid harg
 have H4 := Lib.hid h4
 have HBC := Lib.hid (And.intro (And.intro b0 b1) (And.intro cc0 cc1))
 obtain ⟨pc, hpc⟩ : ∃ pc : Nat, r.pc = (pc : Int) := ⟨r.pc.toNat, by omega⟩
 rw [hpc, Int.toNat_natCast] at hli
 obtain ⟨st, hst1⟩ : ∃ st, r.steps = st := ⟨_, rfl⟩
 rw [hst1] at hst
 have hcpc : c.pc = (pc : Int) := hv0.pc.trans hpc
 have hcst : c.steps = st := hv0.steps.trans hst1
 have hpl : pc < l.length := (List.getElem?_eq_some_iff.1 hli).1
 have hpn : pc < n := by rw [← hI.insLen]; exact hpl
 have hn63 := hI.le
 unfold maxLen at hn63
 have hpni : (pc : Int) < (n : Int) := by omega
 have HPC := Lib.hid hpc
 have HST := Lib.hid hst1
 have HCP := Lib.hid hcpc
 have HCS := Lib.hid hcst
 have HLI := Lib.hid hli
 obtain ⟨Y, hYY⟩ : ∃ Y, c.regs.getD a 0 = Y := ⟨_, rfl⟩
 have hYr : r.reg (a : Int) = Y := by rw [← hYY, hv0.regs]; rfl
 have HYr := Lib.hid hYr
 have HYY := Lib.hid hYY
 have uY : U64 Y := by rw [← hYr]; exact getD_u64 hu0 _
 have uY0 := uY.1
 have hsz := hv0.sz
 obtain ⟨M, hM⟩ : ∃ M, c.cells.toArray = M := ⟨_, rfl⟩
 obtain ⟨CA, hCA⟩ : ∃ CA, (u64s args).toArray = CA := ⟨_, rfl⟩
 rw [hM, hCA]
 obtain ⟨W1, hW1⟩ : ∃ W1, ((w.alloc (.cells M 87)).alloc (.cells CA 37)).alloc (.cells #[.int .u64 0, .int .u64 0, .int .u64 0, .int .u64 0, .int .u64 0, .int .u64 0, .int .u64 0, .int .u64 0, .int .u64 0, .int .u64 0, .int .u64 0, .int .u64 0, .int .u64 0, .int .u64 0, .int .u64 0, .int .u64 0, .slice none 0 0, .int .i64 0, .int .u64 0, .int .u64 0, .int .u64 0, .int .u64 0, .int .u64 0, .int .u64 0, .int .u64 0, .int .u64 0, .int .u64 0, .int .u64 0, .int .u64 0, .int .u64 0, .int .u64 0, .int .u64 0, .int .u64 0, .int .u64 0, .int .i64 0, .int .i64 0, .slice none 0 0, .slice none 0 0, .bool false, .int .u64 0, .int .i64 0] 87) = W1 := ⟨_, rfl⟩
 have HB : Hid (Below w.heap.size w W1) := by show Below _ _ _; rw [← hW1]; exact (((Below.refl _ _).alloc (Nat.le_refl _) _).alloc (by simp) _).alloc (by simp; omega) _
 have HK : Hid (BkC W1 w.heap.size c) := by show BkC _ _ _; rw [← hW1, ← hM]; exact ⟨((Bk.new w _ _).alloc _).alloc _, hsz⟩
 have HAg : Hid (Bk W1 (w.heap.size + 1) 37 CA) := by show Bk _ _ _ _; rw [← hW1]; exact (rf_new1 _ (by simp) _ _).alloc _
 have HZ : Hid (Bk W1 (w.heap.size + 1 + 1) 87 zero41) := by show Bk _ _ _ _; rw [← hW1]; exact rf_new1 _ (by simp) _ _
 have HSz : Hid (W1.heap.size = w.heap.size + 1 + 1 + 1) := by show _ = _; rw [← hW1]; simp
 have HW1 := Lib.hid hW1
 have HCA := Lib.hid hCA
 have k34 : W1.cell? ⟨w.heap.size, 34, none⟩ = some (.int .i64 st) := HK.out.steps.trans (by rw [hcst])
 clear hv0 hI hpc0 hu0 hpu hs hSl hsz hW1 hYY hYr uY him harg hpl hst1 hpc hcpc hcst hli hn h4 hCA hw0 hmw
 go_enter Try.func42, Try.ntmps42
 go_upto_region 1 with fail
 rw [HW1.out]
 clear HW1
 by_cases hfs : fuel ≤ st
 ·have gf : decide (fuel ≤ st) = true := decide_eq_true hfs
  have HE : Hid (step17 args fuel maxw ⟨op, (a : Int), ib, ic, imm⟩ r = { r with code := 41 }) := step_fuel (by rw [HST.out]; exact hfs)
  go_upto_region 2 with fail
  have HF := Lib.hid (hv.out.setE 41)
  have HOne := Lib.hid HF.out.ones
  have c40 := HK.out.err
  have f40 : W1.frozen? ⟨w.heap.size, 40, none⟩ = false := HK.out.bk.frozen 40
  have HK43 := Lib.hid (HK.out.setE 41)
  have HZ43 : Hid (Bk (W1.setCell ⟨w.heap.size, 40, none⟩ (.int .i64 41)) (w.heap.size + 1 + 1) 87 zero41) := HZ.out.set_ne (by omega) _ _
  have HB43 : Hid (Below w.heap.size w (W1.setCell ⟨w.heap.size, 40, none⟩ (.int .i64 41))) := HB.out.setCell (Nat.le_refl _) _
  go_wp2_with (first
   | (refine wpList_load_row (by rfl) 87 (.tmp 5) (by rfl) w.heap.size (by rfl) 87 ({ c with e := 41 } : RR).cells.toArray (0, 0) _ HK43.out.bk Try.underlying87 (by rfl) (info_run17 HK43.out.sz) ?_)
   | (refine wpList_store_row (by rfl) 87 (.tmp 10) (.tmp 17) (by rfl) (w.heap.size + 1 + 1) ({ c with e := 41 } : RR).cells.toArray (by rfl) (by rfl) 87 zero41 HZ43.out (info_run17 HK43.out.sz) (zero41_size HK43.out.sz) HOne.out ?_))
  refine bodyPost_ret (res_run 10 rfl _ _ (w.heap.size + 1 + 1) { c with e := 41 } (by rfl) ⟨HZ43.out.setRow _, HK43.out.sz⟩) rfl ?_
  have hb9 := lbelow_setRow HB43.out (show w.heap.size ≤ w.heap.size + 1 + 1 by omega) ({ c with e := 41 } : RR).cells.toArray
  rw [HE.out]
  exact ⟨_, rfl, (HF.out.below hb9).more hb9.size, (HSS.out.keep rfl rfl rfl), hb9⟩
 have gf : decide (fuel ≤ st) = false := decide_eq_false hfs
 have HFS : Hid (¬ fuel ≤ st) := hfs
 have k17 : W1.cell? ⟨w.heap.size, 17, none⟩ = some (.int .i64 pc) := HK.out.pc.trans (by rw [HCP.out])
 obtain ⟨cb, co, i', rfl, hcb, hl', hcell⟩ := HRI.out.insAt hpn
 rw [HLI.out] at hl'
 injection hl' with hl'
 subst hl'
 have z0 : W1.cell? ⟨cb, co + pc * 5, none⟩ = some (.int .i64 op) := (HB.out.cell (p := ⟨cb, co + pc * 5, none⟩) hcb).trans hcell.1
 have z1 : W1.cell? ⟨cb, co + pc * 5 + 1, none⟩ = some (.int .i64 a) := (HB.out.cell (p := ⟨cb, co + pc * 5 + 1, none⟩) hcb).trans hcell.2.1
 have z2 : W1.cell? ⟨cb, co + pc * 5 + 2, none⟩ = some (.int .i64 ib) := (HB.out.cell (p := ⟨cb, co + pc * 5 + 2, none⟩) hcb).trans hcell.2.2.1
 have z3 : W1.cell? ⟨cb, co + pc * 5 + 3, none⟩ = some (.int .i64 ic) := (HB.out.cell (p := ⟨cb, co + pc * 5 + 3, none⟩) hcb).trans hcell.2.2.2.1
 have z4 : W1.cell? ⟨cb, co + pc * 5 + 4, none⟩ = some (.int .u64 imm) := (HB.out.cell (p := ⟨cb, co + pc * 5 + 4, none⟩) hcb).trans hcell.2.2.2.2
 clear hcell
 go_upto_region 5 with fail
 obtain ⟨W2, hW2⟩ : ∃ W2, W1.alloc (.cells #[.int .i64 op, .int .i64 a, .int .i64 ib, .int .i64 ic, .int .u64 imm] 62) = W2 := ⟨_, rfl⟩
 have HK' : Hid (BkC W2 w.heap.size c) := by show BkC _ _ _; rw [← hW2]; exact HK.out.alloc _
 have HB' : Hid (Below w.heap.size w W2) := by show Below _ _ _; rw [← hW2]; exact HB.out.alloc HB.out.size _
 have HZ' : Hid (Bk W2 (w.heap.size + 1 + 1) 87 zero41) := by show Bk _ _ _ _; rw [← hW2]; exact HZ.out.alloc _
 have HI' : Hid (Bk W2 (w.heap.size + 1 + 1 + 1) 62 #[.int .i64 op, .int .i64 a, .int .i64 ib, .int .i64 ic, .int .u64 imm]) := by show Bk _ _ _ _; rw [← hW2]; exact rf_new1 _ HSz.out _ _
 have HAg' : Hid (Bk W2 (w.heap.size + 1) 37 CA) := by show Bk _ _ _ _; rw [← hW2]; exact HAg.out.alloc _
 try rw [hW2]
 rw [HSz.out]
 clear hW2 k34 k17 z0 z1 z2 z3 z4 HK HB HZ HAg HSz
 have HK := HK'
 have HB := HB'
 have HZ := HZ'
 have HI := HI'
 have HAg := HAg'
 clear HK' HB' HZ' HI' HAg'
 have k34 : W2.cell? ⟨w.heap.size, 34, none⟩ = some (.int .i64 st) := HK.out.steps.trans (by rw [HCS.out])
 have f34 := HK.out.bk.frozen 34
 obtain ⟨W3, hW3⟩ : ∃ W3, W2.setCell ⟨w.heap.size, 34, none⟩ (.int .i64 (st + 1)) = W3 := ⟨_, rfl⟩
 have HK' := Lib.hid (show BkC W3 w.heap.size _ by rw [← hW3]; exact HK.out.setSteps (st + 1))
 have HB' : Hid (Below w.heap.size w W3) := by show Below _ _ _; rw [← hW3]; exact HB.out.setCell (Nat.le_refl _) _
 have HZ' : Hid (Bk W3 (w.heap.size + 1 + 1) 87 zero41) := by show Bk _ _ _ _; rw [← hW3]; exact HZ.out.set_ne (by omega) _ _
 have HI' : Hid (Bk W3 (w.heap.size + 1 + 1 + 1) 62 #[.int .i64 op, .int .i64 a, .int .i64 ib, .int .i64 ic, .int .u64 imm]) := by show Bk _ _ _ _; rw [← hW3]; exact HI.out.set_ne (by omega) _ _
 have HAg' : Hid (Bk W3 (w.heap.size + 1) 37 CA) := by show Bk _ _ _ _; rw [← hW3]; exact HAg.out.set_ne (by omega) _ _
 go_upto_region 6 with fail
 try rw [hW3]
 clear hW3 k34 f34
 clear HK HB HZ HI HAg
 have HK := HK'
 have HB := HB'
 have HZ := HZ'
 have HI := HI'
 have HAg := HAg'
 clear HK' HB' HZ' HI' HAg' 
 have k17 : W3.cell? ⟨w.heap.size, 17, none⟩ = some (.int .i64 pc) := HK.out.pc.trans (by show some (Value.int .i64 c.pc) = _; rw [HCP.out])
 have f17 := HK.out.bk.frozen 17
 obtain ⟨W4, hW4⟩ : ∃ W4, W3.setCell ⟨w.heap.size, 17, none⟩ (.int .i64 (pc + 1)) = W4 := ⟨_, rfl⟩
 have HK' := Lib.hid (show BkC W4 w.heap.size _ by rw [← hW4]; exact HK.out.setPc (pc + 1))
 have HB' : Hid (Below w.heap.size w W4) := by show Below _ _ _; rw [← hW4]; exact HB.out.setCell (Nat.le_refl _) _
 have HZ' : Hid (Bk W4 (w.heap.size + 1 + 1) 87 zero41) := by show Bk _ _ _ _; rw [← hW4]; exact HZ.out.set_ne (by omega) _ _
 have HI' : Hid (Bk W4 (w.heap.size + 1 + 1 + 1) 62 #[.int .i64 op, .int .i64 a, .int .i64 ib, .int .i64 ic, .int .u64 imm]) := by show Bk _ _ _ _; rw [← hW4]; exact HI.out.set_ne (by omega) _ _
 have HAg' : Hid (Bk W4 (w.heap.size + 1) 37 CA) := by show Bk _ _ _ _; rw [← hW4]; exact HAg.out.set_ne (by omega) _ _
 go_upto_region 7 with fail
 try rw [hW4]
 clear hW4 k17 f17
 clear HK HB HZ HI HAg
 have HK := HK'
 have HB := HB'
 have HZ := HZ'
 have HI := HI'
 have HAg := HAg'
 clear HK' HB' HZ' HI' HAg' 
 have j0 := (HI.out.cell 0).trans rfl
 have j1 := (HI.out.cell 1).trans rfl
 have j4 := (HI.out.cell 4).trans rfl
 have kY : W4.cell? ⟨w.heap.size, 18 + a, none⟩ = some (.int .u64 Y) := (HK.out.reg ha16).trans (by show some (Value.int .u64 (c.regs.getD a 0)) = _; rw [HYY.out])
 have g17 : (op == 17) = false := beq_eq_false_iff_ne.2 (by omega)
 have g18 : (op == 18) = false := beq_eq_false_iff_ne.2 (by omega)
 have g19 : (op == 19) = false := beq_eq_false_iff_ne.2 (by omega)
 have g20 : (op == 20) = false := beq_eq_false_iff_ne.2 (by omega)
 have g21 : (op == 21) = false := beq_eq_false_iff_ne.2 (by omega)
 have g9 : decide (op < 9) = false := decide_eq_false (by omega)
 have g9b : decide (9 ≤ op) = true := decide_eq_true (by omega)
 have g16 : decide (op ≤ 16) = true := decide_eq_true (by omega)
 have j2 := (HI.out.cell 2).trans rfl
 have j3 := (HI.out.cell 3).trans rfl
 go_upto_region 18 with fail
 have hvA : RVIn W4 W4.heap.size { { c with steps := st + 1 } with pc := (pc : Int) + 1 } { { r with steps := st + 1 } with pc := (pc : Int) + 1 } := (((hv.out.setSteps (st + 1)).setPc ((pc : Int) + 1)).below HB.out).more HB.out.size
 have hsA : SIn S { { c with steps := st + 1 } with pc := (pc : Int) + 1 } := HSS.out.of rfl rfl rfl
 obtain ⟨c4, hc4⟩ : ∃ c4 : RR, ({ { c with steps := st + 1 } with pc := (pc : Int) + 1 } : RR) = c4 := ⟨_, rfl⟩
 obtain ⟨r4, hr4⟩ : ∃ r4 : MRun, ({ { r with steps := st + 1 } with pc := (pc : Int) + 1 } : MRun) = r4 := ⟨_, rfl⟩
 rw [hc4] at HK hvA hsA
 rw [hr4] at hvA
 have hrt := rtouch_any c4 r4 ⟨op, (a : Int), ib, ic, imm⟩ maxw W4 hvA (by rw [← hr4]; exact HU.out) hop ⟨by omega, by omega⟩ HBC.out.1 HBC.out.2 HIM.out (by rw [← hr4]; exact HW0.out) HMW.out (by rw [← hr4]; exact HPU.out) (by rw [← hr4]; exact HN.out) S hsA (fun b hb => Nat.lt_of_lt_of_le (HSL.out b hb) HB.out.size)
 have HRT := Lib.hid hrt
 have HR4 := Lib.hid hr4
 clear hrt hr4 hc4 hvA hsA
 go_wp2_with (refine wpList_load_row (by rfl) 87 (.tmp 5) (by rfl) w.heap.size (by rfl) 87 c4.cells.toArray (0, 0) _ HK.out.bk Try.underlying87 (by rfl) (info_run17 HK.out.sz) ?_)
 refine HRT.out.mono ?_
 rintro e w5 ⟨c5, rfl, hv5, hs5, hb5⟩
 have HF := Lib.hid hv5
 have HOne := Lib.hid hv5.ones
 have HS5 := Lib.hid hs5
 have HWZ := Lib.hid HZ.out.lt
 have HWS := Lib.hid HB.out.size
 have HB' := Lib.hid (HB.out.trans (hb5.mono HB.out.size))
 have HZ' := Lib.hid (HZ.out.below hb5 HZ.out.lt)
 clear hv5 hs5 hb5 j0 j1 j2 j3 j4 kY HK HB HZ HI HAg HRT
 have HB := HB'
 have HZ := HZ'
 clear HB' HZ'
 go_wp2_with (refine wpList_store_row (by rfl) 87 (.tmp 10) (.tmp 104) (by rfl) (w.heap.size + 1 + 1) c5.cells.toArray (by rfl) (by rfl) 87 zero41 HZ.out (info_run17 HF.out.sz) (zero41_size HF.out.sz) HOne.out ?_)
 refine bodyPost_ret (res_run 10 rfl _ _ (w.heap.size + 1 + 1) c5 (by rfl) ⟨HZ.out.setRow _, HF.out.sz⟩) rfl ?_
 have HE : step17 args fuel maxw ⟨op, (a : Int), ib, ic, imm⟩ r = touch17 maxw ⟨op, (a : Int), ib, ic, imm⟩ r4 := by rw [step_touch (by show ¬ fuel ≤ r.steps; rw [HST.out]; have := HFS.out; omega) hop, HST.out, HPC.out, ← HR4.out]
 rw [HE]
 have hb9 := lbelow_setRow HB.out (show w.heap.size ≤ w.heap.size + 1 + 1 by omega) c5.cells.toArray
 exact ⟨_, rfl, HF.out.keepS HS5.out (fun p hp => by
  have hne : p.block ≠ w.heap.size + 1 + 1 := by
   have h1 := HWZ.out
   rcases hp with hp | hp
   ·have := HSL.out _ hp; omega
   ·omega
  exact World.cell?_of_block (setRow_other w5 _ _ _ hne)) (by simp), HS5.out.mono (fun b hb => hb.imp id (Nat.le_trans HWS.out)), hb9⟩
end Go.Proofs.Ytjggmimaolddkaa
