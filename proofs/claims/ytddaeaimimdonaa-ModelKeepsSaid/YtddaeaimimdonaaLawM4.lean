/-
  Chapter 6: the walk of ModelKeeps. Printed by gen/lawm4.py.
-/
import Derived.Test.YtddaeaimimdonaaLawM2
import Derived.Test.YtddaeaimimdonaaLawM4P
import Derived.Deep.DeepCutAuto
namespace Go.Proofs.Ytddaeaimimdonaa
open Go.RowKit Go.Maps
set_option linter.unusedVariables false

set_option maxRecDepth 100000 in
set_option maxHeartbeats 16000000 in
theorem keeps_walk (l : List Job) (A : Option Addr) (n c : Nat) (j : Job) (w : World) (hl : RdJ w w.heap.size A n l) (hj : j.In w w.heap.size) :
    Calls Try.prog 6 #[.slice A n c, .agg j.cells.toArray] w fun e w' => e = .returned (.bool true) ∧ Below w.heap.size w w' := by
  obtain ⟨a0, a1, a2, a3, ha⟩ := four hj.args4
  have hc : j.cells.toArray = #[.slice j.A j.n j.c, .int .u64 a0, .int .u64 a1, .int .u64 a2, .int .u64 a3, .int .i64 j.fuel, .int .i64 j.maxw, .slice j.pA j.pn j.pc] := by
    unfold Job.cells; rw [ha]; rfl
  rw [hc]
  obtain ⟨jA, jn, jc, code, args, fu, mw, pA, pn, pc, pick⟩ := j
  obtain rfl : pick.length = pn := hj.pick.u64Len
  obtain rfl : args = [a0, a1, a2, a3] := ha
  have HL := Lib.hid hl
  have HJ := Lib.hid hj
  have HC := Lib.hid hc
  simp only at hc ⊢
  clear hl hj hc
  go_enter Try.func6, Try.ntmps6
  go_wp2_with fail
  obtain ⟨W1, hW1⟩ : ∃ W1, w.alloc (.cells #[.slice jA jn jc, .int .u64 a0, .int .u64 a1, .int .u64 a2, .int .u64 a3, .int .i64 fu, .int .i64 mw, .slice pA pick.length pc] 28) = W1 := ⟨_, rfl⟩
  have hb1 : Below w.heap.size w W1 := by rw [← hW1]; exact (Below.refl _ _).alloc (Nat.le_refl _) _
  have hx1 : Bk W1 w.heap.size 28 (Job.cells ⟨jA, jn, jc, code, [a0, a1, a2, a3], fu, mw, pA, pick.length, pc, pick⟩).toArray := by
    rw [← hW1, HC.out]; exact Bk.new _ _ _
  rw [hW1]
  refine (alive6_any _).mono ?_
  rintro e W2 ⟨rfl, hb2⟩
  have HB2 := Lib.hid (hb1.trans (hb2.mono hb1.size))
  have HX2 := Lib.hid (hx1.below hb2 hx1.lt)
  clear hW1 hb1 hx1 hb2
  go_wp2_with fail
  refine (few_any l A n c _ ((HL.out.below HB2.out).more HB2.out.size)).mono ?_
  rintro e W3 ⟨rfl, hb3⟩
  have HB3 := Lib.hid (HB2.out.trans (hb3.mono HB2.out.size))
  have HX3 := Lib.hid (HX2.out.below hb3 HX2.out.lt)
  clear hb3
  cases hfew : fewP l
  · go_wp2
    go_ret
    exact ⟨rfl, HB3.out⟩
  have HFw := Lib.hid hfew
  clear hfew
  obtain ⟨k0, k1, k2, k3, k4, k5, k6, k7⟩ := bk_job HX3.out rfl
  simp only at k0 k5 k6 k7
  go_wp2_with fail
  obtain ⟨W4, hW4⟩ : ∃ W4, W3.alloc (.cells #[.slice jA jn jc, .int .u64 a0, .int .u64 a1, .int .u64 a2, .int .u64 a3, .int .i64 fu, .int .i64 mw, .slice pA pick.length pc] 28) = W4 := ⟨_, rfl⟩
  have hrj : RdJ W4 W4.heap.size (some ⟨W3.heap.size, 0, none⟩) 1 [⟨jA, jn, jc, code, [a0, a1, a2, a3], fu, mw, pA, pick.length, pc, pick⟩] := by
    rw [← hW4]
    have h := one_job (HJ.out.below HB3.out) (Nat.le_of_lt HX3.out.lt)
    rw [HC.out] at h
    exact h.more (by simp)
  have hb4 : Below W3.heap.size W3 W4 := by rw [← hW4]; exact (Below.refl _ _).alloc (Nat.le_refl _) _
  rw [hW4]
  refine (few_any _ _ 1 1 _ hrj).mono ?_
  rintro e W5 ⟨rfl, hb5⟩
  have h35 := hb4.trans (hb5.mono hb4.size)
  have HB5 := Lib.hid (HB3.out.trans (h35.mono HB3.out.size))
  have HX5 := Lib.hid (HX3.out.below h35 HX3.out.lt)
  clear hW4 hrj hb4 hb5 h35 k0 k1 k2 k3 k4 k5 k6 k7
  cases hfew : fewP [⟨jA, jn, jc, code, [a0, a1, a2, a3], fu, mw, pA, pick.length, pc, pick⟩]
  · go_wp2
    go_ret
    exact ⟨rfl, HB5.out⟩
  have hfw : jn ≤ 40 ∧ fu ≤ 400 ∧ pick.length ≤ 20 := by
    unfold fewP at hfew
    simp [Job.few] at hfew
    omega
  obtain ⟨f1, f2, f3⟩ := hfw
  clear hfew
  obtain ⟨k0, k1, k2, k3, k4, k5, k6, k7⟩ := bk_job HX5.out rfl
  simp only at k0 k5 k6 k7
  have HZ5 := Lib.hid HX5.out.lt
  go_wp2_with fail
  refine (mnew_any _).mono ?_
  rintro e W7 ⟨sb, mb, rfl, hst, hb7⟩
  have HB7 := Lib.hid (HB5.out.trans (hb7.mono HB5.out.size))
  have HX7 := Lib.hid (HX5.out.below hb7 HX5.out.lt)
  have HS7 : Hid (StIn W7 w.heap.size 0 sb mb emptyS) := ⟨hst.st, hst.map, hst.roots, Nat.le_trans HB5.out.size hst.bs, Nat.le_trans HB5.out.size hst.bm⟩
  have hnsb : w.heap.size < sb := Nat.lt_of_lt_of_le HX5.out.lt hst.bs
  have HNsb := Lib.hid hnsb
  have h63 := HL.out.rd.le
  have hn8 : n ≤ 8 := by
    have h := HFw.out
    unfold fewP at h
    simp at h
    have := HL.out.len
    omega
  clear hst hb7 hnsb
  unfold maxLen at h63
  go_wp2
  go_loopw [26, 7] (fun i _u wr => ∃ (k nn mb2 : Nat) (s : MSt), (k ≤ n ∧ i = .int .i64 k) ∧ nn ≤ 420 * k ∧ Hid (StIn wr w.heap.size nn sb mb2 s) ∧ Hid (SOk s) ∧ Hid (Below w.heap.size w wr) ∧ Hid (Bk wr w.heap.size 28 (Job.cells ⟨jA, jn, jc, code, [a0, a1, a2, a3], fu, mw, pA, pick.length, pc, pick⟩).toArray)) (fun i _ _ => n - (intOf i).toNat)
  case atStart => exact ⟨0, 0, mb, emptyS, ⟨by omega, rfl⟩, by omega, HS7, emptyS_ok, HB7, HX7⟩
  case round =>
    obtain ⟨k, nn, mb2, s, ⟨hk, rfl⟩, hnn, HS, HOK, HB, HX⟩ := hrel
    by_cases hlt : k < n
    · obtain ⟨b, o, jj, b0, b1, b2, b3, rfl, hbB, hjj, hin, hb4, c0, c1, c2, c3, c4, c5, c6, c7⟩ := (HL.out.below HB.out).at_ hlt
      have hfj : jj.few = true := by
        have h := HFw.out
        unfold fewP at h
        rw [Bool.and_eq_true] at h
        exact List.all_eq_true.1 h.1 jj (List.mem_of_getElem? hjj)
      obtain ⟨kA, kn, kc, kcode, kargs, kfu, kmw, qA, qn, qc, qpick⟩ := jj
      obtain rfl : qpick.length = qn := hin.pick.u64Len
      obtain rfl : kargs = [b0, b1, b2, b3] := hb4
      simp only at c0 c5 c6 c7
      have HIn := Lib.hid hin
      have hff : kn ≤ 40 ∧ kfu ≤ 400 ∧ qpick.length ≤ 20 := by
        unfold Job.few at hfj
        simp at hfj
        omega
      obtain ⟨g1, g2, g3⟩ := hff
      clear hjj hin hfj
      have hxs := HX.out.lt
      go_wp2_with fail
      obtain ⟨wx, hwx⟩ : ∃ wx, wr.alloc (.cells #[.slice kA kn kc, .int .u64 b0, .int .u64 b1, .int .u64 b2, .int .u64 b3, .int .i64 kfu, .int .i64 kmw, .slice qA qpick.length qc] 28) = wx := ⟨_, rfl⟩
      have hbx : Below wr.heap.size wr wx := by rw [← hwx]; exact (Below.refl _ _).alloc (Nat.le_refl _) _
      rw [hwx]
      have HBx := Lib.hid (HB.out.trans (hbx.mono HB.out.size))
      have hjx := HIn.out.below (hbx.mono HB.out.size)
      refine (run_any w.heap.size nn sb mb2 s kcode kA kn kc [b0, b1, b2, b3] kfu kmw qpick qA qc _ (HS.out.more (bk_grown_below hbx)) HOK.out (hjx.code.more HBx.out.size) hjx.ok rfl hjx.argsOk ⟨hjx.fuel.1, by omega⟩ hjx.maxw (hjx.pick.more HBx.out.size) hjx.pickOk hjx.pcap (by omega) (by omega)).mono ?_
      rintro e W9 ⟨⟨nv, mb9, rfl, hst9, _, _, _⟩, hok9, hg9⟩
      have HS9 := Lib.hid hst9
      have HOK9 := Lib.hid hok9
      have HB9 := Lib.hid (HBx.out.grown hg9 HBx.out.size (fun k hk => by cases hk; exact HS.out.bs))
      have HX9 := Lib.hid ((HX.out.below hbx HX.out.lt).grown hg9 (by simpa using Nat.ne_of_gt HNsb.out))
      clear hst9 hok9 hg9 hjx hbx hwx
      go_wp2
      go_roundw
      case rel => exact ⟨k + 1, _, mb9, _, ⟨by omega, by go_num⟩, by omega, HS9.out, HOK9.out, HB9.out, HX9.out⟩
      case measure => simp [intOf]; omega
    · obtain rfl : n = k := by omega
      have HSz := Lib.hid HS.out.st.lt
      go_wp2_with fail
      have h63c := hk
      refine (mclone_any w.heap.size nn sb mb2 s _ HS.out).mono ?_
      rintro e wa ⟨sw, mbw, rfl, hsw, hba⟩
      have HS := Lib.hid (HS.out.more (bk_grown_below hba))
      have HX := Lib.hid (HX.out.below hba HX.out.lt)
      have HBr := HB
      have HB := Lib.hid (HB.out.trans (hba.mono HB.out.size))
      have HW := Lib.hid hsw
      have HGa := Lib.hid (bk_grown_below hba)
      have h1 : sb < sw := Nat.lt_of_lt_of_le HSz.out hsw.bs
      clear hsw hba
      go_wp2_with fail
      refine (mclone_any wr.heap.size nn sw mbw s _ HW.out).mono ?_
      rintro e wb ⟨sa, mba, rfl, hsa, hbb⟩
      have h2 : sw < sa := Nat.lt_of_lt_of_le HW.out.st.lt hsa.bs
      have HA := Lib.hid hsa
      have HS := Lib.hid (HS.out.more (bk_grown_below hbb))
      have HW := Lib.hid (HW.out.more (bk_grown_below hbb))
      have HX := Lib.hid (HX.out.below hbb HX.out.lt)
      have HB := Lib.hid (HB.out.trans (hbb.mono HB.out.size))
      clear hsa hbb
      obtain ⟨k0, k1, k2, k3, k4, k5, k6, k7⟩ := bk_job HX.out rfl
      simp only at k0 k5 k6 k7
      have hfu := HJ.out.fuel.1
      simp only at hfu
      go_wp2_with fail
      have hj := HJ.out.below HB.out
      refine (run_any w.heap.size nn sb mb2 s code jA jn jc [a0, a1, a2, a3] fu mw pick pA pc _ HS.out HOK.out (hj.code.more HB.out.size) hj.ok rfl hj.argsOk ⟨hfu, by omega⟩ hj.maxw (hj.pick.more HB.out.size) hj.pickOk hj.pcap (by omega) (by omega)).mono ?_
      rintro e wd ⟨⟨nv, mbd, rfl, hsd, hown, hmb, hcode⟩, hok, hgr⟩
      obtain ⟨nA, nc, rfl, _⟩ := Rd.of_own hown
      have hk1 : afterP s (runP s code [a0, a1, a2, a3] fu mw pick) = afterP s (runP s code [a0, a1, a2, a3] fu mw pick) := rfl
      obtain ⟨R, hR⟩ : ∃ R, runP s code [a0, a1, a2, a3] fu mw pick = R := ⟨_, rfl⟩
      have hkeep : R.code ≠ 0 ∨ readsP code = true → afterP s R = s := by
        rintro (h | h)
        · unfold afterP; rw [if_neg h]
        · rw [← hR]; exact reads_keeps h _ _ _ _ _
      rw [hR] at hsd hown hok ⊢
      have HKeep := Lib.hid hkeep
      have HR := Lib.hid hR
      have HS1 := Lib.hid hsd
      have HOK1 := Lib.hid hok
      have HWd := Lib.hid (HW.out.but hgr (Nat.ne_of_lt h1) (HW.out.map.ne_bk HS.out.st))
      have HAd := Lib.hid (HA.out.but hgr (Nat.ne_of_lt (Nat.lt_trans h1 h2)) (HA.out.map.ne_bk HS.out.st))
      have HX := Lib.hid (HX.out.grown hgr (by simpa using Nat.ne_of_gt HNsb.out))
      have HB := Lib.hid (HB.out.grown hgr HB.out.size (fun k hk => by cases hk; exact HS.out.bs))
      clear hkeep hR hsd hown hok hgr hj hmb hcode hk1 k0 k1 k2 k3 k4 k5 k6 k7
      simp only [doneV]
      go_upto_region 14 with fail
      obtain ⟨we, hwe⟩ : ∃ we, wd.alloc (.cells #[.int .i64 R.code, .int .u64 R.val, .int .i64 R.steps, .int .i64 R.writes, .slice nA R.news.length nc] 38) = we := ⟨_, rfl⟩
      have hge : wd.grownBy we none := by rw [← hwe]; exact World.grownBy_alloc _ _ _
      have HD := Lib.hid (show Bk we wd.heap.size 38 #[.int .i64 R.code, .int .u64 R.val, .int .i64 R.steps, .int .i64 R.writes, .slice nA R.news.length nc] by rw [← hwe]; exact Bk.new _ _ _)
      rw [hwe]
      have HS1 := Lib.hid (HS1.out.more hge)
      have HWd := Lib.hid (HWd.out.more hge)
      have HAd := Lib.hid (HAd.out.more hge)
      have HX := Lib.hid (HX.out.grown hge (by simp))
      have HB := Lib.hid (HB.out.grown hge HB.out.size (fun k e => by cases e))
      clear hge hwe
      obtain ⟨k0, k1, k2, k3, k4, k5, k6, k7⟩ := bk_job HX.out rfl
      obtain ⟨x0, x1, x2, x3, x4, _, _, _, _, _⟩ := bk_done HD.out
      simp only at k0 k5 k6 k7
      go_cut [79] (fun v wx => v = .bool false ∧ Hid (we.grownBy wx none))
      case first =>
        go_wp2_with fail
        refine (stsame_any _ _ _ _ s _ _ _ _ s _ HAd.out HWd.out).mono ?_
        rintro e wf ⟨r1, rfl, hr1, hgf⟩
        obtain rfl : r1 = true := hr1.2 (same_refl s)
        have HGf := Lib.hid hgf
        have HXf := Lib.hid (HX.out.grown hgf (by simp))
        have HDf := Lib.hid (HD.out.grown hgf (by simp))
        have HBf := Lib.hid (HB.out.grown hgf HB.out.size (fun k e => by cases e))
        clear hr1 hgf k0 k1 k2 k3 k4 k5 k6 k7 x0 x1 x2 x3 x4
        obtain ⟨k0, k1, k2, k3, k4, k5, k6, k7⟩ := bk_job HXf.out rfl
        obtain ⟨x0, x1, x2, x3, x4, _, _, _, _, _⟩ := bk_done HDf.out
        simp only at k0 k5 k6 k7
        by_cases h0 : R.code = 0
        · have e0 : (R.code != 0) = false := by simpa using h0
          go_wp2_with fail
          have hj := HJ.out.below HBf.out
          refine (reads_any code jA jn jc _ (hj.code.more HBf.out.size) hj.ok).mono ?_
          rintro e wg ⟨rfl, hbg⟩
          have HGg := Lib.hid (HGf.out.trans (bk_grown_below hbg))
          clear hbg hj
          cases hrd : readsP code
          · go_wp2_with fail
            go_meet
            exact ⟨rfl, HGg.out⟩
          · have hs := HKeep.out (.inr hrd)
            go_wp2_with fail
            refine (stsame_any _ _ _ _ s _ _ _ _ s _ (by have h := HS1.out; rw [hs] at h; exact h.more HGg.out) (HWd.out.more HGg.out)).mono ?_
            rintro e wh ⟨r2, rfl, hr2, hgh⟩
            obtain rfl : r2 = true := hr2.2 (same_refl s)
            have HGh := Lib.hid (HGg.out.trans hgh)
            clear hr2 hgh hs
            go_wp2_with fail
            go_meet
            exact ⟨rfl, HGh.out⟩
        · have e0 : (R.code != 0) = true := by simpa using h0
          have hs := HKeep.out (.inl h0)
          go_wp2_with fail
          refine (stsame_any _ _ _ _ s _ _ _ _ s _ (by have h := HS1.out; rw [hs] at h; exact h.more HGf.out) (HWd.out.more HGf.out)).mono ?_
          rintro e wh ⟨r2, rfl, hr2, hgh⟩
          obtain rfl : r2 = true := hr2.2 (same_refl s)
          have HGh := Lib.hid (HGf.out.trans hgh)
          clear hr2 hgh hs
          go_wp2_with fail
          go_meet
          exact ⟨rfl, HGh.out⟩
      case rest =>
        obtain ⟨rfl, hgf⟩ := hcut
        clear k0 k1 k2 k3 k4 k5 k6 k7 x0 x1 x2 x3 x4
        have HS1 := Lib.hid (HS1.out.more hgf.out)
        have HWd := Lib.hid (HWd.out.more hgf.out)
        have HAd := Lib.hid (HAd.out.more hgf.out)
        have HD := Lib.hid (HD.out.grown hgf.out (by simp))
        have HX := Lib.hid (HX.out.grown hgf.out (by simp))
        have HB := Lib.hid (HB.out.grown hgf.out HB.out.size (fun k e => by cases e))
        clear hgf
        obtain ⟨k0, k1, k2, k3, k4, k5, k6, k7⟩ := bk_job HX.out rfl
        simp only at k0 k5 k6 k7
        go_wp2_with fail
        have hj := HJ.out.below HB.out
        refine (run_any _ nn sw mbw s code jA jn jc [a0, a1, a2, a3] fu mw pick pA pc _ HWd.out HOK.out (hj.code.more HB.out.size) hj.ok rfl hj.argsOk ⟨hfu, by omega⟩ hj.maxw (hj.pick.more HB.out.size) hj.pickOk hj.pcap (by omega) (by omega)).mono ?_
        rintro e wg ⟨⟨nv2, mbe, rfl, hse, hown, hmb, hcode⟩, hok, hgr⟩
        obtain ⟨nA2, nc2, rfl, _⟩ := Rd.of_own hown
        rw [HR.out] at hse hown ⊢
        have HW2 := Lib.hid hse
        have HS2 := Lib.hid (HS1.out.but hgr (Nat.ne_of_gt h1) (HS1.out.map.ne_bk HWd.out.st))
        have HA2 := Lib.hid (HAd.out.but hgr (Nat.ne_of_lt h2) (HAd.out.map.ne_bk HWd.out.st))
        have HD := Lib.hid (HD.out.grown hgr (fun e => BkS.ne_done HWd.out.st HD.out (Option.some.inj e)))
        have HB := Lib.hid (HB.out.grown hgr HB.out.size (fun k hk => by cases hk; exact Nat.le_trans (Nat.le_of_lt HNsb.out) (Nat.le_of_lt h1)))
        clear hse hown hmb hcode hok hgr hj k0 k1 k2 k3 k4 k5 k6 k7
        simp only [doneV]
        go_upto_region 17 with fail
        obtain ⟨wh, hwh⟩ : ∃ wh, wg.alloc (.cells #[.int .i64 R.code, .int .u64 R.val, .int .i64 R.steps, .int .i64 R.writes, .slice nA2 R.news.length nc2] 38) = wh := ⟨_, rfl⟩
        have hgh : wg.grownBy wh none := by rw [← hwh]; exact World.grownBy_alloc _ _ _
        have HE := Lib.hid (show Bk wh wg.heap.size 38 #[.int .i64 R.code, .int .u64 R.val, .int .i64 R.steps, .int .i64 R.writes, .slice nA2 R.news.length nc2] by rw [← hwh]; exact Bk.new _ _ _)
        rw [hwh]
        have HW2 := Lib.hid (HW2.out.more hgh)
        have HS2 := Lib.hid (HS2.out.more hgh)
        have HA2 := Lib.hid (HA2.out.more hgh)
        have HD := Lib.hid (HD.out.grown hgh (by simp))
        have HB := Lib.hid (HB.out.grown hgh HB.out.size (fun k e => by cases e))
        clear hgh hwh
        obtain ⟨x0, x1, x2, x3, x4, _, _, _, _, _⟩ := bk_done HD.out
        obtain ⟨y0, y1, y2, y3, y4, _, _, _, _, _⟩ := bk_done HE.out
        go_wp2_with fail
        refine (stsame_any _ _ _ _ _ _ _ _ _ _ _ HW2.out HS2.out).mono ?_
        rintro e wi ⟨r2, rfl, hr2, hgi⟩
        obtain rfl : r2 = true := hr2.2 (same_refl _)
        have HGi := Lib.hid hgi
        clear hr2 hgi x0 x1 x2 x3 x4 y0 y1 y2 y3 y4
        go_wp2_with fail
        refine (stsame_any _ _ _ _ _ _ _ _ _ _ _ (HS2.out.more HGi.out) (HA2.out.more HGi.out)).mono ?_
        rintro e wj ⟨r3, rfl, hr3, hgj⟩
        have HGj := Lib.hid (HGi.out.trans hgj)
        have HR3 := Lib.hid hr3
        clear hr3 hgj
        go_wp2_with fail
        refine (stsame_any _ _ _ _ _ _ _ _ _ _ _ (HA2.out.more HGj.out) (HS2.out.more HGj.out)).mono ?_
        rintro e wk ⟨r4, rfl, hr4, hgk⟩
        have HBk := Lib.hid (HB.out.grown (HGj.out.trans hgk) HB.out.size (fun k e => by cases e))
        obtain rfl : r4 = r3 := by
          rw [Bool.eq_iff_iff]
          exact ⟨fun h => HR3.out.2 (same_symm (hr4.1 h)), fun h => hr4.2 (same_symm (HR3.out.1 h))⟩
        clear hr4 hgk HR3
        cases r4
        all_goals
          go_wp2
          go_ret
          exact ⟨rfl, HBk.out⟩
end Go.Proofs.Ytddaeaimimdonaa
