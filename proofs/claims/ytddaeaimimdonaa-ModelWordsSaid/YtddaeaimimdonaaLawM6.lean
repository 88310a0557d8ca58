/-
  Chapter 6: the walk of ModelWords. Printed by gen/lawm6.py.
-/
import Derived.Test.YtddaeaimimdonaaLawM2S
import Derived.Test.YtddaeaimimdonaaLawM6P
import Derived.Test.YtddaeaimimdonaaLawM4P
import Derived.Test.YtddaeaimimdonaaModS
import Derived.BigQuiet
namespace Go.Proofs.Ytddaeaimimdonaa
open Go.RowKit Go.Maps
set_option linter.unusedVariables false

theorem keys_len {s : MSt} (h : Few64 s) (ss : List Int) (hk : KeysOf s.blocks ss) : ss.length ≤ 65 :=
  nodup_len 65 ss hk.1 fun x hx => by
    have := h x ((hk.2 x).1 hx).2
    omega
/-- What the blocks of these handles come to. -/
def sumH (s1 s : MSt) (l : List Int) : Nat := (l.map fun h => difO (s1.blocks h) (s.blocks h)).sum
theorem sumH_snoc (s1 s : MSt) (l : List Int) (h : Int) : sumH s1 s (l ++ [h]) = sumH s1 s l + difO (s1.blocks h) (s.blocks h) := by simp [sumH]
theorem sumH_le (s1 s : MSt) (ss : List Int) (hf : Few64 s1) (hk : KeysOf s1.blocks ss) : sumH s1 s ss ≤ difB s1.blocks s.blocks := by
  have h := sum_sub (fun h : Nat => difO (s1.blocks (h : Int)) (s.blocks (h : Int))) 65 (ss.map Int.toNat) ?_ ?_
  · have e : (ss.map Int.toNat).map (fun h : Nat => difO (s1.blocks (h : Int)) (s.blocks (h : Int))) = ss.map fun h => difO (s1.blocks h) (s.blocks h) := by
      rw [List.map_map]
      refine List.map_congr_left fun x hx => ?_
      have := hf x ((hk.2 x).1 hx).2
      simp only [Function.comp]
      rw [show ((x.toNat : Nat) : Int) = x by omega]
    rw [e] at h
    exact h
  · refine (List.pairwise_map).2 (hk.1.imp_of_mem fun {a b} ha hb hab => ?_)
    have h1 := hf a ((hk.2 a).1 ha).2
    have h2 := hf b ((hk.2 b).1 hb).2
    intro e
    exact hab (by omega)
  · intro x hx
    obtain ⟨y, hy, rfl⟩ := List.mem_map.1 hx
    have := hf y ((hk.2 y).1 hy).2
    omega
theorem difN_snoc (b a : List Int) (n : Nat) : difN b a (n + 1) = difN b a n + ne1 (b.getD n 0) (a.getD n 0) := rfl
theorem difN_le (b a : List Int) (n : Nat) : difN b a n ≤ n := by
  have := sumF_le (d := fun k => ne1 (b.getD k 0) (a.getD k 0)) (fun k => ne1_le _ _) n
  unfold difN; omega
theorem blk8 {w : World} {B n sb mb : Nat} {s : MSt} {k : Int} (h : StIn w B n sb mb s) (hk : U64 k) : (blockOf s k).length = 8 := by
  unfold blockOf
  cases hb : s.blocks k with
  | none => rfl
  | some ws => exact h.map.words hk hb
theorem bk_word {w : World} {g : Nat} {l : List Int} (h : Bk w g 47 (u64s l).toArray) {k : Nat} (hk : k < l.length) : w.cell? ⟨g, k, none⟩ = some (.int .u64 (l.getD k 0)) := by
  rw [h.cell, List.getElem?_toArray, u64s, List.getElem?_map, List.getElem?_eq_getElem hk, List.getD_eq_getElem?_getD, List.getElem?_eq_getElem hk]; rfl
/-- What there is to be told of a block that a state has, and of the same in another one. -/
theorem dif_blk {s1 s : MSt} {h : Int} (h1 : (s1.blocks h).isSome = true) : difO (s1.blocks h) (s.blocks h) = if (s.blocks h).isSome = true then difN (blockOf s1 h) (blockOf s h) 8 else 0 := by
  unfold blockOf
  cases e1 : s1.blocks h with
  | none => rw [e1] at h1; cases h1
  | some b =>
    cases e2 : s.blocks h with
    | none => rfl
    | some a => rfl
theorem rootAt_in (s : MSt) {q : Nat} (h : q < 16) : rootAt s (q : Int) = s.roots.getD q 0 := by
  unfold rootAt
  rw [if_neg (by omega)]; simp
set_option maxRecDepth 100000 in
set_option maxHeartbeats 16000000 in
theorem words_walk (l : List Job) (A : Option Addr) (n c : Nat) (j : Job) (w : World) (hl : RdJ w w.heap.size A n l) (hj : j.In w w.heap.size) :
    Calls Try.prog 5 #[.slice A n c, .agg j.cells.toArray] w fun e w' => e = .returned (.bool true) ∧ Below w.heap.size w w' := by
  obtain ⟨a0, a1, a2, a3, ha⟩ := four hj.args4
  have hc : j.cells.toArray = #[.slice j.A j.n j.c, .int .u64 a0, .int .u64 a1, .int .u64 a2, .int .u64 a3, .int .i64 j.fuel, .int .i64 j.maxw, .slice j.pA j.pn j.pc] := by
    unfold Job.cells; rw [ha]; rfl
  rw [hc]
  obtain ⟨jA, jn, jc, code, args, fu, mw, pA, pn, pc, pick⟩ := j
  obtain rfl : pick.length = pn := hj.pick.u64Len
  obtain rfl : args = [a0, a1, a2, a3] := ha
  have HL := Lib.hid hl
  have HJ := Lib.hid hj
  have HC := Lib.hid hc
  simp only at hc ⊢
  clear hl hj hc
  go_enter Try.func5, Try.ntmps5
  go_wp2_with fail
  obtain ⟨W1, hW1⟩ : ∃ W1, w.alloc (.cells #[.slice jA jn jc, .int .u64 a0, .int .u64 a1, .int .u64 a2, .int .u64 a3, .int .i64 fu, .int .i64 mw, .slice pA pick.length pc] 28) = W1 := ⟨_, rfl⟩
  have hb1 : Below w.heap.size w W1 := by rw [← hW1]; exact (Below.refl _ _).alloc (Nat.le_refl _) _
  have hx1 : Bk W1 w.heap.size 28 (Job.cells ⟨jA, jn, jc, code, [a0, a1, a2, a3], fu, mw, pA, pick.length, pc, pick⟩).toArray := by
    rw [← hW1, HC.out]; exact Bk.new _ _ _
  rw [hW1]
  refine (alive6_any _).mono ?_
  rintro e W2 ⟨rfl, hb2⟩
  have HB2 := Lib.hid (hb1.trans (hb2.mono hb1.size))
  have HX2 := Lib.hid (hx1.below hb2 hx1.lt)
  clear hW1 hb1 hx1 hb2
  go_wp2_with fail
  refine (few_any l A n c _ ((HL.out.below HB2.out).more HB2.out.size)).mono ?_
  rintro e W3 ⟨rfl, hb3⟩
  have HB3 := Lib.hid (HB2.out.trans (hb3.mono HB2.out.size))
  have HX3 := Lib.hid (HX2.out.below hb3 HX2.out.lt)
  clear hb3
  cases hfew : fewP l
  · go_wp2
    go_ret
    exact ⟨rfl, HB3.out⟩
  have HFw := Lib.hid hfew
  clear hfew
  obtain ⟨k0, k1, k2, k3, k4, k5, k6, k7⟩ := bk_job HX3.out rfl
  simp only at k0 k5 k6 k7
  go_wp2_with fail
  obtain ⟨W4, hW4⟩ : ∃ W4, W3.alloc (.cells #[.slice jA jn jc, .int .u64 a0, .int .u64 a1, .int .u64 a2, .int .u64 a3, .int .i64 fu, .int .i64 mw, .slice pA pick.length pc] 28) = W4 := ⟨_, rfl⟩
  have hrj : RdJ W4 W4.heap.size (some ⟨W3.heap.size, 0, none⟩) 1 [⟨jA, jn, jc, code, [a0, a1, a2, a3], fu, mw, pA, pick.length, pc, pick⟩] := by
    rw [← hW4]
    have h := one_job (HJ.out.below HB3.out) (Nat.le_of_lt HX3.out.lt)
    rw [HC.out] at h
    exact h.more (by simp)
  have hb4 : Below W3.heap.size W3 W4 := by rw [← hW4]; exact (Below.refl _ _).alloc (Nat.le_refl _) _
  rw [hW4]
  refine (few_any _ _ 1 1 _ hrj).mono ?_
  rintro e W5 ⟨rfl, hb5⟩
  have h35 := hb4.trans (hb5.mono hb4.size)
  have HB5 := Lib.hid (HB3.out.trans (h35.mono HB3.out.size))
  have HX5 := Lib.hid (HX3.out.below h35 HX3.out.lt)
  clear hW4 hrj hb4 hb5 h35 k0 k1 k2 k3 k4 k5 k6 k7
  cases hfew : fewP [⟨jA, jn, jc, code, [a0, a1, a2, a3], fu, mw, pA, pick.length, pc, pick⟩]
  · go_wp2
    go_ret
    exact ⟨rfl, HB5.out⟩
  have hfw : jn ≤ 40 ∧ fu ≤ 400 ∧ pick.length ≤ 20 := by
    unfold fewP at hfew
    simp [Job.few] at hfew
    omega
  obtain ⟨f1, f2, f3⟩ := hfw
  clear hfew
  obtain ⟨k0, k1, k2, k3, k4, k5, k6, k7⟩ := bk_job HX5.out rfl
  simp only at k0 k5 k6 k7
  have HZ5 := Lib.hid HX5.out.lt
  go_wp2_with fail
  refine (mnew_any _).mono ?_
  rintro e W7 ⟨sb, mb, rfl, hst, hb7⟩
  have HB7 := Lib.hid (HB5.out.trans (hb7.mono HB5.out.size))
  have HX7 := Lib.hid (HX5.out.below hb7 HX5.out.lt)
  have HS7 : Hid (StIn W7 w.heap.size 0 sb mb emptyS) := ⟨hst.st, hst.map, hst.roots, Nat.le_trans HB5.out.size hst.bs, Nat.le_trans HB5.out.size hst.bm⟩
  have hnsb : w.heap.size < sb := Nat.lt_of_lt_of_le HX5.out.lt hst.bs
  have HNsb := Lib.hid hnsb
  have h63 := HL.out.rd.le
  have hn8 : n ≤ 8 := by
    have h := HFw.out
    unfold fewP at h
    simp at h
    have := HL.out.len
    omega
  clear hst hb7 hnsb
  unfold maxLen at h63
  go_wp2
  go_loopw [35, 7] (fun i _u wr => ∃ (k nn mb2 : Nat) (s : MSt), (k ≤ n ∧ i = .int .i64 k) ∧ nn ≤ 420 * k ∧ Hid (StIn wr w.heap.size nn sb mb2 s) ∧ Hid (SOk s) ∧ Hid (Few64 s) ∧ Hid (Below w.heap.size w wr) ∧ Hid (Bk wr w.heap.size 28 (Job.cells ⟨jA, jn, jc, code, [a0, a1, a2, a3], fu, mw, pA, pick.length, pc, pick⟩).toArray)) (fun i _ _ => n - (intOf i).toNat)
  case atStart => exact ⟨0, 0, mb, emptyS, ⟨by omega, rfl⟩, by omega, HS7, emptyS_ok, empty_few, HB7, HX7⟩
  case round =>
    obtain ⟨k, nn, mb2, s, ⟨hk, rfl⟩, hnn, HS, HOK, HFe, HB, HX⟩ := hrel
    by_cases hlt : k < n
    · obtain ⟨b, o, jj, b0, b1, b2, b3, rfl, hbB, hjj, hin, hb4, c0, c1, c2, c3, c4, c5, c6, c7⟩ := (HL.out.below HB.out).at_ hlt
      have hfj : jj.few = true := by
        have h := HFw.out
        unfold fewP at h
        rw [Bool.and_eq_true] at h
        exact List.all_eq_true.1 h.1 jj (List.mem_of_getElem? hjj)
      obtain ⟨kA, kn, kc, kcode, kargs, kfu, kmw, qA, qn, qc, qpick⟩ := jj
      obtain rfl : qpick.length = qn := hin.pick.u64Len
      obtain rfl : kargs = [b0, b1, b2, b3] := hb4
      simp only at c0 c5 c6 c7
      have HIn := Lib.hid hin
      have hff : kn ≤ 40 ∧ kfu ≤ 400 ∧ qpick.length ≤ 20 := by
        unfold Job.few at hfj
        simp at hfj
        omega
      obtain ⟨g1, g2, g3⟩ := hff
      clear hjj hin hfj
      have hxs := HX.out.lt
      go_wp2_with fail
      obtain ⟨wx, hwx⟩ : ∃ wx, wr.alloc (.cells #[.slice kA kn kc, .int .u64 b0, .int .u64 b1, .int .u64 b2, .int .u64 b3, .int .i64 kfu, .int .i64 kmw, .slice qA qpick.length qc] 28) = wx := ⟨_, rfl⟩
      have hbx : Below wr.heap.size wr wx := by rw [← hwx]; exact (Below.refl _ _).alloc (Nat.le_refl _) _
      rw [hwx]
      have HBx := Lib.hid (HB.out.trans (hbx.mono HB.out.size))
      have hjx := HIn.out.below (hbx.mono HB.out.size)
      refine (run_any w.heap.size nn sb mb2 s kcode kA kn kc [b0, b1, b2, b3] kfu kmw qpick qA qc _ (HS.out.more (bk_grown_below hbx)) HOK.out (hjx.code.more HBx.out.size) hjx.ok rfl hjx.argsOk ⟨hjx.fuel.1, by omega⟩ hjx.maxw (hjx.pick.more HBx.out.size) hjx.pickOk hjx.pcap (by omega) (by omega)).mono ?_
      rintro e W9 ⟨⟨nv, mb9, rfl, hst9, _, _, _⟩, hok9, hg9⟩
      have HS9 := Lib.hid hst9
      have HOK9 := Lib.hid hok9
      have HF9 := Lib.hid (after_few HFe.out (run_near (l := kcode) (args := [b0, b1, b2, b3]) (fuel := kfu) (maxw := kmw) HFe.out HIn.out.pickOk))
      have HB9 := Lib.hid (HBx.out.grown hg9 HBx.out.size (fun k hk => by cases hk; exact HS.out.bs))
      have HX9 := Lib.hid ((HX.out.below hbx HX.out.lt).grown hg9 (by simpa using Nat.ne_of_gt HNsb.out))
      clear hst9 hok9 hg9 hjx hbx hwx
      go_wp2
      go_roundw
      case rel => exact ⟨k + 1, _, mb9, _, ⟨by omega, by go_num⟩, by omega, HS9.out, HOK9.out, HF9.out, HB9.out, HX9.out⟩
      case measure => simp [intOf]; omega
    · obtain rfl : n = k := by omega
      have HSz := Lib.hid HS.out.st.lt
      go_wp2_with fail
      have h63c := hk
      refine (mclone_any w.heap.size nn sb mb2 s _ HS.out).mono ?_
      rintro e wa ⟨sw, mbw, rfl, hsw, hba⟩
      have HS := Lib.hid (HS.out.more (bk_grown_below hba))
      have HX := Lib.hid (HX.out.below hba HX.out.lt)
      have HBr := HB
      have HB := Lib.hid (HB.out.trans (hba.mono HB.out.size))
      have HW := Lib.hid hsw
      have h1 : sb < sw := Nat.lt_of_lt_of_le HSz.out hsw.bs
      clear hsw hba
      obtain ⟨k0, k1, k2, k3, k4, k5, k6, k7⟩ := bk_job HX.out rfl
      simp only at k0 k5 k6 k7
      have hfu := HJ.out.fuel.1
      simp only at hfu
      go_wp2_with fail
      have hj := HJ.out.below HB.out
      refine (run_any w.heap.size nn sb mb2 s code jA jn jc [a0, a1, a2, a3] fu mw pick pA pc _ HS.out HOK.out (hj.code.more HB.out.size) hj.ok rfl hj.argsOk ⟨hfu, by omega⟩ hj.maxw (hj.pick.more HB.out.size) hj.pickOk hj.pcap (by omega) (by omega)).mono ?_
      rintro e wd ⟨⟨nv, mbd, rfl, hsd, hown, hmb, hcode⟩, hok, hgr⟩
      obtain ⟨nA, nc, rfl, hnr⟩ := Rd.of_own hown
      obtain ⟨R, hR⟩ : ∃ R, runP s code [a0, a1, a2, a3] fu mw pick = R := ⟨_, rfl⟩
      have hnear : Near s pick R := by rw [← hR]; exact run_near HFe.out hj.pickOk
      have hsteps : 0 ≤ R.steps ∧ R.steps ≤ max fu 0 ∧ R.writes ≤ max mw 0 := by rw [← hR]; exact run_caps _ _ _ _ _ _
      rw [hR] at hsd hown hnr hok ⊢
      have HNear := Lib.hid hnear
      have HSt := Lib.hid hsteps
      have HF1 := Lib.hid (after_few HFe.out hnear)
      have HD1 := Lib.hid (after_dif hnear)
      obtain ⟨S1, hS1⟩ : ∃ S1, afterP s R = S1 := ⟨_, rfl⟩
      rw [hS1] at hsd HF1 HD1
      have HS1 := Lib.hid hsd
      have HNr := Lib.hid hnr
      have HWd := Lib.hid (HW.out.but hgr (Nat.ne_of_lt h1) (HW.out.map.ne_bk HS.out.st))
      have HX := Lib.hid (HX.out.grown hgr (by simpa using Nat.ne_of_gt HNsb.out))
      have HB := Lib.hid (HB.out.grown hgr HB.out.size (fun k hk => by cases hk; exact HS.out.bs))
      clear hR hS1 hsd hown hnr hok hgr hj hmb hcode k0 k1 k2 k3 k4 k5 k6 k7 hnear hsteps
      simp only [doneV]
      go_upto_region 13 with fail
      obtain ⟨we, hwe⟩ : ∃ we, wd.alloc (.cells #[.int .i64 R.code, .int .u64 R.val, .int .i64 R.steps, .int .i64 R.writes, .slice nA R.news.length nc] 38) = we := ⟨_, rfl⟩
      have hge : wd.grownBy we none := by rw [← hwe]; exact World.grownBy_alloc _ _ _
      have hbe : Below wd.heap.size wd we := by rw [← hwe]; exact (Below.refl _ _).alloc (Nat.le_refl _) _
      have HD := Lib.hid (show Bk we wd.heap.size 38 #[.int .i64 R.code, .int .u64 R.val, .int .i64 R.steps, .int .i64 R.writes, .slice nA R.news.length nc] by rw [← hwe]; exact Bk.new _ _ _)
      rw [hwe]
      have HS1 := Lib.hid (HS1.out.more hge)
      have HWd := Lib.hid (HWd.out.more hge)
      have HNr := Lib.hid (HNr.out.below hbe)
      have HNz : Hid (wd.heap.size ≤ we.heap.size) := hbe.size
      have HX := Lib.hid (HX.out.grown hge (by simp))
      have HB := Lib.hid (HB.out.grown hge HB.out.size (fun k e => by cases e))
      clear hge hwe hbe
      go_wp2
      go_loopw [66, 10, 11] (fun i tv _a wr => ∃ q : Nat, (q ≤ 16 ∧ i = .int .i64 q) ∧ tv = .int .i64 ((difN S1.roots s.roots q : Nat) : Int) ∧ wr = we) (fun i _ _ _ => 16 - (intOf i).toNat)
      case atStart => exact ⟨0, ⟨by omega, rfl⟩, rfl, rfl⟩
      case round =>
        obtain ⟨q, ⟨hq, rfl⟩, rfl, rfl⟩ := hrel
        have HDl := Lib.hid (difN_le S1.roots s.roots q)
        have HDs := Lib.hid (difN_snoc S1.roots s.roots q)
        obtain ⟨T, hT⟩ : ∃ T, difN S1.roots s.roots q = T := ⟨_, rfl⟩
        rw [hT] at HDl HDs ⊢
        have hTl := HDl.out
        have HT := Lib.hid hT
        clear hT
        by_cases hlq : q < 16
        · have hlqi : (q : Int) < 16 := by omega
          go_wp2_with fail
          refine (root_at _ _ _ _ S1 (q : Int) _ HS1.out).mono ?_
          rintro e wf ⟨rfl, rfl⟩
          rw [rootAt_in S1 hlq]
          obtain ⟨x, hx⟩ : ∃ x, S1.roots.getD q 0 = x := ⟨_, rfl⟩
          rw [hx] at HDs ⊢
          clear hx
          go_wp2_with fail
          refine (root_at _ _ _ _ s (q : Int) _ HWd.out).mono ?_
          rintro e wf ⟨rfl, rfl⟩
          rw [rootAt_in s hlq]
          obtain ⟨y, hy⟩ : ∃ y, s.roots.getD q 0 = y := ⟨_, rfl⟩
          rw [hy] at HDs ⊢
          clear hy
          by_cases exy : x = y
          · have eb : (x != y) = false := by simpa using exy
            have HE : Hid (difN S1.roots s.roots (q + 1) = T) := by show _ = _; rw [HDs.out]; unfold ne1; rw [if_pos exy]; rfl
            clear exy
            go_wp2
            go_roundw
            case rel => exact ⟨q + 1, ⟨by omega, by go_num⟩, by rw [HE.out], trivial⟩
            case measure => simp [intOf]; omega
          · have eb : (x != y) = true := by simpa using exy
            have HE : Hid (difN S1.roots s.roots (q + 1) = T + 1) := by show _ = _; rw [HDs.out]; unfold ne1; rw [if_neg exy]
            clear exy
            go_wp2
            go_roundw
            case rel => exact ⟨q + 1, ⟨by omega, by go_num⟩, by rw [HE.out]; go_num, trivial⟩
            case measure => simp [intOf]; omega
        · obtain rfl : q = 16 := by omega
          have hnn2 : nn + pick.length + fu.toNat ≤ 1000000000000 := by omega
          go_wp2_with fail
          refine (handles_many _ _ _ _ S1 _ HS1.out (by omega) (fun ss h => by have := keys_len HF1.out ss h; omega)).mono ?_
          rintro e wf ⟨hv, ss, rfl, hks, hsort, hrow, hbf⟩
          have HSS := Lib.hid (keys_len HF1.out ss hks)
          have HKs := Lib.hid hks
          obtain ⟨hA, hc, rfl, hrr⟩ := Rd.of_own hrow
          have HRr := Lib.hid hrr
          have HS1 := Lib.hid (HS1.out.more (bk_grown_below hbf))
          have HWd := Lib.hid (HWd.out.more (bk_grown_below hbf))
          have HNr := Lib.hid (HNr.out.below (hbf.mono HNz.out))
          have HNz : Hid (wd.heap.size ≤ wf.heap.size) := Nat.le_trans HNz.out hbf.size
          have HD := Lib.hid (HD.out.below hbf HD.out.lt)
          have HX := Lib.hid (HX.out.below hbf HX.out.lt)
          have HB := Lib.hid (HB.out.trans (hbf.mono HB.out.size))
          have HKU : Hid (∀ x ∈ ss, U64 x) := fun x hx => ((hks.2 x).1 hx).1
          clear hks hsort hrow hrr hbf
          go_wp2
          go_loopw [82, 10, 13, 14, 15, 16, 17, 18] (fun i tv _a _b _c _d _e _f wr => ∃ p : Nat, (p ≤ ss.length ∧ i = .int .i64 p) ∧ tv = .int .i64 ((T + sumH S1 s (ss.take p) : Nat) : Int) ∧ Hid (Below wf.heap.size wf wr) ∧ Hid (sumH S1 s (ss.take p) ≤ 8 * p)) (fun i _ _ _ _ _ _ _ _ => ss.length - (intOf i).toNat)
          case atStart => exact ⟨0, ⟨by omega, rfl⟩, rfl, Below.refl _ _, by show _ ≤ _; simp [sumH]⟩
          case round =>
            obtain ⟨p, ⟨hp, rfl⟩, rfl, HBp, HSp⟩ := hrel
            by_cases hlp : p < ss.length
            · have hlpi : (p : Int) < (ss.length : Int) := by omega
              obtain ⟨hb, ho, rfl, hhb, hcell⟩ := (HRr.out.below HBp.out).at_ (by omega)
              obtain ⟨hx, hhx⟩ : ∃ hx, ss[p]? = some hx := ⟨ss[p], List.getElem?_eq_getElem hlp⟩
              have l0 : wr.cell? ⟨hb, ho + p, none⟩ = some (.int .u64 hx) := hcell p _ (by rw [u64s, List.getElem?_map, hhx]; rfl)
              have HUx := Lib.hid (HKU.out hx (List.mem_of_getElem? hhx))
              have HHx := Lib.hid hhx
              have HSn : Hid (sumH S1 s (ss.take (p + 1)) = sumH S1 s (ss.take p) + difO (S1.blocks hx) (s.blocks hx)) := by
                show _ = _
                rw [List.take_add_one, hhx]; exact sumH_snoc S1 s _ hx
              obtain ⟨T2, hT2⟩ : ∃ T2, sumH S1 s (ss.take p) = T2 := ⟨_, rfl⟩
              rw [hT2] at HSp HSn ⊢
              have hT2b : T2 ≤ 520 := by have := HSp.out; have := HSS.out; omega
              have HS1p := Lib.hid (HS1.out.more (bk_grown_below HBp.out))
              have HWdp := Lib.hid (HWd.out.more (bk_grown_below HBp.out))
              clear hcell hhx hT2
              go_wp2_with fail
              refine (block_any _ _ _ _ S1 hx _ HS1p.out HUx.out).mono ?_
              rintro e wg ⟨rfl, hbg⟩
              have HBg := Lib.hid (HBp.out.trans (hbg.mono HBp.out.size))
              have HWdg := Lib.hid (HWdp.out.more (bk_grown_below hbg))
              have hdf := dif_blk (s := s) (h := hx) (((HKs.out.2 hx).1 (List.mem_of_getElem? HHx.out)).2)
              obtain ⟨B, hB⟩ : ∃ B, blockOf S1 hx = B := ⟨_, rfl⟩
              have hB8 : B.length = 8 := by rw [← hB]; exact blk8 HS1p.out HUx.out
              obtain ⟨A, hA⟩ : ∃ A, blockOf s hx = A := ⟨_, rfl⟩
              have hA8 : A.length = 8 := by rw [← hA]; exact blk8 HWdp.out HUx.out
              obtain ⟨th, hth⟩ : ∃ th, (s.blocks hx).isSome = th := ⟨_, rfl⟩
              rw [hB, hA, hth] at hdf
              have HDf := Lib.hid hdf
              have HA := Lib.hid hA
              have HTh := Lib.hid hth
              obtain ⟨y0, y1, y2, y3, y4, y5, y6, y7, hBy⟩ := eight hB8
              obtain ⟨z0, z1, z2, z3, z4, z5, z6, z7, hAz⟩ := eight hA8
              rw [hB]
              have hBv : blkV B = .agg #[.int .u64 y0, .int .u64 y1, .int .u64 y2, .int .u64 y3, .int .u64 y4, .int .u64 y5, .int .u64 y6, .int .u64 y7] := by rw [hBy]; rfl
              have hAv : blkV A = .agg #[.int .u64 z0, .int .u64 z1, .int .u64 z2, .int .u64 z3, .int .u64 z4, .int .u64 z5, .int .u64 z6, .int .u64 z7] := by rw [hAz]; rfl
              have HAv := Lib.hid hAv
              have HBy := Lib.hid hBy
              have HAz := Lib.hid hAz
              have HB8 := Lib.hid hB8
              have HA8 := Lib.hid hA8
              rw [hBv]
              clear hbg hB hA hth hdf hBy hAz hBv hAv hB8 hA8 l0
              go_upto_region 24 with fail
              obtain ⟨wh, hwh⟩ : ∃ wh, wg.alloc (.cells #[.int .u64 y0, .int .u64 y1, .int .u64 y2, .int .u64 y3, .int .u64 y4, .int .u64 y5, .int .u64 y6, .int .u64 y7] 47) = wh := ⟨_, rfl⟩
              have hKb : Bk wh wg.heap.size 47 (u64s B).toArray := by rw [← hwh, HBy.out]; exact Bk.new _ _ _
              have hgh : wg.grownBy wh none := by rw [← hwh]; exact World.grownBy_alloc _ _ _
              have hbh : Below wg.heap.size wg wh := by rw [← hwh]; exact (Below.refl _ _).alloc (Nat.le_refl _) _
              rw [hwh]
              obtain ⟨gb, hgb⟩ : ∃ gb, wg.heap.size = gb := ⟨_, rfl⟩
              rw [hgb] at hKb ⊢
              have HKb := Lib.hid hKb
              have HBh := Lib.hid (HBg.out.trans (hbh.mono HBg.out.size))
              have HWdh := Lib.hid (HWdg.out.more hgh)
              clear hwh hKb hgh hbh hgb
              go_wp2_with fail
              refine (block_any _ _ _ _ s hx _ HWdh.out HUx.out).mono ?_
              rintro e wi ⟨rfl, hbi⟩
              rw [HA.out, HAv.out, HTh.out]
              have HBi := Lib.hid (HBh.out.trans (hbi.mono HBh.out.size))
              have HKb := Lib.hid (HKb.out.below hbi HKb.out.lt)
              clear hbi
              go_upto_region 25 with fail
              obtain ⟨wj, hwj⟩ : ∃ wj, wi.alloc (.cells #[.int .u64 z0, .int .u64 z1, .int .u64 z2, .int .u64 z3, .int .u64 z4, .int .u64 z5, .int .u64 z6, .int .u64 z7] 47) = wj := ⟨_, rfl⟩
              have hKa : Bk wj wi.heap.size 47 (u64s A).toArray := by rw [← hwj, HAz.out]; exact Bk.new _ _ _
              have hKb : Bk wj gb 47 (u64s B).toArray := by rw [← hwj]; exact HKb.out.alloc _
              have hbj : Below wi.heap.size wi wj := by rw [← hwj]; exact (Below.refl _ _).alloc (Nat.le_refl _) _
              rw [hwj]
              obtain ⟨ga, hga⟩ : ∃ ga, wi.heap.size = ga := ⟨_, rfl⟩
              rw [hga] at hKa ⊢
              have HKa := Lib.hid hKa
              have HKb := Lib.hid hKb
              have HBj := Lib.hid (HBi.out.trans (hbj.mono HBi.out.size))
              clear hwj hKa hKb hbj hga
              go_wp2
              go_loopw [98, 10, 18] (fun i tv _a wr => ∃ k : Nat, (k ≤ 8 ∧ i = .int .i64 k) ∧ tv = .int .i64 ((T + T2 + (if th = true then difN B A k else 0) : Nat) : Int) ∧ Hid (Below wj.heap.size wj wr)) (fun i _ _ _ => 8 - (intOf i).toNat)
              case atStart => exact ⟨0, ⟨by omega, rfl⟩, by cases th <;> rfl, Below.refl _ _⟩
              case round =>
                obtain ⟨k, ⟨hk8, rfl⟩, rfl, HBk⟩ := hrel
                have HDk := Lib.hid (difN_le B A k)
                have HDn := Lib.hid (difN_snoc B A k)
                by_cases hlk : k < 8
                · have hlki : (k : Int) < 8 := by omega
                  have KB := bk_word (HKb.out.below HBk.out HKb.out.lt) (k := k) (by rw [HB8.out]; exact hlk)
                  have KA := bk_word (HKa.out.below HBk.out HKa.out.lt) (k := k) (by rw [HA8.out]; exact hlk)
                  obtain ⟨x, hx1⟩ : ∃ x, B.getD k 0 = x := ⟨_, rfl⟩
                  obtain ⟨y, hy1⟩ : ∃ y, A.getD k 0 = y := ⟨_, rfl⟩
                  rw [hx1] at KB HDn
                  rw [hy1] at KA HDn
                  clear hx1 hy1
                  cases th
                  · simp only [Bool.false_eq_true, if_false]
                    go_upto_region 28 with fail
                    go_quiet (fail)
                    go_wp2
                    go_roundw
                    case rel => exact ⟨k + 1, ⟨by omega, by go_num⟩, rfl, below_drewN HBk.out _⟩
                    case measure => simp [intOf]; omega
                  · simp only [if_true]
                    obtain ⟨D, hD⟩ : ∃ D, difN B A k = D := ⟨_, rfl⟩
                    rw [hD] at HDk HDn ⊢
                    have hDk := HDk.out
                    clear hD
                    by_cases exy : x = y
                    · have eb : (x != y) = false := by simpa using exy
                      have HE : Hid (difN B A (k + 1) = D) := by show _ = _; rw [HDn.out]; unfold ne1; rw [if_pos exy]; rfl
                      clear exy
                      go_upto_region 28 with fail
                      go_quiet (fail)
                      go_wp2
                      go_roundw
                      case rel => exact ⟨k + 1, ⟨by omega, by go_num⟩, by rw [HE.out], below_drewN HBk.out _⟩
                      case measure => simp [intOf]; omega
                    · have eb : (x != y) = true := by simpa using exy
                      have HE : Hid (difN B A (k + 1) = D + 1) := by show _ = _; rw [HDn.out]; unfold ne1; rw [if_neg exy]
                      clear exy
                      go_upto_region 28 with fail
                      go_quiet (fail)
                      go_wp2
                      go_roundw
                      case rel => exact ⟨k + 1, ⟨by omega, by go_num⟩, by rw [HE.out]; go_num, below_drewN HBk.out _⟩
                      case measure => simp [intOf]; omega
                · obtain rfl : k = 8 := by omega
                  have HBn := Lib.hid (HBj.out.trans (HBk.out.mono HBj.out.size))
                  have HDd : Hid ((if th = true then difN B A 8 else 0) ≤ 8) := by show _ ≤ _; have := HDk.out; cases th <;> simp <;> omega
                  rw [← HDf.out] at HDd ⊢
                  obtain ⟨E, hE⟩ : ∃ E, difO (S1.blocks hx) (s.blocks hx) = E := ⟨_, rfl⟩
                  rw [hE] at HSn HDd ⊢
                  clear hE
                  have hss := HSS.out
                  go_wp2
                  go_roundw
                  case rel => exact ⟨p + 1, ⟨by omega, by go_num⟩, by rw [HSn.out]; go_num, HBn.out, by show _ ≤ _; rw [HSn.out]; have := HSp.out; have := HDd.out; omega⟩
                  case measure => simp [intOf]; omega
            · obtain rfl : ss.length = p := by omega
              have HTk : Hid (ss.take ss.length = ss) := List.take_of_length_le (Nat.le_refl _)
              rw [HTk.out] at HSp ⊢
              have hsum := sumH_le S1 s ss HF1.out HKs.out
              have htot := HD1.out
              unfold difS at htot
              rw [HT.out] at htot
              obtain ⟨N, hN⟩ : ∃ N, T + sumH S1 s ss = N := ⟨_, rfl⟩
              rw [hN]
              have hNw : (N : Int) ≤ R.writes := by omega
              have hTl := HDl.out
              have hNb : N ≤ 1000 := by have := HSp.out; have := HSS.out; omega
              clear hsum htot hN
              have HD := Lib.hid (HD.out.below HBp.out HD.out.lt)
              have HX := Lib.hid (HX.out.below HBp.out HX.out.lt)
              have HB := Lib.hid (HB.out.trans (HBp.out.mono HB.out.size))
              have HNr := Lib.hid (HNr.out.below (HBp.out.mono HNz.out))
              obtain ⟨k0, k1, k2, k3, k4, k5, k6, k7⟩ := bk_job HX.out rfl
              obtain ⟨x0, x1, x2, x3, x4, _, _, _, _, _⟩ := bk_done HD.out
              simp only at k0 k5 k6 k7
              obtain ⟨s0, s1, s2⟩ := HSt.out
              have s9 := HNear.out.nine
              have hpk := congrArg List.length HNear.out.pick
              rw [List.length_append] at hpk
              have c1 : ¬ ((R.news.length : Int) > (pick.length : Int)) := by omega
              have c2 : ¬ (R.steps > max fu 0) := by omega
              have c3 : ¬ (R.writes > max mw 0) := by omega
              have c4 : ¬ (R.steps < 0) := by omega
              have c5 : ¬ (R.writes < 9 * (R.news.length : Int)) := by omega
              have c6 : R.news.length ≤ 20 := by omega
              clear hpk
              obtain ⟨V, hV⟩ : ∃ V, wr = V := ⟨_, rfl⟩
              rw [hV] at k0 k1 k2 k3 k4 k5 k6 k7 x0 x1 x2 x3 x4 HB HNr HD HX ⊢
              clear hV
              go_upto_region 34 with fail
              clear c1 c2 c3 c4 c5
              go_wp2
              go_loopw [155, 19, 20] (fun i _a _b wr => ∃ q : Nat, (q ≤ R.news.length ∧ i = .int .i64 q) ∧ wr = V) (fun i _ _ _ => R.news.length - (intOf i).toNat)
              case atStart => exact ⟨0, ⟨by omega, rfl⟩, rfl⟩
              case round =>
                obtain ⟨q, ⟨hq, rfl⟩, rfl⟩ := hrel
                by_cases hlq : q < R.news.length
                · have hlqi : (q : Int) < (R.news.length : Int) := by omega
                  have hpl : q < pick.length := by have := congrArg List.length HNear.out.pick; rw [List.length_append] at this; omega
                  have hpli : (q : Int) < (pick.length : Int) := by omega
                  obtain ⟨x, hx⟩ : ∃ x, R.news[q]? = some x := ⟨R.news[q], List.getElem?_eq_getElem hlq⟩
                  have hy : pick[q]? = some x := by
                    rw [← HNear.out.pick, List.getElem?_append_left hlq]; exact hx
                  obtain ⟨nb, no, rfl, _, hcn⟩ := HNr.out.at_ (by omega)
                  have l0 : wr.cell? ⟨nb, no + q, none⟩ = some (.int .u64 x) := hcn q _ (by rw [u64s, List.getElem?_map, hx]; rfl)
                  obtain ⟨pb, po, rfl, _, hcp⟩ := (HJ.out.below HB.out).pick.at_ (by simpa using (show 0 < pick.length by omega))
                  have l1 : wr.cell? ⟨pb, po + q, none⟩ = some (.int .u64 x) := hcp q _ (by show (u64s pick)[q]? = _; rw [u64s, List.getElem?_map, hy]; rfl)
                  have hxx : (x != x) = false := by simp
                  clear hx hy hcn hcp
                  go_wp2
                  go_roundw
                  case rel => exact ⟨q + 1, ⟨by omega, by go_num⟩, trivial⟩
                  case measure => simp [intOf]; omega
                · obtain rfl : R.news.length = q := by omega
                  have hfin : (N : Int) ≤ R.writes := hNw
                  go_wp2
                  go_ret
                  exact ⟨by simp, HB.out⟩
end Go.Proofs.Ytddaeaimimdonaa
