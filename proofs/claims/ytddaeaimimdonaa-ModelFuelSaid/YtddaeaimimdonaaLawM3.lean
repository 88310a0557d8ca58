/-
  Chapter 6: the walk of ModelFuel. Printed by gen/lawm3.py.
-/
import Derived.Test.YtddaeaimimdonaaLawM2
import Derived.Test.YtddaeaimimdonaaLawM3P
import Derived.Deep.DeepCutAuto
namespace Go.Proofs.Ytddaeaimimdonaa
open Go.RowKit Go.Maps
set_option linter.unusedVariables false

theorem grown_none {a b c : World} {k : Nat} (h : a.grownBy b none) (hg : b.grownBy c (some k)) (hk : a.heap.size ≤ k) : a.grownBy c none := h.andThen hg (fun j hj => by cases hj; exact .inl hk)
theorem grown_five_none {a w : World} (h : a.grownBy w none) {g : Nat} (hg : a.heap.size ≤ g) (b0 b1 b2 b3 b4 : Value) :
    a.grownBy (((((w.setCell ⟨g, 0, none⟩ b0).setCell ⟨g, 1, none⟩ b1).setCell ⟨g, 2, none⟩ b2).setCell ⟨g, 3, none⟩ b3).setCell ⟨g, 4, none⟩ b4) none :=
  grown_none h (grown_five w g b0 b1 b2 b3 b4) hg
theorem own_five {w : World} {base n g : Nat} {v : Value} {xs : List Value} {cs : Array Value} (h : w.ownsRow base 24 1 v n xs) (hg : Bk w g 38 cs) (b0 b1 b2 b3 b4 : Value) :
    (((((w.setCell ⟨g, 0, none⟩ b0).setCell ⟨g, 1, none⟩ b1).setCell ⟨g, 2, none⟩ b2).setCell ⟨g, 3, none⟩ b3).setCell ⟨g, 4, none⟩ b4).ownsRow base 24 1 v n xs :=
  h.kept (grown_five w g b0 b1 b2 b3 b4) (.inr (hg.ne_own h (by decide)))
theorem own_grown {w w' : World} {base n : Nat} {e : TypeId} {v : Value} {xs : List Value} (h : w.ownsRow base e 1 v n xs) (hg : w.grownBy w' none) : w'.ownsRow base e 1 v n xs :=
  h.kept hg (by
    cases hv : v.ownBlock with
    | none => exact .inl rfl
    | some b => exact .inr (by simp))
/-- A clone's run, of a job, in whatever world. -/
def CloneRun (w Wb : World) (s : MSt) (code : List Ins) (jA : Option Addr) (jn jc : Nat) (a0 a1 a2 a3 : Int) (pA : Option Addr) (pc : Nat) (pick : List Int) : Prop :=
  ∀ (W : World) (B nn sb mb : Nat) (fu mw : Int) (Wa : World), Below w.heap.size w Wa → StIn W B nn sb mb s → Wa.grownBy W none → nn ≤ 100000000000 → -9223372036854775808 ≤ fu ∧ fu ≤ 1000000000 → -9223372036854775808 ≤ mw ∧ mw ≤ 9223372036854775807 →
    Calls Try.prog 17 #[.pointer (some ⟨sb, 0, none⟩), .slice jA jn jc, .agg #[.int .u64 a0, .int .u64 a1, .int .u64 a2, .int .u64 a3], .int .i64 fu, .int .i64 mw, .slice pA pick.length pc] W
      fun e W' => ∃ nA nc, e = .returned (.agg (doneV (runP s code [a0, a1, a2, a3] fu mw pick) (.slice nA (runP s code [a0, a1, a2, a3] fu mw pick).news.length nc))) ∧
        W'.ownsRow 0 24 1 (.slice nA (runP s code [a0, a1, a2, a3] fu mw pick).news.length nc) (runP s code [a0, a1, a2, a3] fu mw pick).news.length (u64s (runP s code [a0, a1, a2, a3] fu mw pick).news) ∧ W.grownBy W' (some sb)
theorem cloneRun {w Wb : World} {s : MSt} {jA : Option Addr} {jn jc : Nat} {code : List Ins} {a0 a1 a2 a3 fu mw : Int} {pA : Option Addr} {pc : Nat} {pick : List Int} (hj : Job.In w w.heap.size ⟨jA, jn, jc, code, [a0, a1, a2, a3], fu, mw, pA, pick.length, pc, pick⟩) (hs : SOk s) (hp : pick.length ≤ 20) :
    CloneRun w Wb s code jA jn jc a0 a1 a2 a3 pA pc pick := by
  intro W B nn sb mb fu2 mw2 Wa hb h hg hn hfu hmw
  have hj2 := (hj.below hb).grown hg hb.size (fun g e => by cases e)
  have hz : w.heap.size ≤ W.heap.size := Nat.le_trans hb.size hg.size
  refine (run_any B nn sb mb s code jA jn jc [a0, a1, a2, a3] fu2 mw2 pick pA pc W h hs (hj2.code.more hz) hj2.ok rfl hj2.argsOk hfu hmw (hj2.pick.more hz) hj2.pickOk hj2.pcap (by omega) hn).mono ?_
  rintro e wr ⟨⟨nv, mbr, rfl, hst, hown, _, _⟩, _, hgr⟩
  obtain ⟨nA, nc, rfl, _⟩ := Rd.of_own hown
  exact ⟨nA, nc, rfl, own_base hown (Nat.zero_le _), hgr⟩
theorem i64_and63 (n : Int) : bits .and .i64 n 63 = n % 64 := by
  have h63 : (BitVec.ofInt 64 63).toNat = 2 ^ 6 - 1 := by decide
  have key : (BitVec.ofInt 64 n &&& BitVec.ofInt 64 63).toNat = (n % ((2 ^ 64 : Nat) : Int)).toNat % 2 ^ 6 := by
    rw [BitVec.toNat_and, BitVec.toNat_ofInt, h63, Nat.and_two_pow_sub_one_eq_mod]
  show IntKind.i64.wrap ((BitVec.ofInt 64 n &&& BitVec.ofInt 64 63).toNat : Nat) = n % 64
  rw [key, IntKind.wrap_i64]
  omega

set_option maxRecDepth 100000 in
set_option maxHeartbeats 16000000 in
theorem fuel_walk (l : List Job) (A : Option Addr) (n c : Nat) (j : Job) (more words : Int) (w : World) (hl : RdJ w w.heap.size A n l) (hj : j.In w w.heap.size) (hmore : -9223372036854775808 ≤ more ∧ more ≤ 9223372036854775807) (hwords : -9223372036854775808 ≤ words ∧ words ≤ 9223372036854775807) :
    Calls Try.prog 3 #[.slice A n c, .agg j.cells.toArray, .int .i64 more, .int .i64 words] w fun e w' => e = .returned (.bool true) ∧ Below w.heap.size w w' := by
  obtain ⟨a0, a1, a2, a3, ha⟩ := four hj.args4
  have hc : j.cells.toArray = #[.slice j.A j.n j.c, .int .u64 a0, .int .u64 a1, .int .u64 a2, .int .u64 a3, .int .i64 j.fuel, .int .i64 j.maxw, .slice j.pA j.pn j.pc] := by
    unfold Job.cells; rw [ha]; rfl
  rw [hc]
  obtain ⟨jA, jn, jc, code, args, fu, mw, pA, pn, pc, pick⟩ := j
  obtain rfl : pick.length = pn := hj.pick.u64Len
  obtain rfl : args = [a0, a1, a2, a3] := ha
  have HL := Lib.hid hl
  have HJ := Lib.hid hj
  have HC := Lib.hid hc
  simp only at hc ⊢
  clear hl hj hc
  go_enter Try.func3, Try.ntmps3
  go_wp2_with fail
  obtain ⟨W1, hW1⟩ : ∃ W1, w.alloc (.cells #[.slice jA jn jc, .int .u64 a0, .int .u64 a1, .int .u64 a2, .int .u64 a3, .int .i64 fu, .int .i64 mw, .slice pA pick.length pc] 28) = W1 := ⟨_, rfl⟩
  have hb1 : Below w.heap.size w W1 := by rw [← hW1]; exact (Below.refl _ _).alloc (Nat.le_refl _) _
  have hx1 : Bk W1 w.heap.size 28 (Job.cells ⟨jA, jn, jc, code, [a0, a1, a2, a3], fu, mw, pA, pick.length, pc, pick⟩).toArray := by
    rw [← hW1, HC.out]; exact Bk.new _ _ _
  rw [hW1]
  refine (alive6_any _).mono ?_
  rintro e W2 ⟨rfl, hb2⟩
  have HB2 := Lib.hid (hb1.trans (hb2.mono hb1.size))
  have HX2 := Lib.hid (hx1.below hb2 hx1.lt)
  clear hW1 hb1 hx1 hb2
  go_wp2_with fail
  refine (few_any l A n c _ ((HL.out.below HB2.out).more HB2.out.size)).mono ?_
  rintro e W3 ⟨rfl, hb3⟩
  have HB3 := Lib.hid (HB2.out.trans (hb3.mono HB2.out.size))
  have HX3 := Lib.hid (HX2.out.below hb3 HX2.out.lt)
  clear hb3
  cases hfew : fewP l
  · go_wp2
    go_ret
    exact ⟨rfl, HB3.out⟩
  have HFw := Lib.hid hfew
  clear hfew
  obtain ⟨k0, k1, k2, k3, k4, k5, k6, k7⟩ := bk_job HX3.out rfl
  simp only at k0 k5 k6 k7
  go_wp2_with fail
  obtain ⟨W4, hW4⟩ : ∃ W4, W3.alloc (.cells #[.slice jA jn jc, .int .u64 a0, .int .u64 a1, .int .u64 a2, .int .u64 a3, .int .i64 fu, .int .i64 mw, .slice pA pick.length pc] 28) = W4 := ⟨_, rfl⟩
  have hrj : RdJ W4 W4.heap.size (some ⟨W3.heap.size, 0, none⟩) 1 [⟨jA, jn, jc, code, [a0, a1, a2, a3], fu, mw, pA, pick.length, pc, pick⟩] := by
    rw [← hW4]
    have h := one_job (HJ.out.below HB3.out) (Nat.le_of_lt HX3.out.lt)
    rw [HC.out] at h
    exact h.more (by simp)
  have hb4 : Below W3.heap.size W3 W4 := by rw [← hW4]; exact (Below.refl _ _).alloc (Nat.le_refl _) _
  rw [hW4]
  refine (few_any _ _ 1 1 _ hrj).mono ?_
  rintro e W5 ⟨rfl, hb5⟩
  have h35 := hb4.trans (hb5.mono hb4.size)
  have HB5 := Lib.hid (HB3.out.trans (h35.mono HB3.out.size))
  have HX5 := Lib.hid (HX3.out.below h35 HX3.out.lt)
  clear hW4 hrj hb4 hb5 h35 k0 k1 k2 k3 k4 k5 k6 k7
  cases hfew : fewP [⟨jA, jn, jc, code, [a0, a1, a2, a3], fu, mw, pA, pick.length, pc, pick⟩]
  · go_wp2
    go_ret
    exact ⟨rfl, HB5.out⟩
  have hfw : jn ≤ 40 ∧ fu ≤ 400 ∧ pick.length ≤ 20 := by
    unfold fewP at hfew
    simp [Job.few] at hfew
    omega
  obtain ⟨f1, f2, f3⟩ := hfw
  clear hfew
  obtain ⟨k0, k1, k2, k3, k4, k5, k6, k7⟩ := bk_job HX5.out rfl
  simp only at k0 k5 k6 k7
  have HZ5 := Lib.hid HX5.out.lt
  go_wp2_with fail
  refine (right_any code jA jn jc _ ((HJ.out.below HB5.out).code.more (Nat.le_of_lt HZ5.out)) HJ.out.ok).mono ?_
  rintro e W6 ⟨rfl, hb6⟩
  have HB6 := Lib.hid (HB5.out.trans (hb6.mono HB5.out.size))
  have HX6 := Lib.hid (HX5.out.below hb6 HX5.out.lt)
  clear hb6 k0 k1 k2 k3 k4 k5 k6 k7
  cases hri : rightP code
  · go_wp2
    go_ret
    exact ⟨rfl, HB6.out⟩
  have HRI := Lib.hid hri
  clear hri
  go_wp2_with fail
  refine (mnew_any _).mono ?_
  rintro e W7 ⟨sb, mb, rfl, hst, hb7⟩
  have HB7 := Lib.hid (HB6.out.trans (hb7.mono HB6.out.size))
  have HX7 := Lib.hid (HX6.out.below hb7 HX6.out.lt)
  have HS7 : Hid (StIn W7 w.heap.size 0 sb mb emptyS) := ⟨hst.st, hst.map, hst.roots, Nat.le_trans HB6.out.size hst.bs, Nat.le_trans HB6.out.size hst.bm⟩
  have hnsb : w.heap.size < sb := Nat.lt_of_lt_of_le HX6.out.lt hst.bs
  have HNsb := Lib.hid hnsb
  have h63 := HL.out.rd.le
  have hn8 : n ≤ 8 := by
    have h := HFw.out
    unfold fewP at h
    simp at h
    have := HL.out.len
    omega
  clear hst hb7 hnsb
  unfold maxLen at h63
  go_wp2
  go_loopw [36, 11] (fun i _u wr => ∃ (k nn mb2 : Nat) (s : MSt), (k ≤ n ∧ i = .int .i64 k) ∧ nn ≤ 420 * k ∧ Hid (StIn wr w.heap.size nn sb mb2 s) ∧ Hid (SOk s) ∧ Hid (Below w.heap.size w wr) ∧ Hid (Bk wr w.heap.size 28 (Job.cells ⟨jA, jn, jc, code, [a0, a1, a2, a3], fu, mw, pA, pick.length, pc, pick⟩).toArray)) (fun i _ _ => n - (intOf i).toNat)
  case atStart => exact ⟨0, 0, mb, emptyS, ⟨by omega, rfl⟩, by omega, HS7, emptyS_ok, HB7, HX7⟩
  case round =>
    obtain ⟨k, nn, mb2, s, ⟨hk, rfl⟩, hnn, HS, HOK, HB, HX⟩ := hrel
    by_cases hlt : k < n
    · obtain ⟨b, o, jj, b0, b1, b2, b3, rfl, hbB, hjj, hin, hb4, c0, c1, c2, c3, c4, c5, c6, c7⟩ := (HL.out.below HB.out).at_ hlt
      have hfj : jj.few = true := by
        have h := HFw.out
        unfold fewP at h
        rw [Bool.and_eq_true] at h
        exact List.all_eq_true.1 h.1 jj (List.mem_of_getElem? hjj)
      obtain ⟨kA, kn, kc, kcode, kargs, kfu, kmw, qA, qn, qc, qpick⟩ := jj
      obtain rfl : qpick.length = qn := hin.pick.u64Len
      obtain rfl : kargs = [b0, b1, b2, b3] := hb4
      simp only at c0 c5 c6 c7
      have HIn := Lib.hid hin
      have hff : kn ≤ 40 ∧ kfu ≤ 400 ∧ qpick.length ≤ 20 := by
        unfold Job.few at hfj
        simp at hfj
        omega
      obtain ⟨g1, g2, g3⟩ := hff
      clear hjj hin hfj
      have hxs := HX.out.lt
      go_wp2_with fail
      obtain ⟨wx, hwx⟩ : ∃ wx, wr.alloc (.cells #[.slice kA kn kc, .int .u64 b0, .int .u64 b1, .int .u64 b2, .int .u64 b3, .int .i64 kfu, .int .i64 kmw, .slice qA qpick.length qc] 28) = wx := ⟨_, rfl⟩
      have hbx : Below wr.heap.size wr wx := by rw [← hwx]; exact (Below.refl _ _).alloc (Nat.le_refl _) _
      rw [hwx]
      have HBx := Lib.hid (HB.out.trans (hbx.mono HB.out.size))
      have hjx := HIn.out.below (hbx.mono HB.out.size)
      refine (run_any w.heap.size nn sb mb2 s kcode kA kn kc [b0, b1, b2, b3] kfu kmw qpick qA qc _ (HS.out.more (bk_grown_below hbx)) HOK.out (hjx.code.more HBx.out.size) hjx.ok rfl hjx.argsOk ⟨hjx.fuel.1, by omega⟩ hjx.maxw (hjx.pick.more HBx.out.size) hjx.pickOk hjx.pcap (by omega) (by omega)).mono ?_
      rintro e W9 ⟨⟨nv, mb9, rfl, hst9, _, _, _⟩, hok9, hg9⟩
      have HS9 := Lib.hid hst9
      have HOK9 := Lib.hid hok9
      have HB9 := Lib.hid (HBx.out.grown hg9 HBx.out.size (fun k hk => by cases hk; exact HS.out.bs))
      have HX9 := Lib.hid ((HX.out.below hbx HX.out.lt).grown hg9 (by simpa using Nat.ne_of_gt HNsb.out))
      clear hst9 hok9 hg9 hjx hbx hwx
      go_wp2
      go_roundw
      case rel => exact ⟨k + 1, _, mb9, _, ⟨by omega, by go_num⟩, by omega, HS9.out, HOK9.out, HB9.out, HX9.out⟩
      case measure => simp [intOf]; omega
    · obtain rfl : n = k := by omega
      have HRun := Lib.hid (cloneRun (Wb := wr) (s := s) HJ.out HOK.out f3)
      have HNn : Hid (nn ≤ 100000000000) := by show _ ≤ _; omega
      have HF := Lib.hid (fuel_ok (s := s) (args := [a0, a1, a2, a3]) (fuel := fu) (maxw := mw) (pick := pick) HRI.out)
      obtain ⟨Ra, hRa⟩ : ∃ R, runP s code [a0, a1, a2, a3] fu mw pick = R := ⟨_, rfl⟩
      have HRRa := Lib.hid hRa
      rw [hRa] at HF
      have hfu := HJ.out.fuel.1
      have hmw := HJ.out.maxw
      simp only at hfu hmw
      obtain ⟨k0, k1, k2, k3, k4, k5, k6, k7⟩ := bk_job HX.out rfl
      simp only at k0 k5 k6 k7
      clear hRa hnn HFw

      have q0 : wr.drew.cell? ⟨w.heap.size, 0, none⟩ = some (.slice jA jn jc) := k0
      have q1 : wr.drew.cell? ⟨w.heap.size, 1, none⟩ = some (.int .u64 a0) := k1
      have q2 : wr.drew.cell? ⟨w.heap.size, 2, none⟩ = some (.int .u64 a1) := k2
      have q3 : wr.drew.cell? ⟨w.heap.size, 3, none⟩ = some (.int .u64 a2) := k3
      have q4 : wr.drew.cell? ⟨w.heap.size, 4, none⟩ = some (.int .u64 a3) := k4
      have q5 : wr.drew.cell? ⟨w.heap.size, 5, none⟩ = some (.int .i64 fu) := k5
      have q6 : wr.drew.cell? ⟨w.heap.size, 6, none⟩ = some (.int .i64 mw) := k6
      have q7 : wr.drew.cell? ⟨w.heap.size, 7, none⟩ = some (.slice pA pick.length pc) := k7
      go_upto_region 11 with fail
      go_cut [12] (fun v wx => ∃ (g : Nat) (nA : Option Addr) (nc : Nat), v = .pointer (some ⟨g, 0, none⟩) ∧ Hid (Bk wx g 38 (doneV Ra (.slice nA Ra.news.length nc)) ∧ wx.ownsRow 0 24 1 (.slice nA Ra.news.length nc) Ra.news.length (u64s Ra.news)) ∧ Hid (wr.grownBy wx none))
      case first =>
       as_aux_lemma =>
        go_region_held3 (fun w' => w'.cell? ⟨w.heap.size, 0, none⟩ = some (.slice jA jn jc) ∧ w'.cell? ⟨w.heap.size, 1, none⟩ = some (.int .u64 a0) ∧ w'.cell? ⟨w.heap.size, 2, none⟩ = some (.int .u64 a1) ∧ w'.cell? ⟨w.heap.size, 3, none⟩ = some (.int .u64 a2) ∧ w'.cell? ⟨w.heap.size, 4, none⟩ = some (.int .u64 a3) ∧ w'.cell? ⟨w.heap.size, 5, none⟩ = some (.int .i64 fu) ∧ w'.cell? ⟨w.heap.size, 6, none⟩ = some (.int .i64 mw) ∧ w'.cell? ⟨w.heap.size, 7, none⟩ = some (.slice pA pick.length pc))
          (first | with_reducible exact ⟨q0, q1, q2, q3, q4, q5, q6, q7⟩ | with_reducible exact ⟨k0, k1, k2, k3, k4, k5, k6, k7⟩ | go_keep)
          (first
            | (go_at_call 18
               refine (mclone_any w.heap.size nn sb mb2 s _ (by first | exact HS.out.more (grown_drew _ _) | exact HS.out.more ((World.grownBy_alloc _ _ _).trans (grown_drew _ _)))).mono ?_
               rintro e wn ⟨sbc, mbc, rfl, hst, hbn⟩
               have hbd : wr.grownBy wn none ∧ wr.heap.size ≤ sbc := by
                 first
                   | exact ⟨(grown_drew wr none).trans (bk_grown_below hbn), hst.bs⟩
                   | exact ⟨((World.grownBy_alloc wr _ none).trans (grown_drew _ none)).trans (bk_grown_below hbn), Nat.le_trans (World.grownBy_alloc wr _ none).size hst.bs⟩
               try (have hdn : Bk wn wr.heap.size 38 #[.int .i64 0, .int .u64 0, .int .i64 0, .int .i64 0, .slice none 0 0] := (Bk.new wr _ _).drew.below hbn (Bk.new wr _ _).drew.lt
                    have HDn := Lib.hid hdn
                    clear hdn)
               have HSb := Lib.hid hbd.2
               have HGd := Lib.hid hbd.1
               have HSt := Lib.hid hst
               obtain ⟨q0, q1, q2, q3, q4, q5, q6, q7⟩ := bk_job (HX.out.grown hbd.1 (fun e => by cases e)) rfl
               clear hst hbn hbd)
            | (go_at_call 17
               go_loud (
                  have h0 := HSt.out
                  have h1 := HGd.out
                  have h0a := fun o => h0.more (World.grownBy_alloc wn o none)
                  have h1a := fun o => h1.trans (World.grownBy_alloc wn o none)
                  refine (HRun.out _ _ nn sbc mbc (fu) (mw) wr HB.out (by with_reducible first | exact h0 | exact h0a _) (by with_reducible first | exact h1 | exact h1a _) HNn.out ⟨hfu, by omega⟩ hmw).mono ?_
                  rintro e wq ⟨nA, nc, rfl, hnw, hgr⟩
                  rw [HRRa.out] at hnw ⊢
                  simp only [doneV]
                  have hbr : wr.grownBy wq none := by
                    have hs := HSb.out
                    first
                      | (with_reducible have h2 := grown_none h1 hgr hs
                         exact h2)
                      | (with_reducible have h2 := grown_none (h1a _) hgr hs
                         exact h2)
                  have hsl : sbc < wn.heap.size := HSt.out.st.lt
                  have hsw : w.heap.size < wr.heap.size := HX.out.lt
                  have hww : wr.heap.size ≤ wn.heap.size := HGd.out.size
                  have hnw1 : w.heap.size ≠ wn.heap.size := by omega
                  have hnw2 : wn.heap.size ≠ w.heap.size := by omega
                  have hnw3 : w.heap.size ≠ wr.heap.size := by omega
                  have hnw4 : wr.heap.size ≠ w.heap.size := by omega
                  try (have hne : some sbc ≠ some wr.heap.size := fun e => BkS.ne_done HSt.out.st HDn.out (Option.some.inj e)
                       have h := HDn.out
                       with_reducible have h2 := h.grown hgr hne
                       obtain ⟨m0, m1, m2, m3, m4, f0, f1, f2, f3, f4⟩ := bk_done h2
                       have HDr := Lib.hid h2
                       clear h2 h hne)
                  try (have hne : some sbc ≠ some wn.heap.size := fun e => absurd (Option.some.inj e) (Nat.ne_of_lt hsl)
                       have h2 : Bk wq wn.heap.size 38 #[.int .i64 0, .int .u64 0, .int .i64 0, .int .i64 0, .slice none 0 0] := Bk.grown_new (by with_reducible assumption) hne
                       obtain ⟨m0, m1, m2, m3, m4, f0, f1, f2, f3, f4⟩ := bk_done h2
                       have HDr := Lib.hid h2
                       clear h2 hne)
                  have HNw := Lib.hid hnw
                  have HGr := Lib.hid hbr
                  obtain ⟨q0, q1, q2, q3, q4, q5, q6, q7⟩ := bk_job (HX.out.grown hbr (fun e => by cases e)) rfl
                  skip)))
        all_goals
          go_wp2_with fail
          go_meet
          first
            | exact ⟨_, nA, nc, rfl, ⟨HDr.out.five _ _ _ _ _, own_five HNw.out HDr.out _ _ _ _ _⟩, grown_five_none HGr.out (by first | exact HGd.out.size | exact Nat.le_refl _) _ _ _ _ _⟩
            | exact ⟨_, nA, nc, rfl, ⟨Bk.new _ _ _, HNw.out.alloc _⟩, HGr.out.trans (World.grownBy_alloc _ _ none)⟩
      case rest =>
        obtain ⟨g12, nA12, nc12, rfl, HD12, HG12⟩ := hcut
        have HS12 := Lib.hid (HS.out.more HG12.out)
        have HX12 := Lib.hid (HX.out.grown HG12.out (fun e => by cases e))
        have HB12 := Lib.hid (HB.out.grown HG12.out HB.out.size (fun k e => by cases e))
        clear k0 k1 k2 k3 k4 k5 k6 k7
        obtain ⟨k0, k1, k2, k3, k4, k5, k6, k7⟩ := bk_job HX12.out rfl
        obtain ⟨x0, x1, x2, x3, x4, _, _, _, _, _⟩ := bk_done HD12.out.1
        simp only at k0 k5 k6 k7
        by_cases h41 : Ra.code = 41
        · have he : (Ra.code == 41) = true := by simpa using h41
          have hst := HF.out.short h41
          go_wp2_with fail
          go_ret
          exact ⟨rfl, HB12.out⟩
        · have he : (Ra.code == 41) = false := by simpa using h41
          obtain ⟨s1, s2, s3⟩ := HF.out.one h41
          have t1 : ¬ (Ra.steps < 1) := by omega
          have t2 : ¬ (fu < Ra.steps) := by omega
          have t3 : ¬ (max mw 0 < Ra.writes) := by omega
          have d1 : decide (Ra.steps < 1) = false := decide_eq_false t1
          have d2 : decide (Ra.steps > fu) = false := decide_eq_false t2
          have d3 : decide (Ra.writes > max mw 0) = false := decide_eq_false t3
          go_wp2_with fail
          clear d1 d2 d3 t1 t2 t3 he k5 x0 x1 x3 x4
          have HS := HS12
          have HX := HX12
          have HB := HB12
          have xd1 := x2
          clear x2
          obtain ⟨m, hm⟩ : ∃ m, more % 64 = m := ⟨_, rfl⟩
          have hm0 : 0 ≤ m ∧ m ≤ 63 := by omega
          have hb63 : bits .and .i64 more 63 = m := by rw [i64_and63, hm]
          have hwr : IntKind.i64.wrap (Ra.steps + m) = Ra.steps + m := IntWalk.i64_in _ (by omega)
          have HRb := HF.out.more h41 m hm0.1
          have HRRb : Hid (runP s code [a0, a1, a2, a3] (Ra.steps + m) mw pick = Ra) := HRb
          clear hm HRb
          have q0 : wc.drew.cell? ⟨w.heap.size, 0, none⟩ = some (.slice jA jn jc) := k0
          have q1 : wc.drew.cell? ⟨w.heap.size, 1, none⟩ = some (.int .u64 a0) := k1
          have q2 : wc.drew.cell? ⟨w.heap.size, 2, none⟩ = some (.int .u64 a1) := k2
          have q3 : wc.drew.cell? ⟨w.heap.size, 3, none⟩ = some (.int .u64 a2) := k3
          have q4 : wc.drew.cell? ⟨w.heap.size, 4, none⟩ = some (.int .u64 a3) := k4
          have q6 : wc.drew.cell? ⟨w.heap.size, 6, none⟩ = some (.int .i64 mw) := k6
          have q7 : wc.drew.cell? ⟨w.heap.size, 7, none⟩ = some (.slice pA pick.length pc) := k7
          have yd1 : wc.drew.cell? ⟨g12, 2, none⟩ = some (.int .i64 Ra.steps) := xd1
          go_upto_region 16 with fail
          go_cut [13] (fun v wx => ∃ (g : Nat) (nA : Option Addr) (nc : Nat), v = .pointer (some ⟨g, 0, none⟩) ∧ Hid (Bk wx g 38 (doneV Ra (.slice nA Ra.news.length nc)) ∧ wx.ownsRow 0 24 1 (.slice nA Ra.news.length nc) Ra.news.length (u64s Ra.news)) ∧ Hid (wc.grownBy wx none))
          case first =>
           as_aux_lemma =>
            go_region_held3 (fun w' => w'.cell? ⟨w.heap.size, 0, none⟩ = some (.slice jA jn jc) ∧ w'.cell? ⟨w.heap.size, 1, none⟩ = some (.int .u64 a0) ∧ w'.cell? ⟨w.heap.size, 2, none⟩ = some (.int .u64 a1) ∧ w'.cell? ⟨w.heap.size, 3, none⟩ = some (.int .u64 a2) ∧ w'.cell? ⟨w.heap.size, 4, none⟩ = some (.int .u64 a3) ∧ w'.cell? ⟨w.heap.size, 6, none⟩ = some (.int .i64 mw) ∧ w'.cell? ⟨w.heap.size, 7, none⟩ = some (.slice pA pick.length pc) ∧ w'.cell? ⟨g12, 2, none⟩ = some (.int .i64 Ra.steps))
              (first | with_reducible exact ⟨q0, q1, q2, q3, q4, q6, q7, yd1⟩ | with_reducible exact ⟨k0, k1, k2, k3, k4, k6, k7, xd1⟩ | go_keep)
              (first
                | (go_at_call 18
                   refine (mclone_any w.heap.size nn sb mb2 s _ (by first | exact HS.out.more (grown_drew _ _) | exact HS.out.more ((World.grownBy_alloc _ _ _).trans (grown_drew _ _)))).mono ?_
                   rintro e wn ⟨sbc, mbc, rfl, hst, hbn⟩
                   have hbd : wc.grownBy wn none ∧ wc.heap.size ≤ sbc := by
                     first
                       | exact ⟨(grown_drew wc none).trans (bk_grown_below hbn), hst.bs⟩
                       | exact ⟨((World.grownBy_alloc wc _ none).trans (grown_drew _ none)).trans (bk_grown_below hbn), Nat.le_trans (World.grownBy_alloc wc _ none).size hst.bs⟩
                   try (have hdn : Bk wn wc.heap.size 38 #[.int .i64 0, .int .u64 0, .int .i64 0, .int .i64 0, .slice none 0 0] := (Bk.new wc _ _).drew.below hbn (Bk.new wc _ _).drew.lt
                        have HDn := Lib.hid hdn
                        clear hdn)
                   have HSb := Lib.hid hbd.2
                   have HGd := Lib.hid hbd.1
                   have HSt := Lib.hid hst
                   obtain ⟨q0, q1, q2, q3, q4, q5, q6, q7⟩ := bk_job (HX.out.grown hbd.1 (fun e => by cases e)) rfl
                   have yd1 : wn.cell? ⟨g12, 2, none⟩ = some (.int .i64 Ra.steps) := hbd.1.cell (a := ⟨g12, 2, none⟩) xd1 (by simp)
                   clear hst hbn hbd q5)
                | (go_at_call 17
                   go_loud (
                      have h0 := HSt.out
                      have h1 := HGd.out
                      have h0a := fun o => h0.more (World.grownBy_alloc wn o none)
                      have h1a := fun o => h1.trans (World.grownBy_alloc wn o none)
                      refine (HRun.out _ _ nn sbc mbc (Ra.steps + m) (mw) wc HB.out (by with_reducible first | exact h0 | exact h0a _) (by with_reducible first | exact h1 | exact h1a _) HNn.out ⟨by omega, by omega⟩ hmw).mono ?_
                      rintro e wq ⟨nA, nc, rfl, hnw, hgr⟩
                      rw [HRRb.out] at hnw ⊢
                      simp only [doneV]
                      have hbr : wc.grownBy wq none := by
                        have hs := HSb.out
                        first
                          | (with_reducible have h2 := grown_none h1 hgr hs
                             exact h2)
                          | (with_reducible have h2 := grown_none (h1a _) hgr hs
                             exact h2)
                      have hsl : sbc < wn.heap.size := HSt.out.st.lt
                      have hsw : w.heap.size < wc.heap.size := HX.out.lt
                      have hww : wc.heap.size ≤ wn.heap.size := HGd.out.size
                      have hnw1 : w.heap.size ≠ wn.heap.size := by omega
                      have hnw2 : wn.heap.size ≠ w.heap.size := by omega
                      have hnw3 : w.heap.size ≠ wc.heap.size := by omega
                      have hnw4 : wc.heap.size ≠ w.heap.size := by omega
                      have hlg : g12 < wc.heap.size := HD12.out.1.lt
                      have hng1 : g12 ≠ wn.heap.size := by omega
                      have hng2 : wn.heap.size ≠ g12 := by omega
                      have hng3 : g12 ≠ wc.heap.size := by omega
                      have hng4 : wc.heap.size ≠ g12 := by omega
                      try (have hne : some sbc ≠ some wc.heap.size := fun e => BkS.ne_done HSt.out.st HDn.out (Option.some.inj e)
                           have h := HDn.out
                           with_reducible have h2 := h.grown hgr hne
                           obtain ⟨m0, m1, m2, m3, m4, f0, f1, f2, f3, f4⟩ := bk_done h2
                           have HDr := Lib.hid h2
                           clear h2 h hne)
                      try (have hne : some sbc ≠ some wn.heap.size := fun e => absurd (Option.some.inj e) (Nat.ne_of_lt hsl)
                           have h2 : Bk wq wn.heap.size 38 #[.int .i64 0, .int .u64 0, .int .i64 0, .int .i64 0, .slice none 0 0] := Bk.grown_new (by with_reducible assumption) hne
                           obtain ⟨m0, m1, m2, m3, m4, f0, f1, f2, f3, f4⟩ := bk_done h2
                           have HDr := Lib.hid h2
                           clear h2 hne)
                      have HNw := Lib.hid hnw
                      have HGr := Lib.hid hbr
                      obtain ⟨q0, q1, q2, q3, q4, q5, q6, q7⟩ := bk_job (HX.out.grown hbr (fun e => by cases e)) rfl
                      have yd1 : wq.cell? ⟨g12, 2, none⟩ = some (.int .i64 Ra.steps) := hbr.cell (a := ⟨g12, 2, none⟩) xd1 (by simp)
                      skip)))
            all_goals
              go_wp2_with fail
              go_meet
              first
                | exact ⟨_, nA, nc, rfl, ⟨HDr.out.five _ _ _ _ _, own_five HNw.out HDr.out _ _ _ _ _⟩, grown_five_none HGr.out (by first | exact HGd.out.size | exact Nat.le_refl _) _ _ _ _ _⟩
                | exact ⟨_, nA, nc, rfl, ⟨Bk.new _ _ _, HNw.out.alloc _⟩, HGr.out.trans (World.grownBy_alloc _ _ none)⟩
          case rest =>
            obtain ⟨g13, nA13, nc13, rfl, HD13, HG13⟩ := hcut
            have HS := Lib.hid (HS.out.more HG13.out)
            have HX := Lib.hid (HX.out.grown HG13.out (fun e => by cases e))
            have HB := Lib.hid (HB.out.grown HG13.out HB.out.size (fun k e => by cases e))
            have HD12 := Lib.hid (And.intro (HD12.out.1.grown HG13.out (fun e => by cases e)) (own_grown HD12.out.2 HG13.out))
            clear k0 k1 k2 k3 k4 k6 k7 xd1
            obtain ⟨k0, k1, k2, k3, k4, k5, k6, k7⟩ := bk_job HX.out rfl
            simp only at k0 k5 k6 k7
            obtain ⟨x0, x1, x2, x3, x4, _, _, _, _, _⟩ := bk_done HD12.out.1
            have xd1 := x2
            obtain ⟨Rc, hRc⟩ : ∃ R, runP s code [a0, a1, a2, a3] (Ra.steps - 1) mw pick = R := ⟨_, rfl⟩
            have hRc41 := HF.out.less h41
            rw [hRc] at hRc41
            have HRc41 := Lib.hid hRc41
            clear hRc41
            have HRRc := Lib.hid hRc
            have hwr2 : IntKind.i64.wrap (Ra.steps - 1) = Ra.steps - 1 := IntWalk.i64_in _ (by omega)
            clear x0 x1 x2 x3 x4 k5 hRc hb63 hwr
            have q0 : wc.drew.cell? ⟨w.heap.size, 0, none⟩ = some (.slice jA jn jc) := k0
            have q1 : wc.drew.cell? ⟨w.heap.size, 1, none⟩ = some (.int .u64 a0) := k1
            have q2 : wc.drew.cell? ⟨w.heap.size, 2, none⟩ = some (.int .u64 a1) := k2
            have q3 : wc.drew.cell? ⟨w.heap.size, 3, none⟩ = some (.int .u64 a2) := k3
            have q4 : wc.drew.cell? ⟨w.heap.size, 4, none⟩ = some (.int .u64 a3) := k4
            have q6 : wc.drew.cell? ⟨w.heap.size, 6, none⟩ = some (.int .i64 mw) := k6
            have q7 : wc.drew.cell? ⟨w.heap.size, 7, none⟩ = some (.slice pA pick.length pc) := k7
            have yd1 : wc.drew.cell? ⟨g12, 2, none⟩ = some (.int .i64 Ra.steps) := xd1
            go_upto_region 17 with fail
            go_cut [14] (fun v wx => ∃ (g : Nat) (nA : Option Addr) (nc : Nat), v = .pointer (some ⟨g, 0, none⟩) ∧ Hid (Bk wx g 38 (doneV Rc (.slice nA Rc.news.length nc)) ∧ wx.ownsRow 0 24 1 (.slice nA Rc.news.length nc) Rc.news.length (u64s Rc.news)) ∧ Hid (wc.grownBy wx none))
            case first =>
             as_aux_lemma =>
              go_region_held3 (fun w' => w'.cell? ⟨w.heap.size, 0, none⟩ = some (.slice jA jn jc) ∧ w'.cell? ⟨w.heap.size, 1, none⟩ = some (.int .u64 a0) ∧ w'.cell? ⟨w.heap.size, 2, none⟩ = some (.int .u64 a1) ∧ w'.cell? ⟨w.heap.size, 3, none⟩ = some (.int .u64 a2) ∧ w'.cell? ⟨w.heap.size, 4, none⟩ = some (.int .u64 a3) ∧ w'.cell? ⟨w.heap.size, 6, none⟩ = some (.int .i64 mw) ∧ w'.cell? ⟨w.heap.size, 7, none⟩ = some (.slice pA pick.length pc) ∧ w'.cell? ⟨g12, 2, none⟩ = some (.int .i64 Ra.steps))
                (first | with_reducible exact ⟨q0, q1, q2, q3, q4, q6, q7, yd1⟩ | with_reducible exact ⟨k0, k1, k2, k3, k4, k6, k7, xd1⟩ | go_keep)
                (first
                  | (go_at_call 18
                     refine (mclone_any w.heap.size nn sb mb2 s _ (by first | exact HS.out.more (grown_drew _ _) | exact HS.out.more ((World.grownBy_alloc _ _ _).trans (grown_drew _ _)))).mono ?_
                     rintro e wn ⟨sbc, mbc, rfl, hst, hbn⟩
                     have hbd : wc.grownBy wn none ∧ wc.heap.size ≤ sbc := by
                       first
                         | exact ⟨(grown_drew wc none).trans (bk_grown_below hbn), hst.bs⟩
                         | exact ⟨((World.grownBy_alloc wc _ none).trans (grown_drew _ none)).trans (bk_grown_below hbn), Nat.le_trans (World.grownBy_alloc wc _ none).size hst.bs⟩
                     try (have hdn : Bk wn wc.heap.size 38 #[.int .i64 0, .int .u64 0, .int .i64 0, .int .i64 0, .slice none 0 0] := (Bk.new wc _ _).drew.below hbn (Bk.new wc _ _).drew.lt
                          have HDn := Lib.hid hdn
                          clear hdn)
                     have HSb := Lib.hid hbd.2
                     have HGd := Lib.hid hbd.1
                     have HSt := Lib.hid hst
                     obtain ⟨q0, q1, q2, q3, q4, q5, q6, q7⟩ := bk_job (HX.out.grown hbd.1 (fun e => by cases e)) rfl
                     have yd1 : wn.cell? ⟨g12, 2, none⟩ = some (.int .i64 Ra.steps) := hbd.1.cell (a := ⟨g12, 2, none⟩) xd1 (by simp)
                     clear hst hbn hbd q5)
                  | (go_at_call 17
                     go_loud (
                        have h0 := HSt.out
                        have h1 := HGd.out
                        have h0a := fun o => h0.more (World.grownBy_alloc wn o none)
                        have h1a := fun o => h1.trans (World.grownBy_alloc wn o none)
                        refine (HRun.out _ _ nn sbc mbc (Ra.steps - 1) (mw) wc HB.out (by with_reducible first | exact h0 | exact h0a _) (by with_reducible first | exact h1 | exact h1a _) HNn.out ⟨by omega, by omega⟩ hmw).mono ?_
                        rintro e wq ⟨nA, nc, rfl, hnw, hgr⟩
                        rw [HRRc.out] at hnw ⊢
                        simp only [doneV]
                        have hbr : wc.grownBy wq none := by
                          have hs := HSb.out
                          first
                            | (with_reducible have h2 := grown_none h1 hgr hs
                               exact h2)
                            | (with_reducible have h2 := grown_none (h1a _) hgr hs
                               exact h2)
                        have hsl : sbc < wn.heap.size := HSt.out.st.lt
                        have hsw : w.heap.size < wc.heap.size := HX.out.lt
                        have hww : wc.heap.size ≤ wn.heap.size := HGd.out.size
                        have hnw1 : w.heap.size ≠ wn.heap.size := by omega
                        have hnw2 : wn.heap.size ≠ w.heap.size := by omega
                        have hnw3 : w.heap.size ≠ wc.heap.size := by omega
                        have hnw4 : wc.heap.size ≠ w.heap.size := by omega
                        have hlg : g12 < wc.heap.size := HD12.out.1.lt
                        have hng1 : g12 ≠ wn.heap.size := by omega
                        have hng2 : wn.heap.size ≠ g12 := by omega
                        have hng3 : g12 ≠ wc.heap.size := by omega
                        have hng4 : wc.heap.size ≠ g12 := by omega
                        try (have hne : some sbc ≠ some wc.heap.size := fun e => BkS.ne_done HSt.out.st HDn.out (Option.some.inj e)
                             have h := HDn.out
                             with_reducible have h2 := h.grown hgr hne
                             obtain ⟨m0, m1, m2, m3, m4, f0, f1, f2, f3, f4⟩ := bk_done h2
                             have HDr := Lib.hid h2
                             clear h2 h hne)
                        try (have hne : some sbc ≠ some wn.heap.size := fun e => absurd (Option.some.inj e) (Nat.ne_of_lt hsl)
                             have h2 : Bk wq wn.heap.size 38 #[.int .i64 0, .int .u64 0, .int .i64 0, .int .i64 0, .slice none 0 0] := Bk.grown_new (by with_reducible assumption) hne
                             obtain ⟨m0, m1, m2, m3, m4, f0, f1, f2, f3, f4⟩ := bk_done h2
                             have HDr := Lib.hid h2
                             clear h2 hne)
                        have HNw := Lib.hid hnw
                        have HGr := Lib.hid hbr
                        obtain ⟨q0, q1, q2, q3, q4, q5, q6, q7⟩ := bk_job (HX.out.grown hbr (fun e => by cases e)) rfl
                        have yd1 : wq.cell? ⟨g12, 2, none⟩ = some (.int .i64 Ra.steps) := hbr.cell (a := ⟨g12, 2, none⟩) xd1 (by simp)
                        skip)))
              all_goals
                go_wp2_with fail
                go_meet
                first
                  | exact ⟨_, nA, nc, rfl, ⟨HDr.out.five _ _ _ _ _, own_five HNw.out HDr.out _ _ _ _ _⟩, grown_five_none HGr.out (by first | exact HGd.out.size | exact Nat.le_refl _) _ _ _ _ _⟩
                  | exact ⟨_, nA, nc, rfl, ⟨Bk.new _ _ _, HNw.out.alloc _⟩, HGr.out.trans (World.grownBy_alloc _ _ none)⟩
            case rest =>
              obtain ⟨g14, nA14, nc14, rfl, HD14, HG14⟩ := hcut
              have HS := Lib.hid (HS.out.more HG14.out)
              have HX := Lib.hid (HX.out.grown HG14.out (fun e => by cases e))
              have HB := Lib.hid (HB.out.grown HG14.out HB.out.size (fun k e => by cases e))
              have HD12 := Lib.hid (And.intro (HD12.out.1.grown HG14.out (fun e => by cases e)) (own_grown HD12.out.2 HG14.out))
              have HD13 := Lib.hid (And.intro (HD13.out.1.grown HG14.out (fun e => by cases e)) (own_grown HD13.out.2 HG14.out))
              clear k0 k1 k2 k3 k4 k6 k7 xd1
              obtain ⟨k0, k1, k2, k3, k4, k5, k6, k7⟩ := bk_job HX.out rfl
              simp only at k0 k5 k6 k7
              have HR12 : Hid (RdU wc wc.heap.size nA12 Ra.news.length Ra.news) := by
                obtain ⟨A', c', e, hr⟩ := Rd.of_own HD12.out.2
                cases e
                exact hr
              have HR13 : Hid (RdU wc wc.heap.size nA13 Ra.news.length Ra.news) := by
                obtain ⟨A', c', e, hr⟩ := Rd.of_own HD13.out.2
                cases e
                exact hr
              have e41 : (Rc.code != 41) = false := by rw [HRc41.out]; rfl
              obtain ⟨x0, x1, x2, x3, x4, _, _, _, _, _⟩ := bk_done HD12.out.1
              obtain ⟨y0, y1, y2, y3, y4, _, _, _, _, _⟩ := bk_done HD13.out.1
              obtain ⟨z0, z1, z2, z3, z4, _, _, _, _, _⟩ := bk_done HD14.out.1
              clear hwr2
              go_wp2_with fail
              refine (handles_any Ra.news Ra.news nA13 nA12 _ _ _ _ _ HR13.out HR12.out).mono ?_
              rintro e wh ⟨rfl, hbh⟩
              rw [decide_eq_true (rfl : Ra.news = Ra.news)]
              have hgh := bk_grown_below hbh
              have HS := Lib.hid (HS.out.more hgh)
              have HX := Lib.hid (HX.out.grown hgh (by simp))
              have HB := Lib.hid (HB.out.grown hgh HB.out.size (fun k e => by cases e))
              have HD12 := Lib.hid (And.intro (HD12.out.1.grown hgh (by simp)) (own_grown HD12.out.2 hgh))
              have HD14 := Lib.hid (HD14.out.1.grown hgh (by simp))
              clear hbh hgh HR12 HR13 x0 x1 x2 x3 x4 y0 y1 y2 y3 y4 z0 z1 z2 z3 z4 k0 k1 k2 k3 k4 k5 k6 k7
              obtain ⟨k0, k1, k2, k3, k4, k5, k6, k7⟩ := bk_job HX.out rfl
              simp only at k0 k5 k6 k7
              obtain ⟨x0, x1, x2, x3, x4, _, _, _, _, _⟩ := bk_done HD12.out.1
              obtain ⟨z0, z1, z2, z3, z4, _, _, _, _, _⟩ := bk_done HD14.out
              by_cases h42 : Ra.code = 42
              · have d42 : (Ra.code == 42) = true := by simpa using h42
                go_wp2_with fail
                go_ret
                exact ⟨rfl, HB.out⟩
              · have d42 : (Ra.code == 42) = false := by simpa using h42
                obtain ⟨m2, hm2⟩ : ∃ m, words % 64 = m := ⟨_, rfl⟩
                have hm20 : 0 ≤ m2 ∧ m2 ≤ 63 := by omega
                have hb63 : bits .and .i64 words 63 = m2 := by rw [i64_and63, hm2]
                obtain ⟨w0, w9⟩ := HF.out.nine
                have hwr3 : IntKind.i64.wrap (Ra.writes + m2) = Ra.writes + m2 := IntWalk.i64_in _ (by omega)
                have HRRd : Hid (runP s code [a0, a1, a2, a3] fu (Ra.writes + m2) pick = Ra) := HF.out.words h41 h42 m2 hm20.1
                have xd1 := x3
                go_upto_region 22 with fail
                clear hm2 d42 k6 z0 z1 z2 z3 z4 x0 x1 x2 x3 x4 e41
                have q0 : wh.drew.cell? ⟨w.heap.size, 0, none⟩ = some (.slice jA jn jc) := k0
                have q1 : wh.drew.cell? ⟨w.heap.size, 1, none⟩ = some (.int .u64 a0) := k1
                have q2 : wh.drew.cell? ⟨w.heap.size, 2, none⟩ = some (.int .u64 a1) := k2
                have q3 : wh.drew.cell? ⟨w.heap.size, 3, none⟩ = some (.int .u64 a2) := k3
                have q4 : wh.drew.cell? ⟨w.heap.size, 4, none⟩ = some (.int .u64 a3) := k4
                have q5 : wh.drew.cell? ⟨w.heap.size, 5, none⟩ = some (.int .i64 fu) := k5
                have q7 : wh.drew.cell? ⟨w.heap.size, 7, none⟩ = some (.slice pA pick.length pc) := k7
                have yd1 : wh.drew.cell? ⟨g12, 3, none⟩ = some (.int .i64 Ra.writes) := xd1
                go_upto_region 22 with fail
                go_cut [15] (fun v wx => ∃ (g : Nat) (nA : Option Addr) (nc : Nat), v = .pointer (some ⟨g, 0, none⟩) ∧ Hid (Bk wx g 38 (doneV Ra (.slice nA Ra.news.length nc)) ∧ wx.ownsRow 0 24 1 (.slice nA Ra.news.length nc) Ra.news.length (u64s Ra.news)) ∧ Hid (wh.grownBy wx none))
                case first =>
                 as_aux_lemma =>
                  go_region_held3 (fun w' => w'.cell? ⟨w.heap.size, 0, none⟩ = some (.slice jA jn jc) ∧ w'.cell? ⟨w.heap.size, 1, none⟩ = some (.int .u64 a0) ∧ w'.cell? ⟨w.heap.size, 2, none⟩ = some (.int .u64 a1) ∧ w'.cell? ⟨w.heap.size, 3, none⟩ = some (.int .u64 a2) ∧ w'.cell? ⟨w.heap.size, 4, none⟩ = some (.int .u64 a3) ∧ w'.cell? ⟨w.heap.size, 5, none⟩ = some (.int .i64 fu) ∧ w'.cell? ⟨w.heap.size, 7, none⟩ = some (.slice pA pick.length pc) ∧ w'.cell? ⟨g12, 3, none⟩ = some (.int .i64 Ra.writes))
                    (first | with_reducible exact ⟨q0, q1, q2, q3, q4, q5, q7, yd1⟩ | with_reducible exact ⟨k0, k1, k2, k3, k4, k5, k7, xd1⟩ | go_keep)
                    (first
                      | (go_at_call 18
                         refine (mclone_any w.heap.size nn sb mb2 s _ (by first | exact HS.out.more (grown_drew _ _) | exact HS.out.more ((World.grownBy_alloc _ _ _).trans (grown_drew _ _)))).mono ?_
                         rintro e wn ⟨sbc, mbc, rfl, hst, hbn⟩
                         have hbd : wh.grownBy wn none ∧ wh.heap.size ≤ sbc := by
                           first
                             | exact ⟨(grown_drew wh none).trans (bk_grown_below hbn), hst.bs⟩
                             | exact ⟨((World.grownBy_alloc wh _ none).trans (grown_drew _ none)).trans (bk_grown_below hbn), Nat.le_trans (World.grownBy_alloc wh _ none).size hst.bs⟩
                         try (have hdn : Bk wn wh.heap.size 38 #[.int .i64 0, .int .u64 0, .int .i64 0, .int .i64 0, .slice none 0 0] := (Bk.new wh _ _).drew.below hbn (Bk.new wh _ _).drew.lt
                              have HDn := Lib.hid hdn
                              clear hdn)
                         have HSb := Lib.hid hbd.2
                         have HGd := Lib.hid hbd.1
                         have HSt := Lib.hid hst
                         obtain ⟨q0, q1, q2, q3, q4, q5, q6, q7⟩ := bk_job (HX.out.grown hbd.1 (fun e => by cases e)) rfl
                         have yd1 : wn.cell? ⟨g12, 3, none⟩ = some (.int .i64 Ra.writes) := hbd.1.cell (a := ⟨g12, 3, none⟩) xd1 (by simp)
                         clear hst hbn hbd q6)
                      | (go_at_call 17
                         go_loud (
                            have h0 := HSt.out
                            have h1 := HGd.out
                            have h0a := fun o => h0.more (World.grownBy_alloc wn o none)
                            have h1a := fun o => h1.trans (World.grownBy_alloc wn o none)
                            refine (HRun.out _ _ nn sbc mbc (fu) (Ra.writes + m2) wh HB.out (by with_reducible first | exact h0 | exact h0a _) (by with_reducible first | exact h1 | exact h1a _) HNn.out ⟨hfu, by omega⟩ ⟨by omega, by omega⟩).mono ?_
                            rintro e wq ⟨nA, nc, rfl, hnw, hgr⟩
                            rw [HRRd.out] at hnw ⊢
                            simp only [doneV]
                            have hbr : wh.grownBy wq none := by
                              have hs := HSb.out
                              first
                                | (with_reducible have h2 := grown_none h1 hgr hs
                                   exact h2)
                                | (with_reducible have h2 := grown_none (h1a _) hgr hs
                                   exact h2)
                            have hsl : sbc < wn.heap.size := HSt.out.st.lt
                            have hsw : w.heap.size < wh.heap.size := HX.out.lt
                            have hww : wh.heap.size ≤ wn.heap.size := HGd.out.size
                            have hnw1 : w.heap.size ≠ wn.heap.size := by omega
                            have hnw2 : wn.heap.size ≠ w.heap.size := by omega
                            have hnw3 : w.heap.size ≠ wh.heap.size := by omega
                            have hnw4 : wh.heap.size ≠ w.heap.size := by omega
                            have hlg : g12 < wh.heap.size := HD12.out.1.lt
                            have hng1 : g12 ≠ wn.heap.size := by omega
                            have hng2 : wn.heap.size ≠ g12 := by omega
                            have hng3 : g12 ≠ wh.heap.size := by omega
                            have hng4 : wh.heap.size ≠ g12 := by omega
                            try (have hne : some sbc ≠ some wh.heap.size := fun e => BkS.ne_done HSt.out.st HDn.out (Option.some.inj e)
                                 have h := HDn.out
                                 with_reducible have h2 := h.grown hgr hne
                                 obtain ⟨m0, m1, m2, m3, m4, f0, f1, f2, f3, f4⟩ := bk_done h2
                                 have HDr := Lib.hid h2
                                 clear h2 h hne)
                            try (have hne : some sbc ≠ some wn.heap.size := fun e => absurd (Option.some.inj e) (Nat.ne_of_lt hsl)
                                 have h2 : Bk wq wn.heap.size 38 #[.int .i64 0, .int .u64 0, .int .i64 0, .int .i64 0, .slice none 0 0] := Bk.grown_new (by with_reducible assumption) hne
                                 obtain ⟨m0, m1, m2, m3, m4, f0, f1, f2, f3, f4⟩ := bk_done h2
                                 have HDr := Lib.hid h2
                                 clear h2 hne)
                            have HNw := Lib.hid hnw
                            have HGr := Lib.hid hbr
                            obtain ⟨q0, q1, q2, q3, q4, q5, q6, q7⟩ := bk_job (HX.out.grown hbr (fun e => by cases e)) rfl
                            have yd1 : wq.cell? ⟨g12, 3, none⟩ = some (.int .i64 Ra.writes) := hbr.cell (a := ⟨g12, 3, none⟩) xd1 (by simp)
                            skip)))
                  all_goals
                    go_wp2_with fail
                    go_meet
                    first
                      | exact ⟨_, nA, nc, rfl, ⟨HDr.out.five _ _ _ _ _, own_five HNw.out HDr.out _ _ _ _ _⟩, grown_five_none HGr.out (by first | exact HGd.out.size | exact Nat.le_refl _) _ _ _ _ _⟩
                      | exact ⟨_, nA, nc, rfl, ⟨Bk.new _ _ _, HNw.out.alloc _⟩, HGr.out.trans (World.grownBy_alloc _ _ none)⟩
                case rest =>
                  obtain ⟨g15, nA15, nc15, rfl, HD15, HG15⟩ := hcut
                  have HS := Lib.hid (HS.out.more HG15.out)
                  have HX := Lib.hid (HX.out.grown HG15.out (fun e => by cases e))
                  have HB := Lib.hid (HB.out.grown HG15.out HB.out.size (fun k e => by cases e))
                  have HD12 := Lib.hid (And.intro (HD12.out.1.grown HG15.out (fun e => by cases e)) (own_grown HD12.out.2 HG15.out))
                  clear k0 k1 k2 k3 k4 k5 k7 xd1
                  obtain ⟨k0, k1, k2, k3, k4, k5, k6, k7⟩ := bk_job HX.out rfl
                  simp only at k0 k5 k6 k7
                  obtain ⟨x0, x1, x2, x3, x4, _, _, _, _, _⟩ := bk_done HD12.out.1
                  obtain ⟨y0, y1, y2, y3, y4, _, _, _, _, _⟩ := bk_done HD15.out.1
                  clear hwr3 hb63
                  go_wp2_with fail
                  go_ret
                  exact ⟨rfl, HB.out⟩
end Go.Proofs.Ytddaeaimimdonaa
