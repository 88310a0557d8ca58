/-
  Chapter 19: the document's example: tumblerlaw19.alive is true. Printed by gen/lkh.py.
-/
import Derived.Test.YtddaeaimimdonaaLkG
namespace Go.Proofs.Ytddaeaimimdonaa
open Go.RowKit Go.Maps
set_option linter.unusedVariables false

set_option maxRecDepth 100000 in
set_option maxHeartbeats 8000000 in
theorem alive19_any (w : World) : Calls Try.prog 29 #[] w fun e w' => e = .returned (.bool true) ∧ Below w.heap.size w w' := by
  go_enter Try.func29, Try.ntmps29
  go_upto_region 4 with fail
  obtain ⟨V1, h1⟩ : ∃ V, w.alloc (.cells #[.int .i64 8, .int .i64 1, .int .i64 0, .int .i64 0, .int .u64 0, .int .i64 18, .int .i64 1, .int .i64 0, .int .i64 0, .int .u64 3, .int .i64 20, .int .i64 1, .int .i64 0, .int .i64 0, .int .u64 0, .int .i64 21, .int .i64 0, .int .i64 0, .int .i64 0, .int .u64 7] 43) = V := ⟨_, rfl⟩
  rw [h1]
  obtain ⟨V2, h2⟩ : ∃ V, V1.alloc (.cells #[.slice (some ⟨w.heap.size, 0, none⟩) 4 4, .int .i64 2, .int .u64 2, .int .i64 0, .int .u64 0, .int .i64 0, .int .u64 0, .int .i64 0, .int .u64 0] 80) = V := ⟨_, rfl⟩
  rw [h2]
  obtain ⟨V3, h3⟩ : ∃ V, V2.alloc (.cells #[.int .i64 8, .int .i64 1, .int .i64 0, .int .i64 0, .int .u64 0, .int .i64 2, .int .i64 1, .int .i64 1, .int .i64 1, .int .u64 0, .int .i64 20, .int .i64 1, .int .i64 0, .int .i64 0, .int .u64 0] 43) = V := ⟨_, rfl⟩
  rw [h3]
  obtain ⟨b0, hb0⟩ : ∃ b, w.heap.size = b := ⟨_, rfl⟩
  have z1 : V1.heap.size = b0 + 1 := by rw [← h1]; simp [hb0]
  have z2 : V2.heap.size = b0 + 1 + 1 := by rw [← h2]; simp [z1]
  have z3 : V3.heap.size = b0 + 1 + 1 + 1 := by rw [← h3]; simp [z2]
  rw [hb0]
  obtain ⟨V4, h4⟩ : ∃ V, V3.alloc (.cells #[.slice (some ⟨b0 + 1 + 1, 0, none⟩) 3 3, .int .i64 1, .int .u64 0, .int .i64 0, .int .u64 0, .int .i64 0, .int .u64 0, .int .i64 0, .int .u64 0] 80) = V := ⟨_, rfl⟩
  rw [h4]
  have z4 : V4.heap.size = b0 + 1 + 1 + 1 + 1 := by rw [← h4]; simp [z3]
  have b12 : Below V1.heap.size V1 V2 := by rw [← h2]; exact (Below.refl _ _).alloc (Nat.le_refl _) _
  have b23 : Below V2.heap.size V2 V3 := by rw [← h3]; exact (Below.refl _ _).alloc (Nat.le_refl _) _
  have b34 : Below V3.heap.size V3 V4 := by rw [← h4]; exact (Below.refl _ _).alloc (Nat.le_refl _) _
  have b01 : Below w.heap.size w V1 := by rw [← h1]; exact (Below.refl _ _).alloc (Nat.le_refl _) _
  have ra : RdI V1 V1.heap.size (some ⟨b0, 0, none⟩) 4 liveA := by rw [← h1, ← hb0]; exact (Rd.new w _ _ (size := 5) (m := 4) rfl (by simp [maxLen])).more (by simp)
  have rb : RdI V3 V3.heap.size (some ⟨b0 + 1 + 1, 0, none⟩) 3 liveB := by rw [← h3, ← z2]; exact (Rd.new V2 _ _ (size := 5) (m := 3) rfl (by simp [maxLen])).more (by simp)
  have kp : Bk V2 (b0 + 1) 80 #[.slice (some ⟨b0, 0, none⟩) 4 4, .int .i64 2, .int .u64 2, .int .i64 0, .int .u64 0, .int .i64 0, .int .u64 0, .int .i64 0, .int .u64 0] := by rw [← h2, ← z1, ← hb0]; exact Bk.new _ _ _
  have kq : Bk V4 (b0 + 1 + 1 + 1) 80 #[.slice (some ⟨b0 + 1 + 1, 0, none⟩) 3 3, .int .i64 1, .int .u64 0, .int .i64 0, .int .u64 0, .int .i64 0, .int .u64 0, .int .i64 0, .int .u64 0] := by rw [← h4, ← z3]; exact Bk.new _ _ _
  have ra4 : RdI V4 V4.heap.size (some ⟨b0, 0, none⟩) 4 liveA := (((((ra.below b12).more b12.size).below b23).more b23.size).below b34).more b34.size
  have rb4 : RdI V4 V4.heap.size (some ⟨b0 + 1 + 1, 0, none⟩) 3 liveB := (rb.below b34).more b34.size
  have HP4 : Hid (Bk V4 (b0 + 1) 80 #[.slice (some ⟨b0, 0, none⟩) 4 4, .int .i64 2, .int .u64 2, .int .i64 0, .int .u64 0, .int .i64 0, .int .u64 0, .int .i64 0, .int .u64 0]) := (kp.below b23 (by omega)).below b34 (by omega)
  have HQ4 := Lib.hid kq
  have HB4 : Hid (Below w.heap.size w V4) := by
    have h14 := (b12.trans (b23.mono b12.size)).trans (b34.mono (Nat.le_trans b12.size b23.size))
    exact b01.trans (h14.mono b01.size)
  have HA4 := Lib.hid ra4
  have HC4 := Lib.hid rb4
  clear h1 h2 h3 h4 z1 z2 z3 z4 ra rb kp kq ra4 rb4 b01 b12 b23 b34
  have p0 : V4.cell? ⟨b0 + 1, 0, none⟩ = some (.slice (some ⟨b0, 0, none⟩) 4 4) := (HP4.out.cell 0).trans rfl
  have p1 : V4.cell? ⟨b0 + 1, 1, none⟩ = some (.int .i64 2) := (HP4.out.cell 1).trans rfl
  have p2 : V4.cell? ⟨b0 + 1, 2, none⟩ = some (.int .u64 2) := (HP4.out.cell 2).trans rfl
  have p3 : V4.cell? ⟨b0 + 1, 3, none⟩ = some (.int .i64 0) := (HP4.out.cell 3).trans rfl
  have p4 : V4.cell? ⟨b0 + 1, 4, none⟩ = some (.int .u64 0) := (HP4.out.cell 4).trans rfl
  have p5 : V4.cell? ⟨b0 + 1, 5, none⟩ = some (.int .i64 0) := (HP4.out.cell 5).trans rfl
  have p6 : V4.cell? ⟨b0 + 1, 6, none⟩ = some (.int .u64 0) := (HP4.out.cell 6).trans rfl
  have p7 : V4.cell? ⟨b0 + 1, 7, none⟩ = some (.int .i64 0) := (HP4.out.cell 7).trans rfl
  have p8 : V4.cell? ⟨b0 + 1, 8, none⟩ = some (.int .u64 0) := (HP4.out.cell 8).trans rfl
  have q0 : V4.cell? ⟨b0 + 1 + 1 + 1, 0, none⟩ = some (.slice (some ⟨b0 + 1 + 1, 0, none⟩) 3 3) := (HQ4.out.cell 0).trans rfl
  have q1 : V4.cell? ⟨b0 + 1 + 1 + 1, 1, none⟩ = some (.int .i64 1) := (HQ4.out.cell 1).trans rfl
  have q2 : V4.cell? ⟨b0 + 1 + 1 + 1, 2, none⟩ = some (.int .u64 0) := (HQ4.out.cell 2).trans rfl
  have q3 : V4.cell? ⟨b0 + 1 + 1 + 1, 3, none⟩ = some (.int .i64 0) := (HQ4.out.cell 3).trans rfl
  have q4 : V4.cell? ⟨b0 + 1 + 1 + 1, 4, none⟩ = some (.int .u64 0) := (HQ4.out.cell 4).trans rfl
  have q5 : V4.cell? ⟨b0 + 1 + 1 + 1, 5, none⟩ = some (.int .i64 0) := (HQ4.out.cell 5).trans rfl
  have q6 : V4.cell? ⟨b0 + 1 + 1 + 1, 6, none⟩ = some (.int .u64 0) := (HQ4.out.cell 6).trans rfl
  have q7 : V4.cell? ⟨b0 + 1 + 1 + 1, 7, none⟩ = some (.int .i64 0) := (HQ4.out.cell 7).trans rfl
  have q8 : V4.cell? ⟨b0 + 1 + 1 + 1, 8, none⟩ = some (.int .u64 0) := (HQ4.out.cell 8).trans rfl
  go_wp2_with fail
  obtain ⟨V5, h5⟩ : ∃ V, V4.alloc (.cells #[.slice (some ⟨b0, 0, none⟩) 4 4, .int .i64 2, .int .u64 2, .int .i64 0, .int .u64 0, .int .i64 0, .int .u64 0, .int .i64 0, .int .u64 0, .slice (some ⟨b0 + 1 + 1, 0, none⟩) 3 3, .int .i64 1, .int .u64 0, .int .i64 0, .int .u64 0, .int .i64 0, .int .u64 0, .int .i64 0, .int .u64 0] 80) = V := ⟨_, rfl⟩
  have hb5 : Below V4.heap.size V4 V5 := by rw [← h5]; exact (Below.refl _ _).alloc (Nat.le_refl _) _
  have hrp : RdP V5 V5.heap.size (some ⟨V4.heap.size, 0, none⟩) 2 [⟨some ⟨b0, 0, none⟩, 4, 4, liveA, argsA⟩, ⟨some ⟨b0 + 1 + 1, 0, none⟩, 3, 3, liveB, argsB⟩] := by
    refine ⟨?_, rfl, fun j hj => ?_⟩
    · rw [← h5]
      exact (Rd.new V4 _ _ (size := 9) (m := 2) rfl (by simp [maxLen])).more (by simp)
    · simp at hj
      rcases hj with rfl | rfl
      · exact ⟨(HA4.out.below hb5).more hb5.size, liveA_ok, Nat.le_refl _, rfl, argsA_ok⟩
      · exact ⟨(HC4.out.below hb5).more hb5.size, liveB_ok, Nat.le_refl _, rfl, argsB_ok⟩
  rw [h5]
  refine (join_is (m := 10) (live_join _ _ _ _ _ _) rfl hrp).mono ?_
  rintro e W6 ⟨v, rfl, hown, hb6⟩
  obtain ⟨Aj, cj, rfl, hrj⟩ := Rd.of_own hown
  have h46 := hb5.trans (hb6.mono hb5.size)
  have HQ6 := Lib.hid (HQ4.out.below h46 HQ4.out.lt)
  have HC6 := Lib.hid ((HC4.out.below h46).more h46.size)
  have HB6 := Lib.hid (HB4.out.trans (h46.mono HB4.out.size))
  have HJ6 : Hid (RdI W6 W6.heap.size Aj 10 liveJ) := hrj
  clear h5 hb5 hrp hown hb6 hrj h46 p0 q0 p1 q1 p2 q2 p3 q3 p4 q4 p5 q5 p6 q6 p7 q7 p8 q8

  have q0 : W6.cell? ⟨b0 + 1 + 1 + 1, 0, none⟩ = some (.slice (some ⟨b0 + 1 + 1, 0, none⟩) 3 3) := (HQ6.out.cell 0).trans rfl
  have q1 : W6.cell? ⟨b0 + 1 + 1 + 1, 1, none⟩ = some (.int .i64 1) := (HQ6.out.cell 1).trans rfl
  have q2 : W6.cell? ⟨b0 + 1 + 1 + 1, 2, none⟩ = some (.int .u64 0) := (HQ6.out.cell 2).trans rfl
  have q3 : W6.cell? ⟨b0 + 1 + 1 + 1, 3, none⟩ = some (.int .i64 0) := (HQ6.out.cell 3).trans rfl
  have q4 : W6.cell? ⟨b0 + 1 + 1 + 1, 4, none⟩ = some (.int .u64 0) := (HQ6.out.cell 4).trans rfl
  have q5 : W6.cell? ⟨b0 + 1 + 1 + 1, 5, none⟩ = some (.int .i64 0) := (HQ6.out.cell 5).trans rfl
  have q6 : W6.cell? ⟨b0 + 1 + 1 + 1, 6, none⟩ = some (.int .u64 0) := (HQ6.out.cell 6).trans rfl
  have q7 : W6.cell? ⟨b0 + 1 + 1 + 1, 7, none⟩ = some (.int .i64 0) := (HQ6.out.cell 7).trans rfl
  have q8 : W6.cell? ⟨b0 + 1 + 1 + 1, 8, none⟩ = some (.int .u64 0) := (HQ6.out.cell 8).trans rfl
  go_wp2_with fail
  obtain ⟨V7, h7⟩ : ∃ V, W6.alloc (.cells #[.slice (some ⟨b0 + 1 + 1, 0, none⟩) 3 3, .int .i64 1, .int .u64 0, .int .i64 0, .int .u64 0, .int .i64 0, .int .u64 0, .int .i64 0, .int .u64 0] 80) = V := ⟨_, rfl⟩
  have hb7 : Below W6.heap.size W6 V7 := by rw [← h7]; exact (Below.refl _ _).alloc (Nat.le_refl _) _
  have hrp : RdP V7 V7.heap.size (some ⟨W6.heap.size, 0, none⟩) 1 [⟨some ⟨b0 + 1 + 1, 0, none⟩, 3, 3, liveB, argsB⟩] := by
    refine ⟨?_, rfl, fun j hj => ?_⟩
    · rw [← h7]
      exact (Rd.new W6 _ _ (size := 9) (m := 1) rfl (by simp [maxLen])).more (by simp)
    · simp at hj
      subst hj
      exact ⟨(HC6.out.below hb7).more hb7.size, liveB_ok, Nat.le_refl _, rfl, argsB_ok⟩
  rw [h7]
  refine (join_is (m := 0) (live_alone _ _ _) rfl hrp).mono ?_
  rintro e W8 ⟨v, rfl, hown, hb8⟩
  have h68 := hb7.trans (hb8.mono hb7.size)
  have HB8 := Lib.hid (HB6.out.trans (h68.mono HB6.out.size))
  have HJ8 := Lib.hid ((HJ6.out.below h68).more h68.size)
  clear h7 hb7 hrp hown hb8 h68 q0 q1 q2 q3 q4 q5 q6 q7 q8
  go_wp2_with fail
  refine (mnew_any _).mono ?_
  rintro e W9 ⟨sb, mb, rfl, hst, hb9⟩
  have HS9 := Lib.hid hst
  have HB9 := Lib.hid (HB8.out.trans (hb9.mono HB8.out.size))
  obtain ⟨jb, jo, rfl, hjb, _⟩ := HJ8.out.at_ (by decide)
  have HJ9 := Lib.hid ((HJ8.out.below hb9).more hb9.size)
  have HNe : Hid (jb ≠ sb) := by have := hst.bs; show _ ≠ _; omega
  have HSw := Lib.hid (Nat.le_trans HB8.out.size hst.bs)
  clear hst hb9 hjb
  go_wp2_with fail
  refine (run_any W8.heap.size 0 sb mb emptyS liveJ _ 10 cj [0, 0, 9, 0] 50 0 [] _ _ _ HS9.out emptyS_ok HJ9.out liveJ_ok rfl (u64_lits rfl) (by decide) (by decide) (Rd.nil _ _ _ _) (u64_lits rfl) (by decide) (by decide) (by decide)).mono ?_
  rintro e W10 ⟨⟨nv, mb2, rfl, hst, hown, _, _⟩, hok, hg⟩
  obtain ⟨An, cn, rfl, _⟩ := Rd.of_own hown
  have HS10 : Hid (StIn W10 W8.heap.size 50 sb mb2 st19) := hst
  have HO10 : Hid (SOk st19) := hok
  have HJ10 := Lib.hid ((HJ9.out.but hg HNe.out).more hg.size)
  have HB10 := Lib.hid (HB9.out.grown hg HB9.out.size (fun k e => by cases e; exact HSw.out))
  obtain ⟨R, hR⟩ : ∃ R, runP emptyS liveJ [0, 0, 9, 0] 50 0 [] = R := ⟨_, rfl⟩
  have hc : R.code = 0 := by rw [← hR]; exact run19a_code
  have hv : R.val = 18 := by rw [← hR]; exact run19a_val
  rw [hR]
  unfold doneV
  rw [hc, hv]
  clear hst hok hown hg hR hc hv
  go_upto_region 10 with fail
  obtain ⟨V11, h11⟩ : ∃ V, W10.alloc (.cells #[.int .i64 0, .int .u64 18, .int .i64 R.steps, .int .i64 R.writes, .slice An R.news.length cn] 38) = V := ⟨_, rfl⟩
  have hg11 : W10.grownBy V11 none := by rw [← h11]; exact World.grownBy_alloc _ _ _
  have HD11 : Hid (Bk V11 W10.heap.size 38 #[.int .i64 0, .int .u64 18, .int .i64 R.steps, .int .i64 R.writes, .slice An R.news.length cn]) := by show Bk _ _ _ _; rw [← h11]; exact Bk.new _ _ _
  rw [h11]
  have HS11 := Lib.hid (HS10.out.more hg11)
  have HJ11 := Lib.hid ((HJ10.out.but (hg11.but _) HNe.out).more hg11.size)
  have HB11 := Lib.hid (HB10.out.grown hg11 HB10.out.size (fun k e => by cases e))
  clear h11 hg11
  go_wp2_with fail
  refine (run_any W8.heap.size 50 sb mb2 st19 liveJ _ 10 cj [0, 0, 0, 0] 50 0 [] _ _ _ HS11.out HO10.out HJ11.out liveJ_ok rfl (u64_lits rfl) (by decide) (by decide) (Rd.nil _ _ _ _) (u64_lits rfl) (by decide) (by decide) (by decide)).mono ?_
  rintro e W12 ⟨⟨nv, mb3, rfl, hst, hown, _, _⟩, hok, hg⟩
  obtain ⟨Am, cm, rfl, _⟩ := Rd.of_own hown
  have HJ12 := Lib.hid ((HJ11.out.but hg HNe.out).more hg.size)
  have HB12 := Lib.hid (HB11.out.grown hg HB11.out.size (fun k e => by cases e; exact HSw.out))
  have HD12 := Lib.hid (HD11.out.grown hg (fun e => BkS.ne_done HS11.out.st HD11.out (Option.some.inj e)))
  obtain ⟨T, hT⟩ : ∃ R, runP st19 liveJ [0, 0, 0, 0] 50 0 [] = R := ⟨_, rfl⟩
  have hc : T.code = 40 := by rw [← hT]; exact run19b_code
  have hv : T.val = 7 := by rw [← hT]; exact run19b_val
  rw [hT]
  unfold doneV
  rw [hc, hv]
  clear hst hok hown hg hT hc hv
  go_upto_region 11 with fail
  obtain ⟨V13, h13⟩ : ∃ V, W12.alloc (.cells #[.int .i64 40, .int .u64 7, .int .i64 T.steps, .int .i64 T.writes, .slice Am T.news.length cm] 38) = V := ⟨_, rfl⟩
  have hb13 : Below W12.heap.size W12 V13 := by rw [← h13]; exact (Below.refl _ _).alloc (Nat.le_refl _) _
  have HE13 : Hid (Bk V13 W12.heap.size 38 #[.int .i64 40, .int .u64 7, .int .i64 T.steps, .int .i64 T.writes, .slice Am T.news.length cm]) := by show Bk _ _ _ _; rw [← h13]; exact Bk.new _ _ _
  rw [h13]
  have HJ13 := Lib.hid ((HJ12.out.below hb13).more hb13.size)
  have HB13 := Lib.hid (HB12.out.trans (hb13.mono HB12.out.size))
  have HD13 := Lib.hid (HD12.out.below hb13 HD12.out.lt)
  clear h13 hb13
  go_wp2_with fail
  refine (right_any liveJ _ 10 cj _ HJ13.out liveJ_ok).mono ?_
  rintro e W14 ⟨rfl, hb14⟩
  rw [liveJ_right]
  have HB14 := Lib.hid (HB13.out.trans (hb14.mono HB13.out.size))
  have HD14 := Lib.hid (HD13.out.below hb14 HD13.out.lt)
  have HE14 := Lib.hid (HE13.out.below hb14 HE13.out.lt)
  obtain ⟨x0, x1, x2, x3, x4, _, _, _, _, _⟩ := bk_done HD14.out
  obtain ⟨y0, y1, y2, y3, y4, _, _, _, _, _⟩ := bk_done HE14.out
  clear hb14
  go_wp2
  go_ret
  exact ⟨rfl, HB14.out⟩
end Go.Proofs.Ytddaeaimimdonaa
