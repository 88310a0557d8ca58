/-
  Chapter 6: the walk of ModelBlocks. Printed by gen/lawm5.py.
-/
import Derived.Test.YtddaeaimimdonaaLawM5P
import Derived.Test.YtddaeaimimdonaaLawM2
import Derived.Deep.DeepCutAuto
namespace Go.Proofs.Ytddaeaimimdonaa
open Go.RowKit Go.Maps
set_option linter.unusedVariables false

theorem u64_one {a : Int} (h : U64 a) : ∀ x ∈ [a], U64 x := fun x hx => by
  obtain rfl : x = a := by simpa using hx
  exact h
theorem u64_two {a b : Int} (ha : U64 a) (hb : U64 b) : ∀ x ∈ [a, b, 0, 0], U64 x := fun x hx => by
  simp at hx
  rcases hx with rfl | rfl | rfl
  · exact ha
  · exact hb
  · exact ⟨by decide, by decide⟩
structure Four (W : World) (sb tA pA gA dA : Nat) (p : Int) : Prop where
  t : RdI W W.heap.size (some ⟨tA, 0, none⟩) 2 takeL
  p : RdI W W.heap.size (some ⟨pA, 0, none⟩) 4 (putL p)
  g : RdI W W.heap.size (some ⟨gA, 0, none⟩) 4 getL
  d : RdI W W.heap.size (some ⟨dA, 0, none⟩) 3 dropL
  ne : tA ≠ sb ∧ pA ≠ sb ∧ gA ≠ sb ∧ dA ≠ sb
theorem Four.step {W W' : World} {sb tA pA gA dA : Nat} {p : Int} (h : Four W sb tA pA gA dA p) (hg : W.grownBy W' (some sb)) : Four W' sb tA pA gA dA p :=
  ⟨(h.t.but hg h.ne.1).more hg.size, (h.p.but hg h.ne.2.1).more hg.size, (h.g.but hg h.ne.2.2.1).more hg.size, (h.d.but hg h.ne.2.2.2).more hg.size, h.ne⟩
theorem Four.more {W W' : World} {sb tA pA gA dA : Nat} {p : Int} (h : Four W sb tA pA gA dA p) (hg : W.grownBy W' none) : Four W' sb tA pA gA dA p := h.step (hg.but _)
/-- A Done that is kept. -/
structure DoneAt (W : World) (g : Nat) (c v : Int) : Prop where
  bk : ∃ (st wr : Int) (nA : Option Addr) (nn nc : Nat), Bk W g 38 #[.int .i64 c, .int .u64 v, .int .i64 st, .int .i64 wr, .slice nA nn nc]
theorem DoneAt.grown {W W' : World} {g : Nat} {c v : Int} {row : Option Nat} (h : DoneAt W g c v) (hg : W.grownBy W' row) (hne : row ≠ some g) : DoneAt W' g c v := by
  obtain ⟨st, wr, nA, nn, nc, hb⟩ := h.bk
  exact ⟨st, wr, nA, nn, nc, hb.grown hg hne⟩
theorem DoneAt.step {W W' : World} {g sb mb : Nat} {roots : List Int} {c v : Int} (h : DoneAt W g c v) (hs : BkS W sb roots mb) (hg : W.grownBy W' (some sb)) : DoneAt W' g c v := by
  obtain ⟨st, wr, nA, nn, nc, hb⟩ := h.bk
  exact ⟨st, wr, nA, nn, nc, hb.grown hg (fun e => BkS.ne_done hs hb (Option.some.inj e))⟩
theorem DoneAt.cells {W : World} {g : Nat} {c v : Int} (h : DoneAt W g c v) : W.cell? ⟨g, 0, none⟩ = some (.int .i64 c) ∧ W.cell? ⟨g, 1, none⟩ = some (.int .u64 v) := by
  obtain ⟨st, wr, nA, nn, nc, hb⟩ := h.bk
  exact ⟨(hb.cell 0).trans rfl, (hb.cell 1).trans rfl⟩

set_option maxRecDepth 100000 in
set_option maxHeartbeats 8000000 in
theorem blocks_walk (x y a b v : Int) (w : World) (hx : 0 ≤ x ∧ x ≤ 18446744073709551615) (hy : 0 ≤ y ∧ y ≤ 18446744073709551615) (ha : -9223372036854775808 ≤ a ∧ a ≤ 9223372036854775807) (hb : -9223372036854775808 ≤ b ∧ b ≤ 9223372036854775807) (hv : 0 ≤ v ∧ v ≤ 18446744073709551615) :
    Calls Try.prog 4 #[.int .u64 x, .int .u64 y, .int .i64 a, .int .i64 b, .int .u64 v] w fun e w' => e = .returned (.bool true) ∧ Below w.heap.size w w' := by
  go_enter Try.func4, Try.ntmps4
  go_wp2_with fail
  refine (alive6_any _).mono ?_
  rintro e w1 ⟨rfl, hb1⟩
  have HB1 := Lib.hid hb1
  clear hb1
  go_wp2_with fail
  refine (mnew_any _).mono ?_
  rintro e wn ⟨sb, mb, rfl, hst, hbn⟩
  rw [i64_and7, i64_and7]
  obtain ⟨h, hh⟩ : ∃ h, 1 + x % 64 = h := ⟨_, rfl⟩
  obtain ⟨u, hu⟩ : ∃ u, 1 + y % 64 = u := ⟨_, rfl⟩
  obtain ⟨p, hp⟩ : ∃ p, a % 8 = p := ⟨_, rfl⟩
  obtain ⟨q, hq⟩ : ∃ q, b % 8 = q := ⟨_, rfl⟩
  have h1 : 1 ≤ h ∧ h ≤ 64 := by omega
  have u1 : 1 ≤ u ∧ u ≤ 64 := by omega
  have p1 : 0 ≤ p ∧ p < 8 := by omega
  have q1 : 0 ≤ q ∧ q < 8 := by omega
  rw [hh, hu, hp, hq]
  have hpw : IntKind.u64.wrap p = p := by rw [IntKind.wrap_u64]; omega
  have hqw : IntKind.u64.wrap q = q := by rw [IntKind.wrap_u64]; omega
  have HS : Hid (StIn wn w.heap.size 0 sb mb emptyS) := ⟨hst.st, hst.map, hst.roots, Nat.le_trans HB1.out.size hst.bs, Nat.le_trans HB1.out.size hst.bm⟩
  have HB := Lib.hid (HB1.out.trans (hbn.mono HB1.out.size))
  have HSb := Lib.hid (Nat.le_trans HB1.out.size hst.bs)
  clear hst hbn hh hu hp hq hx hy ha hb HB1
  go_upto_region 9 with fail
  obtain ⟨U1, hu0⟩ : ∃ V, wn.alloc (.cells #[.int .i64 15, .int .i64 1, .int .i64 0, .int .i64 0, .int .u64 0, .int .i64 20, .int .i64 1, .int .i64 0, .int .i64 0, .int .u64 0] 43) = V := ⟨_, rfl⟩
  have b0 : Below wn.heap.size wn U1 := by rw [← hu0]; exact (Below.refl _ _).alloc (Nat.le_refl _) _
  have z0 : U1.heap.size = wn.heap.size + 1 := by rw [← hu0]; simp
  have rt : RdI U1 U1.heap.size (some ⟨wn.heap.size, 0, none⟩) 2 takeL := by rw [← hu0]; exact (Rd.new wn _ _ (size := 5) (m := 2) rfl (by simp [maxLen])).more (by simp)
  rw [hu0]
  obtain ⟨U2, hu1⟩ : ∃ V, U1.alloc (.cells #[.int .i64 8, .int .i64 1, .int .i64 0, .int .i64 0, .int .u64 0, .int .i64 8, .int .i64 2, .int .i64 0, .int .i64 0, .int .u64 1, .int .i64 13, .int .i64 2, .int .i64 1, .int .i64 0, .int .u64 p, .int .i64 20, .int .i64 2, .int .i64 0, .int .i64 0, .int .u64 0] 43) = V := ⟨_, rfl⟩
  have b1 : Below U1.heap.size U1 U2 := by rw [← hu1]; exact (Below.refl _ _).alloc (Nat.le_refl _) _
  have z1 : U2.heap.size = U1.heap.size + 1 := by rw [← hu1]; simp
  have rp : RdI U2 U2.heap.size (some ⟨U1.heap.size, 0, none⟩) 4 (putL p) := by rw [← hu1]; exact (Rd.new U1 _ _ (size := 5) (m := 4) rfl (by simp [maxLen])).more (by simp)
  rw [hu1]
  have rt := (rt.below b1).more b1.size
  obtain ⟨U3, hu2⟩ : ∃ V, U2.alloc (.cells #[.int .i64 8, .int .i64 1, .int .i64 0, .int .i64 0, .int .u64 0, .int .i64 8, .int .i64 2, .int .i64 0, .int .i64 0, .int .u64 1, .int .i64 12, .int .i64 3, .int .i64 1, .int .i64 2, .int .u64 0, .int .i64 20, .int .i64 3, .int .i64 0, .int .i64 0, .int .u64 0] 43) = V := ⟨_, rfl⟩
  have b2 : Below U2.heap.size U2 U3 := by rw [← hu2]; exact (Below.refl _ _).alloc (Nat.le_refl _) _
  have z2 : U3.heap.size = U2.heap.size + 1 := by rw [← hu2]; simp
  have rg : RdI U3 U3.heap.size (some ⟨U2.heap.size, 0, none⟩) 4 getL := by rw [← hu2]; exact (Rd.new U2 _ _ (size := 5) (m := 4) rfl (by simp [maxLen])).more (by simp)
  rw [hu2]
  have rt := (rt.below b2).more b2.size
  have rp := (rp.below b2).more b2.size
  obtain ⟨V0, hu3⟩ : ∃ V, U3.alloc (.cells #[.int .i64 8, .int .i64 1, .int .i64 0, .int .i64 0, .int .u64 0, .int .i64 16, .int .i64 1, .int .i64 0, .int .i64 0, .int .u64 0, .int .i64 20, .int .i64 1, .int .i64 0, .int .i64 0, .int .u64 0] 43) = V := ⟨_, rfl⟩
  have b3 : Below U3.heap.size U3 V0 := by rw [← hu3]; exact (Below.refl _ _).alloc (Nat.le_refl _) _
  have z3 : V0.heap.size = U3.heap.size + 1 := by rw [← hu3]; simp
  have rd : RdI V0 V0.heap.size (some ⟨U3.heap.size, 0, none⟩) 3 dropL := by rw [← hu3]; exact (Rd.new U3 _ _ (size := 5) (m := 3) rfl (by simp [maxLen])).more (by simp)
  rw [hu3]
  have rt := (rt.below b3).more b3.size
  have rp := (rp.below b3).more b3.size
  have rg := (rg.below b3).more b3.size
  obtain ⟨dA, hdA⟩ : ∃ d, wn.heap.size + 1 + 1 + 1 = d := ⟨_, rfl⟩
  obtain ⟨gA, hgA⟩ : ∃ d, wn.heap.size + 1 + 1 = d := ⟨_, rfl⟩
  obtain ⟨pA, hpA⟩ : ∃ d, wn.heap.size + 1 = d := ⟨_, rfl⟩
  obtain ⟨tA, htA⟩ : ∃ d, wn.heap.size = d := ⟨_, rfl⟩
  have hsl := HS.out.st.lt
  have HF : Hid (Four V0 sb tA pA gA dA p) := by
    refine ⟨?_, ?_, ?_, ?_, by omega, by omega, by omega, by omega⟩
    · rw [htA] at rt; exact rt
    · rw [show U1.heap.size = pA by omega] at rp; exact rp
    · rw [show U2.heap.size = gA by omega] at rg; exact rg
    · rw [show U3.heap.size = dA by omega] at rd; exact rd
  rw [hdA, hgA, hpA, htA]
  have hg0 : wn.grownBy V0 none := ((bk_grown_below b0).trans (bk_grown_below b1)).trans ((bk_grown_below b2).trans (bk_grown_below b3))
  have HS := Lib.hid (HS.out.more hg0)
  have HB := Lib.hid (HB.out.grown hg0 HB.out.size (fun k e => by cases e))
  have HOK := Lib.hid emptyS_ok
  clear hg0 hdA hgA hpA htA z0 z1 z2 z3 b0 b1 b2 b3 rt rp rg rd hu0 hu1 hu2 hu3 hsl
  have hhU : U64 h := ⟨by omega, by omega⟩
  have huU : U64 u := ⟨by omega, by omega⟩
  have hqU : U64 q := ⟨by omega, by omega⟩
  have hvU : U64 v := hv
  have z8 : zero8.getD q.toNat 0 = 0 := by
    have : q = 0 ∨ q = 1 ∨ q = 2 ∨ q = 3 ∨ q = 4 ∨ q = 5 ∨ q = 6 ∨ q = 7 := by omega
    rcases this with rfl | rfl | rfl | rfl | rfl | rfl | rfl | rfl <;> rfl
  obtain ⟨E, hE⟩ : ∃ E, (zero8.set p.toNat v).getD q.toNat 0 = E := ⟨_, rfl⟩
  have hE1 : p = q → E = v := by
    rintro rfl
    rw [← hE]
    have : p = 0 ∨ p = 1 ∨ p = 2 ∨ p = 3 ∨ p = 4 ∨ p = 5 ∨ p = 6 ∨ p = 7 := by omega
    rcases this with rfl | rfl | rfl | rfl | rfl | rfl | rfl | rfl <;> rfl
  have hE2 : p ≠ q → E = 0 := by
    intro hn
    rw [← hE, List.getD_eq_getElem?_getD, List.getElem?_set_ne (by omega), ← List.getD_eq_getElem?_getD, z8]
  have HE1 := Lib.hid hE1
  have HE2 := Lib.hid hE2
  have HE := Lib.hid hE
  have HZ8 := Lib.hid z8
  have Hhh := Lib.hid hhU
  have Huu := Lib.hid huU
  clear hE1 hE2 hE z8
  go_wp2_with fail
  obtain ⟨X0, hX0⟩ : ∃ X, V0.alloc (.cells #[.int .u64 h] 24) = X := ⟨_, rfl⟩
  have hgx : V0.grownBy X0 none := by rw [← hX0]; exact World.grownBy_alloc _ _ _
  have rp : RdU X0 X0.heap.size (some ⟨V0.heap.size, 0, none⟩) 1 [h] := by rw [← hX0]; exact (rdU_new V0 [h] _ rfl (by simp [maxLen])).more (by simp)
  rw [hX0]
  have HS := Lib.hid (HS.out.more hgx)
  have HF := Lib.hid (HF.out.more hgx)
  have HB := Lib.hid (HB.out.grown hgx HB.out.size (fun k e => by cases e))
  clear hX0
  refine (comes_run (take_new (s := emptyS) (h := h) rfl h1.1 h1.2) HS.out HOK.out HF.out.t takeL_ok rfl (u64_lits rfl) (by decide) rp (u64_one hhU) (by simp) (by simp) (by decide)).mono ?_
  rintro e Y0 ⟨mb1, st0, wr0, nA0, nn0, nc0, rfl, hs, hok, hgr⟩
  obtain ⟨s1, hs1⟩ : ∃ s, (⟨emptyS.roots, upd emptyS.blocks h (some zero8)⟩ : MSt) = s := ⟨_, rfl⟩
  rw [hs1] at hs hok
  have HB := Lib.hid (HB.out.grown hgr HB.out.size (fun k e => by cases e; exact HSb.out))
  have HF := Lib.hid (HF.out.step hgr)
  have HS := Lib.hid hs
  have HOK := Lib.hid hok
  clear hs hok hgr hgx rp
  have HC1 : Hid (s1.blocks h = some zero8) := by show _ = _; rw [← hs1]; simp [upd]
  have HN1 : Hid (∀ k, k ≠ h → s1.blocks k = none) := by show ∀ k, _ → _; intro k e; rw [← hs1]; simp [upd, e, emptyS]
  clear hs1
  go_upto_region 10 with fail
  obtain ⟨V1, hV⟩ : ∃ V, Y0.alloc (.cells #[.int .i64 0, .int .u64 h, .int .i64 st0, .int .i64 wr0, .slice nA0 nn0 nc0] 38) = V := ⟨_, rfl⟩
  have hgv : Y0.grownBy V1 none := by rw [← hV]; exact World.grownBy_alloc _ _ _
  have HD0 := Lib.hid (show DoneAt V1 Y0.heap.size 0 h from ⟨st0, wr0, nA0, nn0, nc0, by rw [← hV]; exact Bk.new _ _ _⟩)
  rw [hV]
  have HS := Lib.hid (HS.out.more hgv)
  have HF := Lib.hid (HF.out.more hgv)
  have HB := Lib.hid (HB.out.grown hgv HB.out.size (fun k e => by cases e))
  clear hV hgv
  go_wp2_with fail
  obtain ⟨X1, hX1⟩ : ∃ X, V1.alloc (.cells #[.int .u64 h] 24) = X := ⟨_, rfl⟩
  have hgx : V1.grownBy X1 none := by rw [← hX1]; exact World.grownBy_alloc _ _ _
  have rp : RdU X1 X1.heap.size (some ⟨V1.heap.size, 0, none⟩) 1 [h] := by rw [← hX1]; exact (rdU_new V1 [h] _ rfl (by simp [maxLen])).more (by simp)
  rw [hX1]
  have HS := Lib.hid (HS.out.more hgx)
  have HF := Lib.hid (HF.out.more hgx)
  have HB := Lib.hid (HB.out.grown hgx HB.out.size (fun k e => by cases e))
  have HD0 := Lib.hid (HD0.out.grown hgx (by simp))
  clear hX1
  refine (comes_run (take_old (s := s1) (h := h) HC1.out) HS.out HOK.out HF.out.t takeL_ok rfl (u64_lits rfl) (by decide) rp (u64_one hhU) (by simp) (by simp) (by decide)).mono ?_
  rintro e Y1 ⟨mb2, st1, wr1, nA1, nn1, nc1, rfl, hs, hok, hgr⟩
  have HB := Lib.hid (HB.out.grown hgr HB.out.size (fun k e => by cases e; exact HSb.out))
  have HF := Lib.hid (HF.out.step hgr)
  have HD0 := Lib.hid (HD0.out.step HS.out.st hgr)
  have HS := Lib.hid hs
  have HOK := Lib.hid hok
  clear hs hok hgr hgx rp
  go_upto_region 11 with fail
  obtain ⟨V2, hV⟩ : ∃ V, Y1.alloc (.cells #[.int .i64 43, .int .u64 0, .int .i64 st1, .int .i64 wr1, .slice nA1 nn1 nc1] 38) = V := ⟨_, rfl⟩
  have hgv : Y1.grownBy V2 none := by rw [← hV]; exact World.grownBy_alloc _ _ _
  have HD1 := Lib.hid (show DoneAt V2 Y1.heap.size 43 0 from ⟨st1, wr1, nA1, nn1, nc1, by rw [← hV]; exact Bk.new _ _ _⟩)
  rw [hV]
  have HS := Lib.hid (HS.out.more hgv)
  have HF := Lib.hid (HF.out.more hgv)
  have HB := Lib.hid (HB.out.grown hgv HB.out.size (fun k e => by cases e))
  have HD0 := Lib.hid (HD0.out.grown hgv (by simp))
  clear hV hgv
  have HG2 : Hid (Comes s1 getL [h, q, 0, 0] 9 9 [] 0 0 s1) := by
    have h := get_ok (s := s1) (h := h) (at_ := q) (maxw := 9) HC1.out q1
    rw [HZ8.out] at h
    exact h
  go_wp2_with fail
  refine (comes_run (HG2.out) HS.out HOK.out HF.out.g getL_ok rfl (u64_two hhU hqU) (by decide) (Rd.nil _ _ _ _) (u64_lits rfl) (by simp) (by simp) (by decide)).mono ?_
  rintro e Y2 ⟨mb3, st2, wr2, nA2, nn2, nc2, rfl, hs, hok, hgr⟩
  have HB := Lib.hid (HB.out.grown hgr HB.out.size (fun k e => by cases e; exact HSb.out))
  have HF := Lib.hid (HF.out.step hgr)
  have HD0 := Lib.hid (HD0.out.step HS.out.st hgr)
  have HD1 := Lib.hid (HD1.out.step HS.out.st hgr)
  have HS := Lib.hid hs
  have HOK := Lib.hid hok
  clear hs hok hgr
  go_upto_region 12 with fail
  obtain ⟨V3, hV⟩ : ∃ V, Y2.alloc (.cells #[.int .i64 0, .int .u64 0, .int .i64 st2, .int .i64 wr2, .slice nA2 nn2 nc2] 38) = V := ⟨_, rfl⟩
  have hgv : Y2.grownBy V3 none := by rw [← hV]; exact World.grownBy_alloc _ _ _
  have HD2 := Lib.hid (show DoneAt V3 Y2.heap.size 0 0 from ⟨st2, wr2, nA2, nn2, nc2, by rw [← hV]; exact Bk.new _ _ _⟩)
  rw [hV]
  have HS := Lib.hid (HS.out.more hgv)
  have HF := Lib.hid (HF.out.more hgv)
  have HB := Lib.hid (HB.out.grown hgv HB.out.size (fun k e => by cases e))
  have HD0 := Lib.hid (HD0.out.grown hgv (by simp))
  have HD1 := Lib.hid (HD1.out.grown hgv (by simp))
  clear hV hgv
  go_wp2_with fail
  refine (comes_run (put_ok (s := s1) (h := h) (v := v) (w := p) HC1.out p1) HS.out HOK.out HF.out.p (putL_ok p1) rfl (u64_two hhU hvU) (by decide) (Rd.nil _ _ _ _) (u64_lits rfl) (by simp) (by simp) (by decide)).mono ?_
  rintro e Y3 ⟨mb4, st3, wr3, nA3, nn3, nc3, rfl, hs, hok, hgr⟩
  obtain ⟨s2, hs2⟩ : ∃ s, (⟨s1.roots, upd s1.blocks h (some (zero8.set p.toNat v))⟩ : MSt) = s := ⟨_, rfl⟩
  rw [hs2] at hs hok
  have HB := Lib.hid (HB.out.grown hgr HB.out.size (fun k e => by cases e; exact HSb.out))
  have HF := Lib.hid (HF.out.step hgr)
  have HD0 := Lib.hid (HD0.out.step HS.out.st hgr)
  have HD1 := Lib.hid (HD1.out.step HS.out.st hgr)
  have HD2 := Lib.hid (HD2.out.step HS.out.st hgr)
  have HS := Lib.hid hs
  have HOK := Lib.hid hok
  clear hs hok hgr
  have HC2 : Hid (s2.blocks h = some (zero8.set p.toNat v)) := by show _ = _; rw [← hs2]; simp [upd]
  have HN2 : Hid (∀ k, k ≠ h → s2.blocks k = none) := by show ∀ k, _ → _; intro k e; rw [← hs2]; simp [upd, e, HN1.out k e]
  clear hs2
  go_upto_region 13 with fail
  obtain ⟨V4, hV⟩ : ∃ V, Y3.alloc (.cells #[.int .i64 0, .int .u64 v, .int .i64 st3, .int .i64 wr3, .slice nA3 nn3 nc3] 38) = V := ⟨_, rfl⟩
  have hgv : Y3.grownBy V4 none := by rw [← hV]; exact World.grownBy_alloc _ _ _
  have HD3 := Lib.hid (show DoneAt V4 Y3.heap.size 0 v from ⟨st3, wr3, nA3, nn3, nc3, by rw [← hV]; exact Bk.new _ _ _⟩)
  rw [hV]
  have HS := Lib.hid (HS.out.more hgv)
  have HF := Lib.hid (HF.out.more hgv)
  have HB := Lib.hid (HB.out.grown hgv HB.out.size (fun k e => by cases e))
  have HD0 := Lib.hid (HD0.out.grown hgv (by simp))
  have HD1 := Lib.hid (HD1.out.grown hgv (by simp))
  have HD2 := Lib.hid (HD2.out.grown hgv (by simp))
  clear hV hgv
  have HG4 : Hid (Comes s2 getL [h, q, 0, 0] 9 0 [] 0 E s2) := by
    have h := get_ok (s := s2) (h := h) (at_ := q) (maxw := 0) HC2.out q1
    rw [HE.out] at h
    exact h
  go_wp2_with fail
  refine (comes_run (HG4.out) HS.out HOK.out HF.out.g getL_ok rfl (u64_two hhU hqU) (by decide) (Rd.nil _ _ _ _) (u64_lits rfl) (by simp) (by simp) (by decide)).mono ?_
  rintro e Y4 ⟨mb5, st4, wr4, nA4, nn4, nc4, rfl, hs, hok, hgr⟩
  have HB := Lib.hid (HB.out.grown hgr HB.out.size (fun k e => by cases e; exact HSb.out))
  have HF := Lib.hid (HF.out.step hgr)
  have HD0 := Lib.hid (HD0.out.step HS.out.st hgr)
  have HD1 := Lib.hid (HD1.out.step HS.out.st hgr)
  have HD2 := Lib.hid (HD2.out.step HS.out.st hgr)
  have HD3 := Lib.hid (HD3.out.step HS.out.st hgr)
  have HS := Lib.hid hs
  have HOK := Lib.hid hok
  clear hs hok hgr
  go_upto_region 14 with fail
  obtain ⟨V5, hV⟩ : ∃ V, Y4.alloc (.cells #[.int .i64 0, .int .u64 E, .int .i64 st4, .int .i64 wr4, .slice nA4 nn4 nc4] 38) = V := ⟨_, rfl⟩
  have hgv : Y4.grownBy V5 none := by rw [← hV]; exact World.grownBy_alloc _ _ _
  have HD4 := Lib.hid (show DoneAt V5 Y4.heap.size 0 E from ⟨st4, wr4, nA4, nn4, nc4, by rw [← hV]; exact Bk.new _ _ _⟩)
  rw [hV]
  have HS := Lib.hid (HS.out.more hgv)
  have HF := Lib.hid (HF.out.more hgv)
  have HB := Lib.hid (HB.out.grown hgv HB.out.size (fun k e => by cases e))
  have HD0 := Lib.hid (HD0.out.grown hgv (by simp))
  have HD1 := Lib.hid (HD1.out.grown hgv (by simp))
  have HD2 := Lib.hid (HD2.out.grown hgv (by simp))
  have HD3 := Lib.hid (HD3.out.grown hgv (by simp))
  clear hV hgv
  go_wp2_with fail
  refine (comes_run (get_far (s := s2) (h := h) (maxw := 0) HC2.out) HS.out HOK.out HF.out.g getL_ok rfl (u64_two hhU ⟨by decide, by decide⟩) (by decide) (Rd.nil _ _ _ _) (u64_lits rfl) (by simp) (by simp) (by decide)).mono ?_
  rintro e Y5 ⟨mb6, st5, wr5, nA5, nn5, nc5, rfl, hs, hok, hgr⟩
  have HB := Lib.hid (HB.out.grown hgr HB.out.size (fun k e => by cases e; exact HSb.out))
  have HF := Lib.hid (HF.out.step hgr)
  have HD0 := Lib.hid (HD0.out.step HS.out.st hgr)
  have HD1 := Lib.hid (HD1.out.step HS.out.st hgr)
  have HD2 := Lib.hid (HD2.out.step HS.out.st hgr)
  have HD3 := Lib.hid (HD3.out.step HS.out.st hgr)
  have HD4 := Lib.hid (HD4.out.step HS.out.st hgr)
  have HS := Lib.hid hs
  have HOK := Lib.hid hok
  clear hs hok hgr
  go_upto_region 15 with fail
  obtain ⟨V6, hV⟩ : ∃ V, Y5.alloc (.cells #[.int .i64 44, .int .u64 0, .int .i64 st5, .int .i64 wr5, .slice nA5 nn5 nc5] 38) = V := ⟨_, rfl⟩
  have hgv : Y5.grownBy V6 none := by rw [← hV]; exact World.grownBy_alloc _ _ _
  have HD5 := Lib.hid (show DoneAt V6 Y5.heap.size 44 0 from ⟨st5, wr5, nA5, nn5, nc5, by rw [← hV]; exact Bk.new _ _ _⟩)
  rw [hV]
  have HS := Lib.hid (HS.out.more hgv)
  have HF := Lib.hid (HF.out.more hgv)
  have HB := Lib.hid (HB.out.grown hgv HB.out.size (fun k e => by cases e))
  have HD0 := Lib.hid (HD0.out.grown hgv (by simp))
  have HD1 := Lib.hid (HD1.out.grown hgv (by simp))
  have HD2 := Lib.hid (HD2.out.grown hgv (by simp))
  have HD3 := Lib.hid (HD3.out.grown hgv (by simp))
  have HD4 := Lib.hid (HD4.out.grown hgv (by simp))
  clear hV hgv
  obtain ⟨cg, vg, hCg, hcg⟩ : ∃ c v, Comes s2 getL [u, 0, 0, 0] 9 0 [] c v s2 ∧ (c == 44) = (u != h) := by
    by_cases hu : u = h
    · exact ⟨_, _, get_ok (s := s2) (h := u) (at_ := 0) (maxw := 0) (by rw [hu]; exact HC2.out) (by decide), by simp [hu]⟩
    · exact ⟨_, _, get_none (s := s2) (h := u) (at_ := 0) (maxw := 0) (HN2.out _ hu), by simp [hu]⟩
  have HCg := Lib.hid hCg
  have hcg2 : ((cg == 44) != (u != h)) = false := by rw [hcg]; simp
  clear hCg
  go_wp2_with fail
  refine (comes_run (HCg.out) HS.out HOK.out HF.out.g getL_ok rfl (u64_two huU ⟨by decide, by decide⟩) (by decide) (Rd.nil _ _ _ _) (u64_lits rfl) (by simp) (by simp) (by decide)).mono ?_
  rintro e Y6 ⟨mb7, st6, wr6, nA6, nn6, nc6, rfl, hs, hok, hgr⟩
  have HB := Lib.hid (HB.out.grown hgr HB.out.size (fun k e => by cases e; exact HSb.out))
  have HF := Lib.hid (HF.out.step hgr)
  have HD0 := Lib.hid (HD0.out.step HS.out.st hgr)
  have HD1 := Lib.hid (HD1.out.step HS.out.st hgr)
  have HD2 := Lib.hid (HD2.out.step HS.out.st hgr)
  have HD3 := Lib.hid (HD3.out.step HS.out.st hgr)
  have HD4 := Lib.hid (HD4.out.step HS.out.st hgr)
  have HD5 := Lib.hid (HD5.out.step HS.out.st hgr)
  have HS := Lib.hid hs
  have HOK := Lib.hid hok
  clear hs hok hgr
  go_upto_region 16 with fail
  obtain ⟨V7, hV⟩ : ∃ V, Y6.alloc (.cells #[.int .i64 cg, .int .u64 vg, .int .i64 st6, .int .i64 wr6, .slice nA6 nn6 nc6] 38) = V := ⟨_, rfl⟩
  have hgv : Y6.grownBy V7 none := by rw [← hV]; exact World.grownBy_alloc _ _ _
  have HD6 := Lib.hid (show DoneAt V7 Y6.heap.size cg vg from ⟨st6, wr6, nA6, nn6, nc6, by rw [← hV]; exact Bk.new _ _ _⟩)
  rw [hV]
  have HS := Lib.hid (HS.out.more hgv)
  have HF := Lib.hid (HF.out.more hgv)
  have HB := Lib.hid (HB.out.grown hgv HB.out.size (fun k e => by cases e))
  have HD0 := Lib.hid (HD0.out.grown hgv (by simp))
  have HD1 := Lib.hid (HD1.out.grown hgv (by simp))
  have HD2 := Lib.hid (HD2.out.grown hgv (by simp))
  have HD3 := Lib.hid (HD3.out.grown hgv (by simp))
  have HD4 := Lib.hid (HD4.out.grown hgv (by simp))
  have HD5 := Lib.hid (HD5.out.grown hgv (by simp))
  clear hV hgv
  go_upto_if 103 with fail
  go_cut [23] (fun z wx => z = .int .u64 E ∧ Hid (V7.grownBy wx none))
  case first =>
    by_cases hpq : p = q
    · have e := HE1.out hpq
      have d : (p == q) = true := by simpa using hpq
      go_wp2_with fail
      go_meet
      exact ⟨by rw [e], World.grownBy.refl _ _⟩
    · have e := HE2.out hpq
      have d : (p == q) = false := by simpa using hpq
      go_wp2_with fail
      go_meet
      exact ⟨by rw [e], World.grownBy.refl _ _⟩
  case rest =>
  obtain ⟨rfl, hgv⟩ := hcut
  have hgv := hgv.out
  have HS := Lib.hid (HS.out.more hgv)
  have HF := Lib.hid (HF.out.more hgv)
  have HB := Lib.hid (HB.out.grown hgv HB.out.size (fun k e => by cases e))
  have HD0 := Lib.hid (HD0.out.grown hgv (by simp))
  obtain ⟨k0, l0⟩ := HD0.out.cells
  have HD1 := Lib.hid (HD1.out.grown hgv (by simp))
  obtain ⟨k1, l1⟩ := HD1.out.cells
  have HD2 := Lib.hid (HD2.out.grown hgv (by simp))
  obtain ⟨k2, l2⟩ := HD2.out.cells
  have HD3 := Lib.hid (HD3.out.grown hgv (by simp))
  obtain ⟨k3, l3⟩ := HD3.out.cells
  have HD4 := Lib.hid (HD4.out.grown hgv (by simp))
  obtain ⟨k4, l4⟩ := HD4.out.cells
  have HD5 := Lib.hid (HD5.out.grown hgv (by simp))
  obtain ⟨k5, l5⟩ := HD5.out.cells
  have HD6 := Lib.hid (HD6.out.grown hgv (by simp))
  obtain ⟨k6, l6⟩ := HD6.out.cells
  clear hgv
  go_wp2_with fail
  refine (comes_run (drop_ok (s := s2) (h := h) HC2.out) HS.out HOK.out HF.out.d dropL_ok rfl (u64_two hhU ⟨by decide, by decide⟩) (by decide) (Rd.nil _ _ _ _) (u64_lits rfl) (by simp) (by simp) (by decide)).mono ?_
  rintro e Y7 ⟨mb8, st7, wr7, nA7, nn7, nc7, rfl, hs, hok, hgr⟩
  obtain ⟨s3, hs3⟩ : ∃ s, (⟨s2.roots, upd s2.blocks h none⟩ : MSt) = s := ⟨_, rfl⟩
  rw [hs3] at hs hok
  have HB := Lib.hid (HB.out.grown hgr HB.out.size (fun k e => by cases e; exact HSb.out))
  have HF := Lib.hid (HF.out.step hgr)
  have HS := Lib.hid hs
  have HOK := Lib.hid hok
  clear hs hok hgr
  have HN3 : Hid (∀ k, s3.blocks k = none) := by
    show ∀ k, _
    intro k
    rw [← hs3]
    by_cases e : k = h
    · simp [upd, e]
    · simp [upd, e, HN2.out k e]
  clear hs3 k0 k1 k2 k3 k4 k5 k6 l0 l1 l2 l3 l4 l5 l6 hcg hcg2
  go_upto_region 22 with fail
  obtain ⟨V8, hV⟩ : ∃ V, Y7.alloc (.cells #[.int .i64 0, .int .u64 h, .int .i64 st7, .int .i64 wr7, .slice nA7 nn7 nc7] 38) = V := ⟨_, rfl⟩
  have hgv : Y7.grownBy V8 none := by rw [← hV]; exact World.grownBy_alloc _ _ _
  have HD7 := Lib.hid (show DoneAt V8 Y7.heap.size 0 h from ⟨st7, wr7, nA7, nn7, nc7, by rw [← hV]; exact Bk.new _ _ _⟩)
  rw [hV]
  have HS := Lib.hid (HS.out.more hgv)
  have HF := Lib.hid (HF.out.more hgv)
  have HB := Lib.hid (HB.out.grown hgv HB.out.size (fun k e => by cases e))
  clear hV hgv
  go_wp2_with fail
  refine (comes_run (drop_none (s := s3) (h := h) (HN3.out h)) HS.out HOK.out HF.out.d dropL_ok rfl (u64_two hhU ⟨by decide, by decide⟩) (by decide) (Rd.nil _ _ _ _) (u64_lits rfl) (by simp) (by simp) (by decide)).mono ?_
  rintro e Y8 ⟨mb9, st8, wr8, nA8, nn8, nc8, rfl, hs, hok, hgr⟩
  have HB := Lib.hid (HB.out.grown hgr HB.out.size (fun k e => by cases e; exact HSb.out))
  have HF := Lib.hid (HF.out.step hgr)
  have HD7 := Lib.hid (HD7.out.step HS.out.st hgr)
  have HS := Lib.hid hs
  have HOK := Lib.hid hok
  clear hs hok hgr
  go_upto_region 23 with fail
  obtain ⟨V9, hV⟩ : ∃ V, Y8.alloc (.cells #[.int .i64 44, .int .u64 0, .int .i64 st8, .int .i64 wr8, .slice nA8 nn8 nc8] 38) = V := ⟨_, rfl⟩
  have hgv : Y8.grownBy V9 none := by rw [← hV]; exact World.grownBy_alloc _ _ _
  have HD8 := Lib.hid (show DoneAt V9 Y8.heap.size 44 0 from ⟨st8, wr8, nA8, nn8, nc8, by rw [← hV]; exact Bk.new _ _ _⟩)
  rw [hV]
  have HS := Lib.hid (HS.out.more hgv)
  have HF := Lib.hid (HF.out.more hgv)
  have HB := Lib.hid (HB.out.grown hgv HB.out.size (fun k e => by cases e))
  have HD7 := Lib.hid (HD7.out.grown hgv (by simp))
  clear hV hgv
  go_wp2_with fail
  refine (comes_run (put_none (s := s3) (h := h) (v := v) (w := p) (HN3.out h) p1) HS.out HOK.out HF.out.p (putL_ok p1) rfl (u64_two hhU hvU) (by decide) (Rd.nil _ _ _ _) (u64_lits rfl) (by simp) (by simp) (by decide)).mono ?_
  rintro e Y9 ⟨mb10, st9, wr9, nA9, nn9, nc9, rfl, hs, hok, hgr⟩
  have HB := Lib.hid (HB.out.grown hgr HB.out.size (fun k e => by cases e; exact HSb.out))
  have HF := Lib.hid (HF.out.step hgr)
  have HD7 := Lib.hid (HD7.out.step HS.out.st hgr)
  have HD8 := Lib.hid (HD8.out.step HS.out.st hgr)
  have HS := Lib.hid hs
  have HOK := Lib.hid hok
  clear hs hok hgr
  go_upto_region 24 with fail
  obtain ⟨V10, hV⟩ : ∃ V, Y9.alloc (.cells #[.int .i64 44, .int .u64 0, .int .i64 st9, .int .i64 wr9, .slice nA9 nn9 nc9] 38) = V := ⟨_, rfl⟩
  have hgv : Y9.grownBy V10 none := by rw [← hV]; exact World.grownBy_alloc _ _ _
  have HD9 := Lib.hid (show DoneAt V10 Y9.heap.size 44 0 from ⟨st9, wr9, nA9, nn9, nc9, by rw [← hV]; exact Bk.new _ _ _⟩)
  rw [hV]
  have HS := Lib.hid (HS.out.more hgv)
  have HF := Lib.hid (HF.out.more hgv)
  have HB := Lib.hid (HB.out.grown hgv HB.out.size (fun k e => by cases e))
  have HD7 := Lib.hid (HD7.out.grown hgv (by simp))
  have HD8 := Lib.hid (HD8.out.grown hgv (by simp))
  clear hV hgv
  obtain ⟨k7, l7⟩ := HD7.out.cells
  obtain ⟨k8, l8⟩ := HD8.out.cells
  obtain ⟨k9, l9⟩ := HD9.out.cells
  go_wp2_with fail
  refine (handles_one _ _ sb _ s3 _ HS.out (by decide) (fun ss h => by
    rw [show ss = [] from List.eq_nil_iff_forall_not_mem.2 fun x hx => by
      have := ((h.2 x).1 hx).2
      rw [HN3.out x] at this
      cases this]
    decide)).mono ?_
  rintro e w8 ⟨vv, ss, rfl, hS, _, hrow, hb8⟩
  obtain rfl : ss = [] := List.eq_nil_iff_forall_not_mem.2 fun x hx => by
    have := ((hS.2 x).1 hx).2
    rw [HN3.out x] at this
    cases this
  obtain ⟨A8, c8, rfl, _⟩ := Rd.of_own hrow
  have HB8 := Lib.hid (HB.out.trans (hb8.mono HB.out.size))
  clear hS hrow hb8
  go_wp2
  go_ret
  exact ⟨rfl, HB8.out⟩
end Go.Proofs.Ytddaeaimimdonaa
