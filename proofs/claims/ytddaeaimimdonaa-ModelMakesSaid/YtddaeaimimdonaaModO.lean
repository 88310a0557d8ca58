/-
  Chapter 6: the document's example: tumblerlaw06.alive is true.
-/
import Derived.Test.YtddaeaimimdonaaModN
namespace Go.Proofs.Ytddaeaimimdonaa
open Go.RowKit Go.Maps
set_option linter.unusedVariables false

def live6 : List Ins := [⟨15, 1, 0, 0, 0⟩, ⟨8, 2, 0, 0, 1⟩, ⟨13, 2, 1, 0, 3⟩, ⟨10, 1, 3, 0, 0⟩, ⟨20, 2, 0, 0, 0⟩]
def live6b : List Ins := [⟨21, 0, 0, 0, 9⟩]
def run6a : MRun := runP emptyS live6 [0, 7, 0, 0] 10 11 [5]
def st6 : MSt := afterP emptyS run6a
theorem run6a_code : run6a.code = 0 := by kernel_rfl
theorem run6a_done (nv : Value) : doneV run6a nv = #[.int .i64 0, .int .u64 7, .int .i64 5, .int .i64 11, nv] := by
  unfold doneV
  rw [show run6a.code = 0 by kernel_rfl, show run6a.val = 7 by kernel_rfl, show run6a.steps = 5 by kernel_rfl, show run6a.writes = 11 by kernel_rfl]
theorem run6a_news : run6a.news = [5] := by kernel_rfl
theorem st6_root : rootAt st6 0 = 5 := by kernel_rfl
theorem st6_block : st6.blocks 5 = some [0, 0, 0, 7, 0, 0, 0, 0] := by kernel_rfl
theorem st6_blocks : st6.blocks = upd (upd (fun _ => none) 5 (some zero8)) 5 (some [0, 0, 0, 7, 0, 0, 0, 0]) := by kernel_rfl
theorem st6_keys {x : Int} (h : (st6.blocks x).isSome = true) : x = 5 := by
  rw [st6_blocks] at h
  by_cases e : x = 5
  · exact e
  · simp [upd, e] at h
theorem st6_one (ss : List Int) (h : KeysOf st6.blocks ss) : ss = [5] := by
  have h5 : 5 ∈ ss := (h.2 5).2 ⟨⟨by decide, by decide⟩, by rw [st6_block]; rfl⟩
  have hall : ∀ x ∈ ss, x = 5 := fun x hx => st6_keys ((h.2 x).1 hx).2
  have hn := h.1
  match ss, h5, hall, hn with
  | [x], _, ha, _ => rw [ha x (by simp)]
  | x :: y :: r, _, ha, hn =>
    have e1 := ha x (by simp)
    have e2 := ha y (by simp)
    rw [e1, e2] at hn
    simp at hn
def run6d : MRun := runP st6 live6b [0, 0, 0, 0] 10 11 []
theorem run6d_done (nv : Value) : doneV run6d nv = #[.int .i64 40, .int .u64 9, .int .i64 1, .int .i64 0, nv] := by
  unfold doneV
  rw [show run6d.code = 40 by kernel_rfl, show run6d.val = 9 by kernel_rfl, show run6d.steps = 1 by kernel_rfl, show run6d.writes = 0 by kernel_rfl]
def run6e : MRun := runP st6 live6 [0, 0, 0, 0] 10 10 [6]
theorem run6d_code : run6d.code = 40 := by kernel_rfl
theorem run6e_code : run6e.code = 42 := by kernel_rfl
def run6f : MRun := runP st6 live6 [0, 0, 0, 0] 3 11 [6]
theorem run6f_code : run6f.code = 41 := by kernel_rfl
theorem run6f_steps : run6f.steps = 3 := by kernel_rfl
theorem run6f_news : run6f.news = [6] := by kernel_rfl
theorem run6e_news : run6e.news = [6] := by kernel_rfl
theorem run6d_news : run6d.news = [] := by kernel_rfl
theorem run6d_eq : runP st6 live6b [0, 0, 0, 0] 10 11 [] = run6d := by kernel_rfl
theorem run6e_eq : runP st6 live6 [0, 0, 0, 0] 10 10 [6] = run6e := by kernel_rfl
theorem run6f_eq : runP st6 live6 [0, 0, 0, 0] 3 11 [6] = run6f := by kernel_rfl
theorem live6_ok : ∀ i ∈ live6, i.Ok := by
  intro i hi
  simp [live6] at hi
  rcases hi with rfl | rfl | rfl | rfl | rfl <;> constructor <;> decide
theorem live6b_ok : ∀ i ∈ live6b, i.Ok := by
  intro i hi
  simp [live6b] at hi
  subst hi
  constructor <;> decide
theorem emptyS_ok : SOk emptyS := ⟨fun x hx => by simp [emptyS, zero16] at hx; subst hx; exact ⟨by decide, by decide⟩, fun h ws e => by cases e⟩
theorem u64_lits {l : List Int} (h : l.all (fun x => decide (0 ≤ x ∧ x ≤ 18446744073709551615)) = true) : ∀ x ∈ l, U64 x := fun x hx => by
  have := List.all_eq_true.1 h x hx
  exact (of_decide_eq_true this : 0 ≤ x ∧ x ≤ 18446744073709551615)
theorem eql_res (a b c d : Int) (w : World) : (binOp .eql 36 (.agg #[.int .i64 a, .int .u64 b]) (.agg #[.int .i64 c, .int .u64 d])).run Try.prog w = .ok (.bool (a == c && b == d)) w := by
  go_simp
  by_cases h1 : a = c
  · by_cases h2 : b = d
    · simp [h1, h2]
    · simp [h1, h2]
  · simp [h1]
theorem Rd.but {w w' : World} {B size n b o g : Nat} {xs : List Value} (h : Rd w B size (some ⟨b, o, none⟩) n xs) (hg : w.grownBy w' (some g)) (hne : b ≠ g) : Rd w' B size (some ⟨b, o, none⟩) n xs :=
  ⟨h.len, h.le, fun hn => by
    obtain ⟨b', o', e, hb, hc⟩ := h.at_ hn
    cases e
    exact ⟨b, o, rfl, hb, fun j u hu => hg.cell (a := ⟨b, o + j, none⟩) (hc j u hu) (fun e => hne (Option.some.inj e))⟩⟩
/-- A slice of uint64 that was made just now. -/
theorem rdU_new (w : World) (l : List Int) (t : TypeId) {m : Nat} (hm : l.length = m) (h : m ≤ maxLen) : RdU (w.alloc (.cells (u64s l).toArray t)) (w.heap.size + 1) (some ⟨w.heap.size, 0, none⟩) m l := by
  have := Rd.new w (u64s l).toArray t (size := 1) (m := m) (by simp [hm]) h
  simpa using this
set_option maxRecDepth 100000 in
set_option maxHeartbeats 8000000 in
theorem alive6_any (w : World) : Calls Try.prog 13 #[] w fun e w' => e = .returned (.bool true) ∧ Below w.heap.size w w' := by
  go_enter Try.func13, Try.ntmps13
  go_wp2_with fail
  refine (mnew_any _).mono ?_
  rintro e w1 ⟨sb, mb, rfl, hst, hb1⟩
  have HS1 := Lib.hid hst
  have HB1 := Lib.hid hb1
  clear hst hb1
  go_wp2_with fail
  obtain ⟨wc, hwc⟩ : ∃ wc, w1.alloc (.cells (insCells live6).toArray 43) = wc := ⟨_, rfl⟩
  have rc1 : RdI wc wc.heap.size (some ⟨w1.heap.size, 0, none⟩) 5 live6 := by
    rw [← hwc]; exact (Rd.new w1 _ _ (size := 5) (m := 5) rfl (by simp [maxLen])).more (by simp)
  have hbc : Below w1.heap.size w1 wc := by rw [← hwc]; exact (Below.refl _ _).alloc (Nat.le_refl _) _
  obtain ⟨wp, hwp⟩ : ∃ wp, wc.alloc (.cells #[.int .u64 5] 24) = wp := ⟨_, rfl⟩
  have rp1 : RdU wp wp.heap.size (some ⟨wc.heap.size, 0, none⟩) 1 [5] := by
    rw [← hwp]; exact (rdU_new wc [5] 24 rfl (by simp [maxLen])).more (by simp)
  have hbp : Below wc.heap.size wc wp := by rw [← hwp]; exact (Below.refl _ _).alloc (Nat.le_refl _) _
  have hzc : wc.heap.size = w1.heap.size + 1 := by rw [← hwc]; simp
  change Calls _ _ _ ((w1.alloc (.cells (insCells live6).toArray 43)).alloc (.cells #[.int .u64 5] 24)) _
  rw [hwc, hwp]
  have hst2 := HS1.out.more ((bk_grown_below hbc).trans (bk_grown_below hbp))
  have HBp := Lib.hid (HB1.out.trans ((hbc.trans (hbp.mono hbc.size)).mono HB1.out.size))
  have HC := Lib.hid ((rc1.below hbp).more hbp.size)
  clear hwc hwp hbc hbp rc1
  refine (run_any w.heap.size 0 sb mb emptyS live6 _ 5 5 [0, 7, 0, 0] 10 11 [5] _ 1 _ hst2 emptyS_ok HC.out live6_ok rfl (u64_lits rfl) (by decide) (by decide) (by rw [← hzc]; exact rp1) (u64_lits rfl) (by decide) (by decide) (by decide)).mono ?_
  rintro e w2 ⟨⟨nv, mb2, rfl, hst3, hown, _, _⟩, hok3, hg3⟩
  have HS2 : Hid (StIn w2 w.heap.size 11 sb mb2 st6) := hst3
  have HOK : Hid (SOk st6) := hok3
  have hnews : w2.ownsRow wp.heap.size 24 1 nv 1 [.int .u64 5] := hown
  obtain ⟨An, cn, rfl, _⟩ := Rd.of_own hnews
  have HB2 := Lib.hid (HBp.out.grown hg3 HBp.out.size (fun k hk => by cases hk; exact HS2.out.bs))
  have hlsb := HS1.out.st.lt
  have HC2 := Lib.hid (HC.out.but hg3 (by omega))
  have HB2z := Lib.hid hg3.size
  have HB2z2 := Lib.hid hg3.size
  rw [show doneV (runP emptyS live6 [0, 7, 0, 0] 10 11 [5]) (Value.slice An 1 cn) = _ from run6a_done _]
  clear hst2 hst3 hok3 hown hg3 rp1
  go_wp2_with fail
  obtain ⟨wa, hwa⟩ : ∃ wa, w2.alloc (.cells #[.int .i64 0, .int .u64 7, .int .i64 5, .int .i64 11, .slice An 1 cn] 38) = wa := ⟨_, rfl⟩
  have hba : Below w2.heap.size w2 wa := by rw [← hwa]; exact (Below.refl _ _).alloc (Nat.le_refl _) _
  have hDa : Bk wa w2.heap.size 38 #[.int .i64 0, .int .u64 7, .int .i64 5, .int .i64 11, .slice An 1 cn] := by rw [← hwa]; exact Bk.new _ _ _
  rw [hwa]
  clear hwa
  have HS2a := Lib.hid (HS2.out.more (bk_grown_below hba))
  refine (block_any w.heap.size 11 sb mb2 st6 5 _ HS2a.out ⟨by decide, by decide⟩).mono ?_
  rintro e w3 ⟨rfl, hb3⟩
  rw [show blockOf st6 5 = [0, 0, 0, 7, 0, 0, 0, 0] by unfold blockOf; rw [st6_block]; rfl, show (st6.blocks 5).isSome = true by rw [st6_block]; rfl]
  simp only [blkV, List.map_cons, List.map_nil]
  have h23 := hba.trans (hb3.mono hba.size)
  have HS3 := Lib.hid (HS2.out.more (bk_grown_below h23))
  have HB3 := Lib.hid (HB2.out.trans (h23.mono HB2.out.size))
  have HC3 := Lib.hid ((HC2.out.more HB2z.out).below h23)
  have HD3 := Lib.hid (hDa.below hb3 hDa.lt)
  have HL3 : Hid (w2.heap.size < w3.heap.size) := Nat.lt_of_lt_of_le hDa.lt hb3.size
  clear hba hDa hb3 h23 HS2a
  go_wp2_with fail
  obtain ⟨wb, hwb⟩ : ∃ wb, w3.alloc (.cells #[.int .u64 0, .int .u64 0, .int .u64 0, .int .u64 7, .int .u64 0, .int .u64 0, .int .u64 0, .int .u64 0] 47) = wb := ⟨_, rfl⟩
  have hbb : Below w3.heap.size w3 wb := by rw [← hwb]; exact (Below.refl _ _).alloc (Nat.le_refl _) _
  have hEb : Bk wb w3.heap.size 47 #[.int .u64 0, .int .u64 0, .int .u64 0, .int .u64 7, .int .u64 0, .int .u64 0, .int .u64 0, .int .u64 0] := by rw [← hwb]; exact Bk.new _ _ _
  rw [hwb]
  clear hwb
  refine (mclone_any w.heap.size 11 sb mb2 st6 _ (HS3.out.more (bk_grown_below hbb))).mono ?_
  rintro e w4 ⟨sb4, mb4, rfl, hst4, hb4⟩
  have h34 := hbb.trans (hb4.mono hbb.size)
  have HX4 := Lib.hid hst4
  have HS4 := Lib.hid (HS3.out.more (bk_grown_below h34))
  have HB4 := Lib.hid (HB3.out.trans (h34.mono HB3.out.size))
  have HC4 := Lib.hid (HC3.out.below (h34.mono (Nat.le_of_lt HL3.out)))
  have HD4 := Lib.hid (HD3.out.below h34 HL3.out)
  have HE4 := Lib.hid (hEb.below hb4 hEb.lt)
  have HL4 : Hid (w3.heap.size < w4.heap.size) := Nat.lt_of_lt_of_le hEb.lt hb4.size
  clear hbb hEb hb4 h34 hst4
  go_wp2_with fail
  have HZ4 := Lib.hid (Nat.le_trans (Nat.le_of_lt HL3.out) (Nat.le_of_lt HL4.out))
  have HLd4 := Lib.hid (Nat.lt_trans HL3.out HL4.out)
  have HLe4 := HL4
  obtain ⟨wx, hwx⟩ : ∃ wx, w4.alloc (.cells (insCells live6b).toArray 43) = wx := ⟨_, rfl⟩
  have hbx : Below w4.heap.size w4 wx := by rw [← hwx]; exact (Below.refl _ _).alloc (Nat.le_refl _) _
  have rcx : RdI wx wx.heap.size (some ⟨w4.heap.size, 0, none⟩) 1 live6b := by
    rw [← hwx]; exact (Rd.new w4 _ _ (size := 5) (m := 1) rfl (by simp [maxLen])).more (by simp)
  change Calls _ _ _ (w4.alloc (.cells (insCells live6b).toArray 43)) _
  rw [hwx]
  have hsx := HS4.out.more (bk_grown_below hbx)
  refine (run_any w.heap.size 11 sb mb2 st6 live6b _ 1 1 [0, 0, 0, 0] 10 11 [] _ _ _ hsx HOK.out rcx live6b_ok rfl (u64_lits rfl) (by decide) (by decide) (Rd.nil _ _ _ _) (u64_lits rfl) (by decide) (by decide) (by decide)).mono ?_
  rintro e w5 ⟨⟨nv, mbx, rfl, hstx, hown, _, herr⟩, _, _⟩
  obtain ⟨hmb, hgx⟩ := herr (by rw [run6d_eq, run6d_code]; decide)
  have h05 : Below w4.heap.size w4 w5 := hbx.trans ((Below.refl _ _).grown hgx hbx.size (fun k hk => by cases hk))
  rw [run6d_eq, run6d_done nv]
  have hn : w5.ownsRow wx.heap.size 24 1 nv 0 [] := by have h := hown; rwa [run6d_eq, run6d_news] at h
  obtain ⟨A5, c5, rfl, _⟩ := Rd.of_own hn
  have HX5 := Lib.hid (HX4.out.more (bk_grown_below h05))
  have HS5 := Lib.hid (HS4.out.more (bk_grown_below h05))
  have HB5 := Lib.hid (HB4.out.trans (h05.mono HB4.out.size))
  have HC5 := Lib.hid (HC4.out.below (h05.mono HZ4.out))
  have HZ5 := Lib.hid (Nat.le_trans HZ4.out h05.size)
  have HD5 := Lib.hid (HD4.out.below h05 HLd4.out)
  have HLd5 := Lib.hid (Nat.lt_of_lt_of_le HLd4.out h05.size)
  have HE5 := Lib.hid (HE4.out.below h05 HLe4.out)
  have HLe5 := Lib.hid (Nat.lt_of_lt_of_le HLe4.out h05.size)
  have HI5 : Hid (w5.heap.size ≤ w5.heap.size) := Nat.le_refl _
  clear hmb hwx hbx hsx hstx hown herr hgx hn h05 rcx
  go_wp2_with fail
  obtain ⟨w15, hw15⟩ : ∃ wy, w5.alloc (.cells #[.int .i64 40, .int .u64 9, .int .i64 1, .int .i64 0, .slice A5 0 c5] 38) = wy := ⟨_, rfl⟩
  have h015 : Below w5.heap.size w5 w15 := by rw [← hw15]; exact (Below.refl _ _).alloc (Nat.le_refl _) _
  have HQ515 : Hid (Bk w15 w5.heap.size 38 #[.int .i64 40, .int .u64 9, .int .i64 1, .int .i64 0, .slice A5 0 c5]) := by show Bk _ _ _ _; rw [← hw15]; exact Bk.new _ _ _
  rw [hw15]
  have HX15 := Lib.hid (HX5.out.more (bk_grown_below h015))
  have HS15 := Lib.hid (HS5.out.more (bk_grown_below h015))
  have HB15 := Lib.hid (HB5.out.trans (h015.mono HB5.out.size))
  have HC15 := Lib.hid (HC5.out.below (h015.mono HZ5.out))
  have HZ15 := Lib.hid (Nat.le_trans HZ5.out h015.size)
  have HD15 := Lib.hid (HD5.out.below h015 HLd5.out)
  have HLd15 := Lib.hid (Nat.lt_of_lt_of_le HLd5.out h015.size)
  have HE15 := Lib.hid (HE5.out.below h015 HLe5.out)
  have HLe15 := Lib.hid (Nat.lt_of_lt_of_le HLe5.out h015.size)
  have HW515 := Lib.hid (HQ515.out.lt)
  have hzz15 : w15.heap.size = w5.heap.size + 1 := by rw [← hw15]; simp
  clear hw15 h015
  obtain ⟨wx, hwx⟩ : ∃ wx, w15.alloc (.cells #[.int .u64 6] 24) = wx := ⟨_, rfl⟩
  have hbx : Below w15.heap.size w15 wx := by rw [← hwx]; exact (Below.refl _ _).alloc (Nat.le_refl _) _
  have rpx : RdU wx wx.heap.size (some ⟨w15.heap.size, 0, none⟩) 1 [6] := by
    rw [← hwx]; exact (rdU_new w15 [6] 24 rfl (by simp [maxLen])).more (by simp)
  rw [hzz15] at rpx
  rw [hwx]
  have hsx := HS15.out.more (bk_grown_below hbx)
  refine (run_any w.heap.size 11 sb mb2 st6 live6 _ 5 5 [0, 0, 0, 0] 10 10 [6] _ _ _ hsx HOK.out ((HC15.out.below (hbx.mono HZ15.out)).more (Nat.le_trans HZ15.out hbx.size)) live6_ok rfl (u64_lits rfl) (by decide) (by decide) rpx (u64_lits rfl) (by decide) (by decide) (by decide)).mono ?_
  rintro e w6 ⟨⟨nv, mbx, rfl, hstx, hown, _, herr⟩, _, _⟩
  obtain ⟨hmb, hgx⟩ := herr (by rw [run6e_eq, run6e_code]; decide)
  have h06 : Below w15.heap.size w15 w6 := hbx.trans ((Below.refl _ _).grown hgx hbx.size (fun k hk => by cases hk))
  have hn : w6.ownsRow wx.heap.size 24 1 nv 1 [.int .u64 6] := by have h := hown; rwa [run6e_eq, run6e_news] at h
  obtain ⟨x6, hx6⟩ : ∃ x, run6e.val = x := ⟨_, rfl⟩
  obtain ⟨y6, hy6⟩ : ∃ x, run6e.writes = x := ⟨_, rfl⟩
  obtain ⟨z6, hz6⟩ : ∃ x, run6e.steps = x := ⟨_, rfl⟩
  rw [run6e_eq]
  simp only [doneV, hx6, hy6, hz6]
  rw [run6e_code]
  obtain ⟨A6, c6, rfl, _⟩ := Rd.of_own hn
  have HX6 := Lib.hid (HX15.out.more (bk_grown_below h06))
  have HS6 := Lib.hid (HS15.out.more (bk_grown_below h06))
  have HB6 := Lib.hid (HB15.out.trans (h06.mono HB15.out.size))
  have HC6 := Lib.hid (HC15.out.below (h06.mono HZ15.out))
  have HZ6 := Lib.hid (Nat.le_trans HZ15.out h06.size)
  have HD6 := Lib.hid (HD15.out.below h06 HLd15.out)
  have HLd6 := Lib.hid (Nat.lt_of_lt_of_le HLd15.out h06.size)
  have HE6 := Lib.hid (HE15.out.below h06 HLe15.out)
  have HLe6 := Lib.hid (Nat.lt_of_lt_of_le HLe15.out h06.size)
  have HQ56 := Lib.hid (HQ515.out.below h06 HW515.out)
  have HW56 := Lib.hid (Nat.lt_of_lt_of_le HW515.out h06.size)
  have HI6 : Hid (w6.heap.size ≤ w6.heap.size) := Nat.le_refl _
  clear hmb hwx hbx hsx hstx hown herr hgx hn h06 rpx hx6 hy6 hz6
  go_wp2_with fail
  obtain ⟨w16, hw16⟩ : ∃ wy, w6.alloc (.cells #[.int .i64 42, .int .u64 x6, .int .i64 z6, .int .i64 y6, .slice A6 1 c6] 38) = wy := ⟨_, rfl⟩
  have h016 : Below w6.heap.size w6 w16 := by rw [← hw16]; exact (Below.refl _ _).alloc (Nat.le_refl _) _
  have HQ616 : Hid (Bk w16 w6.heap.size 38 #[.int .i64 42, .int .u64 x6, .int .i64 z6, .int .i64 y6, .slice A6 1 c6]) := by show Bk _ _ _ _; rw [← hw16]; exact Bk.new _ _ _
  rw [hw16]
  have HX16 := Lib.hid (HX6.out.more (bk_grown_below h016))
  have HS16 := Lib.hid (HS6.out.more (bk_grown_below h016))
  have HB16 := Lib.hid (HB6.out.trans (h016.mono HB6.out.size))
  have HC16 := Lib.hid (HC6.out.below (h016.mono HZ6.out))
  have HZ16 := Lib.hid (Nat.le_trans HZ6.out h016.size)
  have HD16 := Lib.hid (HD6.out.below h016 HLd6.out)
  have HLd16 := Lib.hid (Nat.lt_of_lt_of_le HLd6.out h016.size)
  have HE16 := Lib.hid (HE6.out.below h016 HLe6.out)
  have HLe16 := Lib.hid (Nat.lt_of_lt_of_le HLe6.out h016.size)
  have HQ516 := Lib.hid (HQ56.out.below h016 HW56.out)
  have HW516 := Lib.hid (Nat.lt_of_lt_of_le HW56.out h016.size)
  have HW616 := Lib.hid (HQ616.out.lt)
  have hzz16 : w16.heap.size = w6.heap.size + 1 := by rw [← hw16]; simp
  clear hw16 h016
  obtain ⟨wx, hwx⟩ : ∃ wx, w16.alloc (.cells #[.int .u64 6] 24) = wx := ⟨_, rfl⟩
  have hbx : Below w16.heap.size w16 wx := by rw [← hwx]; exact (Below.refl _ _).alloc (Nat.le_refl _) _
  have rpx : RdU wx wx.heap.size (some ⟨w16.heap.size, 0, none⟩) 1 [6] := by
    rw [← hwx]; exact (rdU_new w16 [6] 24 rfl (by simp [maxLen])).more (by simp)
  rw [hzz16] at rpx
  rw [hwx]
  have hsx := HS16.out.more (bk_grown_below hbx)
  refine (run_any w.heap.size 11 sb mb2 st6 live6 _ 5 5 [0, 0, 0, 0] 3 11 [6] _ _ _ hsx HOK.out ((HC16.out.below (hbx.mono HZ16.out)).more (Nat.le_trans HZ16.out hbx.size)) live6_ok rfl (u64_lits rfl) (by decide) (by decide) rpx (u64_lits rfl) (by decide) (by decide) (by decide)).mono ?_
  rintro e w7 ⟨⟨nv, mbx, rfl, hstx, hown, _, herr⟩, _, _⟩
  obtain ⟨hmb, hgx⟩ := herr (by rw [run6f_eq, run6f_code]; decide)
  have h07 : Below w16.heap.size w16 w7 := hbx.trans ((Below.refl _ _).grown hgx hbx.size (fun k hk => by cases hk))
  have hn : w7.ownsRow wx.heap.size 24 1 nv 1 [.int .u64 6] := by have h := hown; rwa [run6f_eq, run6f_news] at h
  obtain ⟨x7, hx7⟩ : ∃ x, run6f.val = x := ⟨_, rfl⟩
  obtain ⟨y7, hy7⟩ : ∃ x, run6f.writes = x := ⟨_, rfl⟩
  obtain ⟨z7, hz7⟩ : ∃ x, run6f.steps = x := ⟨_, rfl⟩
  rw [run6f_eq]
  simp only [doneV, hx7, hy7, hz7]
  rw [run6f_code]
  have hz3 : z7 = 3 := hz7.symm.trans run6f_steps
  subst hz3
  obtain ⟨A7, c7, rfl, _⟩ := Rd.of_own hn
  have HX7 := Lib.hid (HX16.out.more (bk_grown_below h07))
  have HS7 := Lib.hid (HS16.out.more (bk_grown_below h07))
  have HB7 := Lib.hid (HB16.out.trans (h07.mono HB16.out.size))
  have HC7 := Lib.hid (HC16.out.below (h07.mono HZ16.out))
  have HZ7 := Lib.hid (Nat.le_trans HZ16.out h07.size)
  have HD7 := Lib.hid (HD16.out.below h07 HLd16.out)
  have HLd7 := Lib.hid (Nat.lt_of_lt_of_le HLd16.out h07.size)
  have HE7 := Lib.hid (HE16.out.below h07 HLe16.out)
  have HLe7 := Lib.hid (Nat.lt_of_lt_of_le HLe16.out h07.size)
  have HQ57 := Lib.hid (HQ516.out.below h07 HW516.out)
  have HW57 := Lib.hid (Nat.lt_of_lt_of_le HW516.out h07.size)
  have HQ67 := Lib.hid (HQ616.out.below h07 HW616.out)
  have HW67 := Lib.hid (Nat.lt_of_lt_of_le HW616.out h07.size)
  have HI7 : Hid (w7.heap.size ≤ w7.heap.size) := Nat.le_refl _
  clear hmb hwx hbx hsx hstx hown herr hgx hn h07 rpx hx7 hy7 hz7
  go_wp2_with fail
  obtain ⟨w17, hw17⟩ : ∃ wy, w7.alloc (.cells #[.int .i64 41, .int .u64 x7, .int .i64 3, .int .i64 y7, .slice A7 1 c7] 38) = wy := ⟨_, rfl⟩
  have h017 : Below w7.heap.size w7 w17 := by rw [← hw17]; exact (Below.refl _ _).alloc (Nat.le_refl _) _
  have HQ717 : Hid (Bk w17 w7.heap.size 38 #[.int .i64 41, .int .u64 x7, .int .i64 3, .int .i64 y7, .slice A7 1 c7]) := by show Bk _ _ _ _; rw [← hw17]; exact Bk.new _ _ _
  rw [hw17]
  have HX17 := Lib.hid (HX7.out.more (bk_grown_below h017))
  have HS17 := Lib.hid (HS7.out.more (bk_grown_below h017))
  have HB17 := Lib.hid (HB7.out.trans (h017.mono HB7.out.size))
  have HC17 := Lib.hid (HC7.out.below (h017.mono HZ7.out))
  have HZ17 := Lib.hid (Nat.le_trans HZ7.out h017.size)
  have HD17 := Lib.hid (HD7.out.below h017 HLd7.out)
  have HLd17 := Lib.hid (Nat.lt_of_lt_of_le HLd7.out h017.size)
  have HE17 := Lib.hid (HE7.out.below h017 HLe7.out)
  have HLe17 := Lib.hid (Nat.lt_of_lt_of_le HLe7.out h017.size)
  have HQ517 := Lib.hid (HQ57.out.below h017 HW57.out)
  have HW517 := Lib.hid (Nat.lt_of_lt_of_le HW57.out h017.size)
  have HQ617 := Lib.hid (HQ67.out.below h017 HW67.out)
  have HW617 := Lib.hid (Nat.lt_of_lt_of_le HW67.out h017.size)
  have HW717 := Lib.hid (HQ717.out.lt)
  have hzz17 : w17.heap.size = w7.heap.size + 1 := by rw [← hw17]; simp
  clear hw17 h017
  refine (handles_one w.heap.size 11 sb mb2 st6 _ HS17.out (by decide) (fun ss h => by rw [st6_one ss h]; decide)).mono ?_
  rintro e w8 ⟨v, ss, rfl, hS, _, hrow, hb8⟩
  obtain rfl := st6_one ss hS
  have hrow : w8.ownsRow w17.heap.size 24 1 v 1 [.int .u64 5] := hrow
  obtain ⟨A8, c8, rfl, hr8⟩ := Rd.of_own hrow
  obtain ⟨b8, o8, rfl, hb8b, hc8⟩ := hr8.at_ (by decide)
  have l8 : w8.cell? ⟨b8, o8, none⟩ = some (.int .u64 5) := by simpa using hc8 0 _ rfl
  have HS8 := Lib.hid (HS17.out.more (bk_grown_below hb8))
  have HX8 := Lib.hid (HX17.out.more (bk_grown_below hb8))
  have HB8 := Lib.hid (HB17.out.trans (hb8.mono HB17.out.size))
  have a0 : w8.cell? ⟨w2.heap.size, 0, none⟩ = some (.int .i64 0) := ((HD17.out.below hb8 HLd17.out).cell 0).trans rfl
  have a1 : w8.cell? ⟨w2.heap.size, 1, none⟩ = some (.int .u64 7) := ((HD17.out.below hb8 HLd17.out).cell 1).trans rfl
  have a2 : w8.cell? ⟨w2.heap.size, 2, none⟩ = some (.int .i64 5) := ((HD17.out.below hb8 HLd17.out).cell 2).trans rfl
  have a3 : w8.cell? ⟨w2.heap.size, 3, none⟩ = some (.int .i64 11) := ((HD17.out.below hb8 HLd17.out).cell 3).trans rfl
  have a4 : w8.cell? ⟨w2.heap.size, 4, none⟩ = some (.slice An 1 cn) := ((HD17.out.below hb8 HLd17.out).cell 4).trans rfl
  have b3 : w8.cell? ⟨w3.heap.size, 3, none⟩ = some (.int .u64 7) := ((HE17.out.below hb8 HLe17.out).cell 3).trans rfl
  have d0 : w8.cell? ⟨w5.heap.size, 0, none⟩ = some (.int .i64 40) := ((HQ517.out.below hb8 HW517.out).cell 0).trans rfl
  have d1 : w8.cell? ⟨w5.heap.size, 1, none⟩ = some (.int .u64 9) := ((HQ517.out.below hb8 HW517.out).cell 1).trans rfl
  have e0 : w8.cell? ⟨w6.heap.size, 0, none⟩ = some (.int .i64 42) := ((HQ617.out.below hb8 HW617.out).cell 0).trans rfl
  have f0 : w8.cell? ⟨w7.heap.size, 0, none⟩ = some (.int .i64 41) := ((HQ717.out.below hb8 HW717.out).cell 0).trans rfl
  have f2 : w8.cell? ⟨w7.heap.size, 2, none⟩ = some (.int .i64 3) := ((HQ717.out.below hb8 HW717.out).cell 2).trans rfl
  have q1 := fun W => eql_res 0 7 0 7 W
  have q2 := fun W => eql_res 40 9 40 9 W
  clear hb8 hrow hr8 hc8 hb8b hS hnews hzz15 hzz16 hzz17 hlsb
  go_wp2_with fail
  refine (root_at w.heap.size 11 sb mb2 st6 0 _ HS8.out).mono ?_
  rintro e w9 ⟨rfl, rfl⟩
  rw [st6_root]
  go_wp2_with fail
  refine (stsame_any wb.heap.size 11 sb4 mb4 st6 w.heap.size 11 sb mb2 st6 _ HX8.out HS8.out).mono ?_
  rintro e w9 ⟨r, rfl, hr, hg9⟩
  obtain rfl : r = true := hr.2 ⟨rfl, fun _ _ => rfl⟩
  have p0 : w9.cell? ⟨w5.heap.size, 0, none⟩ = some (.int .i64 40) := hg9.cell (a := ⟨w5.heap.size, 0, none⟩) d0 (by simp)
  have p1 : w9.cell? ⟨w5.heap.size, 1, none⟩ = some (.int .u64 9) := hg9.cell (a := ⟨w5.heap.size, 1, none⟩) d1 (by simp)
  have p2 : w9.cell? ⟨w6.heap.size, 0, none⟩ = some (.int .i64 42) := hg9.cell (a := ⟨w6.heap.size, 0, none⟩) e0 (by simp)
  have p3 : w9.cell? ⟨w7.heap.size, 0, none⟩ = some (.int .i64 41) := hg9.cell (a := ⟨w7.heap.size, 0, none⟩) f0 (by simp)
  have p4 : w9.cell? ⟨w7.heap.size, 2, none⟩ = some (.int .i64 3) := hg9.cell (a := ⟨w7.heap.size, 2, none⟩) f2 (by simp)
  have p5 : w9.cell? ⟨b8, o8, none⟩ = some (.int .u64 5) := hg9.cell (a := ⟨b8, o8, none⟩) l8 (by simp)
  have HB9 := Lib.hid (HB8.out.grown hg9 HB8.out.size (fun k hk => by cases hk))
  clear hg9 hr a0 a1 a2 a3 a4 b3 d0 d1 e0 f0 f2 l8
  go_wp2
  go_ret
  exact ⟨rfl, HB9.out⟩
end Go.Proofs.Ytddaeaimimdonaa
