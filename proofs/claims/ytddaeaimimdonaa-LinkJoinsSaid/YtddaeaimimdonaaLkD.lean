/-
  Chapter 19: contract of linker.clear. Printed by gen/lkd.py.
-/
import Derived.Test.YtddaeaimimdonaaLkB
import Derived.Test.YtddaeaimimdonaaLkDP
import Derived.Test.YtddaeaimimdonaaLkC
import Derived.Test.YtddaeaimimdonaaCtrB
import Derived.Test.YtddaeaimimdonaaModE
import Derived.StillTailTactics
import Derived.Lib.OthersKept
import Derived.Deep.DeepCutAuto
namespace Go.Proofs.Ytddaeaimimdonaa
open Go.RowKit
set_option linter.unusedVariables false

theorem bools_set_any (M : List Bool) (k : Nat) (b : Bool) (v : Bool) (hv : v = (M.getD k false || b)) : (bools M).toArray.setIfInBounds k (.bool v) = (bools (useAt M k b)).toArray := by
  rw [bools_arr, hv]; rfl
theorem bk_use {w : World} {g : Nat} {t : TypeId} {M : List Bool} (h : Bk w g t (bools M).toArray) (k : Nat) {v : Bool} (b : Bool) (hv : v = (M.getD k false || b)) : Bk ((w.setCell ⟨g, k, none⟩ (.bool v)).drew) g t (bools (useAt M k b)).toArray := by
  have h1 := (h.set_ k (.bool v)).drew
  rw [bools_set_any _ _ b _ hv] at h1
  exact h1
theorem kept_below {w w' : World} {e : TypeId} {b : Option Nat} (hb : Below w.heap.size w w') : Lib.OthersKept e b w w' := fun k o hk _ _ => (hb.block k (Array.getElem?_eq_some_iff.1 hk).1).trans hk
theorem own_lk {w w' : World} {g : Nat} {ov tv : Value} {out : List Ins} {A : Option Addr} {n c : Nat} {a0 a1 a2 a3 : PArg} {k : Int} {tos : List Int} (h : LkV w g ov out A n c a0 a1 a2 a3 k tv tos) (hb : Below w.heap.size w w') : LkV w' g ov out A n c a0 a1 a2 a3 k tv tos := h.more (bk_grown_below hb)
set_option maxRecDepth 100000 in
set_option maxHeartbeats 16000000 in
theorem clear_any (g : Nat) (A : Option Addr) (n c : Nat) (out : List Ins) (a0 a1 a2 a3 : PArg) (kk : Int) (ov tv : Value) (tos : List Int) (A' : Option Addr) (n' c' : Nat) (code : List Ins) (b0 b1 b2 b3 : PArg) (w : World) (h : LkV w g ov out A n c a0 a1 a2 a3 kk tv tos) (hr : RdI w g A' n' code)
    (hreg : ∀ i ∈ code, RegOk i) (ho : out.length ≤ 5000) :
    Calls Try.prog 62 #[.pointer (some ⟨g, 0, none⟩), .agg #[.slice A' n' c', .int .i64 b0.kind, .int .u64 b0.val, .int .i64 b1.kind, .int .u64 b1.val, .int .i64 b2.kind, .int .u64 b2.val, .int .i64 b3.kind, .int .u64 b3.val]] w
      fun e w' => e = .returned (.tuple #[]) ∧ (∃ ov', LkV w' g ov' (out ++ clearL code) A n c a0 a1 a2 a3 kk tv tos) ∧ Below g w w' ∧ Lib.OthersKept 43 (some g) w w' := by
  obtain ⟨i0, hi0, hz0, hz1, hz2⟩ := info_parts info_insL
  have HL0 := Lib.hid h
  have HR0 := Lib.hid hr
  have HLen := Lib.hid hr.insLen
  have HReg := Lib.hid hreg
  have hg := h.lt
  have h63 := hr.le
  unfold maxLen at h63
  clear h hr hreg
  go_enter Try.func62, Try.ntmps62
  go_upto_region 2 with fail
  obtain ⟨W1, hW1⟩ : ∃ W1, w.alloc (.cells #[.slice A' n' c', .int .i64 b0.kind, .int .u64 b0.val, .int .i64 b1.kind, .int .u64 b1.val, .int .i64 b2.kind, .int .u64 b2.val, .int .i64 b3.kind, .int .u64 b3.val] 80) = W1 := ⟨_, rfl⟩
  rw [hW1]
  obtain ⟨W2, hW2⟩ : ∃ W2, W1.alloc (.cells #[.bool false, .bool false, .bool false, .bool false, .bool false, .bool false, .bool false, .bool false, .bool false, .bool false, .bool false, .bool false, .bool false, .bool false, .bool false, .bool false] 134) = W2 := ⟨_, rfl⟩
  rw [hW2]
  have z1 : W1.heap.size = w.heap.size + 1 := by rw [← hW1]; simp
  have HX2 : Hid (Bk W2 w.heap.size 80 #[.slice A' n' c', .int .i64 b0.kind, .int .u64 b0.val, .int .i64 b1.kind, .int .u64 b1.val, .int .i64 b2.kind, .int .u64 b2.val, .int .i64 b3.kind, .int .u64 b3.val]) := by show Bk _ _ _ _; rw [← hW2, ← hW1]; exact (Bk.new _ _ _).alloc _
  have HU2 : Hid (Bk W2 (w.heap.size + 1) 134 (bools (List.replicate 16 false)).toArray) := by show Bk _ _ _ _; rw [← hW2, ← z1]; exact Bk.new W1 _ _
  have HB2 : Hid (Below w.heap.size w W2) := by show Below _ _ _; rw [← hW2, ← hW1]; exact ((Below.refl _ _).alloc (Nat.le_refl _) _).alloc (by simp) _
  have x0 : W2.cell? ⟨w.heap.size, 0, none⟩ = some (.slice A' n' c') := (HX2.out.cell 0).trans rfl

  clear hW1 hW2 z1
  go_wp2
  go_loopw [16, 6, 7, 8, 9, 10] (fun i _a _b _c _d _e wr => ∃ (k : Nat) (M : List Bool), (k ≤ n' ∧ i = .int .i64 k) ∧ Hid (M = usedOf (code.take k)) ∧ Hid (Below w.heap.size w wr) ∧ Hid (Bk wr (w.heap.size + 1) 134 (bools M).toArray)) (fun i _ _ _ _ _ _ => n' - (intOf i).toNat)
  case atStart => exact ⟨0, List.replicate 16 false, ⟨by omega, rfl⟩, rfl, HB2, HU2⟩
  case round =>
    obtain ⟨k, M, ⟨hk, rfl⟩, HM, HB, HU⟩ := hrel
    have HMl : Hid (M.length = 16) := by show _ = _; rw [HM.out]; exact usedOf_len fun i hi => HReg.out i (List.mem_of_mem_take hi)
    by_cases hlt : k < n'
    · obtain ⟨b, o, i, rfl, hbB, hi, c0, c1, c2, c3, c4⟩ := (HR0.out.below (HB.out.mono (Nat.le_of_lt hg))).insAt hlt
      have HSn : Hid (usedOf (code.take (k + 1)) = useI M i) := by show _ = _; rw [usedOf_snoc hi, HM.out]
      have hro := HReg.out i (List.mem_of_getElem? hi)
      obtain ⟨op, ia, ib, ic, imm⟩ := i
      obtain ⟨⟨ra0, ra1⟩, ⟨rb0, rb1⟩, ⟨rc0, rc1⟩⟩ := hro
      simp only at c0 c1 c2 c3 c4 ra0 ra1 rb0 rb1 rc0 rc1
      obtain ⟨xa, rfl⟩ : ∃ x : Nat, ia = (x : Int) := ⟨ia.toNat, by omega⟩
      obtain ⟨xb, rfl⟩ : ∃ x : Nat, ib = (x : Int) := ⟨ib.toNat, by omega⟩
      obtain ⟨xc, rfl⟩ : ∃ x : Nat, ic = (x : Int) := ⟨ic.toNat, by omega⟩
      clear hi
      have hus : (w.heap.size + 1) < wr.heap.size := HU.out.lt
      go_wp2_with fail
      obtain ⟨W3, hW3⟩ : ∃ W3, wr.alloc (.cells #[.int .i64 op, .int .i64 xa, .int .i64 xb, .int .i64 xc, .int .u64 imm] 43) = W3 := ⟨_, rfl⟩
      have hb3 : Below wr.heap.size wr W3 := by rw [← hW3]; exact (Below.refl _ _).alloc (Nat.le_refl _) _
      have hI3 : Bk W3 wr.heap.size 43 #[.int .i64 op, .int .i64 xa, .int .i64 xb, .int .i64 xc, .int .u64 imm] := by rw [← hW3]; exact Bk.new _ _ _
      rw [hW3]
      refine (uses_any op _).mono ?_
      rintro e W4 ⟨rfl, hb4⟩
      have h34 := hb3.trans (hb4.mono hb3.size)
      have HB4 := Lib.hid (HB.out.trans (h34.mono HB.out.size))
      have HU4 := Lib.hid (HU.out.below h34 HU.out.lt)
      have HI4 := Lib.hid (hI3.below hb4 hI3.lt)
      obtain ⟨ua, hua⟩ : ∃ x, decide (0 < regsOf op) = x := ⟨_, rfl⟩
      obtain ⟨ub, hub⟩ : ∃ x, decide (1 < regsOf op) = x := ⟨_, rfl⟩
      obtain ⟨uc, huc⟩ : ∃ x, decide (2 < regsOf op) = x := ⟨_, rfl⟩
      obtain ⟨ud, hud⟩ : ∃ x, immOf op = x := ⟨_, rfl⟩
      have HSn2 : Hid (usedOf (code.take (k + 1)) = useAt (useAt (useAt M xa ua) xb ub) xc uc) := by
        show _ = _
        rw [HSn.out, ← hua, ← hub, ← huc]; rfl
      rw [hua, hub, huc, hud]
      clear hb3 hI3 hW3 hb4 h34 hua hub huc hud HSn c0 c1 c2 c3 c4
      go_upto_region 6 with fail
      go_cut [6] (fun v wx => v = .pointer (some ⟨wr.heap.size, 0, none⟩) ∧ Hid (Below w.heap.size w wx ∧ Bk wx (w.heap.size + 1) 134 (bools (useAt M xa ua)).toArray ∧ Bk wx wr.heap.size 43 #[.int .i64 op, .int .i64 xa, .int .i64 xb, .int .i64 xc, .int .u64 imm]))
      case first =>
        have q1 : W4.cell? ⟨wr.heap.size, 1, none⟩ = some (.int .i64 xa) := (HI4.out.cell 1).trans rfl
        obtain ⟨m, hm⟩ : ∃ m, (M).getD xa false = m := ⟨_, rfl⟩
        have qm : W4.cell? ⟨(w.heap.size + 1), xa, none⟩ = some (.bool m) := by
          rw [HU4.out.cell, List.getElem?_toArray, bools_at (by (try simp only [useAt_len]); rw [HMl.out]; omega), hm]
        have fm := HU4.out.frozen xa
        have hxi : (xa : Int) < 16 := by omega
        have HMm := Lib.hid hm
        have hne : wr.heap.size ≠ (w.heap.size + 1) := by omega
        clear hm
        cases m
        all_goals
          go_wp2_with fail
          go_still_tail 10, (by kernel_rfl)
          go_wp2_with fail
          go_meet
          refine ⟨rfl, (HB4.out.setCell (p := ⟨(w.heap.size + 1), xa, none⟩) (by simp) _).drew, ?_, ((HI4.out.set_other (p := ⟨(w.heap.size + 1), xa, none⟩) (fun e => hne e.symm) )).drew⟩
          exact bk_use HU4.out xa ua (by rw [HMm.out]; rfl)
      case rest =>
      obtain ⟨rfl, hx⟩ := hcut
      have HB6 := Lib.hid hx.out.1
      have HU6 := Lib.hid hx.out.2.1
      have HI6 := Lib.hid hx.out.2.2
      clear hx
      go_upto_region 7 with fail
      go_cut [6] (fun v wx => v = .pointer (some ⟨wr.heap.size, 0, none⟩) ∧ Hid (Below w.heap.size w wx ∧ Bk wx (w.heap.size + 1) 134 (bools (useAt (useAt M xa ua) xb ub)).toArray ∧ Bk wx wr.heap.size 43 #[.int .i64 op, .int .i64 xa, .int .i64 xb, .int .i64 xc, .int .u64 imm]))
      case first =>
        have q1 : wc.cell? ⟨wr.heap.size, 2, none⟩ = some (.int .i64 xb) := (HI6.out.cell 2).trans rfl
        obtain ⟨m, hm⟩ : ∃ m, ((useAt M xa ua)).getD xb false = m := ⟨_, rfl⟩
        have qm : wc.cell? ⟨(w.heap.size + 1), xb, none⟩ = some (.bool m) := by
          rw [HU6.out.cell, List.getElem?_toArray, bools_at (by (try simp only [useAt_len]); rw [HMl.out]; omega), hm]
        have fm := HU6.out.frozen xb
        have hxi : (xb : Int) < 16 := by omega
        have HMm := Lib.hid hm
        have hne : wr.heap.size ≠ (w.heap.size + 1) := by omega
        clear hm
        cases m
        all_goals
          go_wp2_with fail
          go_still_tail 10, (by kernel_rfl)
          go_wp2_with fail
          go_meet
          refine ⟨rfl, (HB6.out.setCell (p := ⟨(w.heap.size + 1), xb, none⟩) (by simp) _).drew, ?_, ((HI6.out.set_other (p := ⟨(w.heap.size + 1), xb, none⟩) (fun e => hne e.symm) )).drew⟩
          exact bk_use HU6.out xb ub (by rw [HMm.out]; rfl)
      case rest =>
      obtain ⟨rfl, hx⟩ := hcut
      have HB7 := Lib.hid hx.out.1
      have HU7 := Lib.hid hx.out.2.1
      have HI7 := Lib.hid hx.out.2.2
      clear hx
      have q1 : wc.cell? ⟨wr.heap.size, 3, none⟩ = some (.int .i64 xc) := (HI7.out.cell 3).trans rfl
      obtain ⟨m, hm⟩ : ∃ m, (useAt (useAt M xa ua) xb ub).getD xc false = m := ⟨_, rfl⟩
      have qm : wc.cell? ⟨(w.heap.size + 1), xc, none⟩ = some (.bool m) := by
        rw [HU7.out.cell, List.getElem?_toArray, bools_at (by (try simp only [useAt_len]); rw [HMl.out]; omega), hm]
      have fm := HU7.out.frozen xc
      have hxi : (xc : Int) < 16 := by omega
      have HMm := Lib.hid hm
      clear hm
      cases m
      all_goals
        go_wp2_with fail
        go_still_tail 10, (by kernel_rfl)
        go_wp2
        go_roundw
        case rel =>
          refine ⟨k + 1, _, ⟨by omega, by go_num⟩, HSn2.out.symm, (HB7.out.setCell (p := ⟨(w.heap.size + 1), xc, none⟩) (by simp) _).drew, ?_⟩
          exact bk_use HU7.out xc uc (by rw [HMm.out]; rfl)
        case measure => simp [intOf]; omega
    · obtain rfl : n' = k := by omega
      have HMe : Hid (M = usedOf code) := by show _ = _; rw [HM.out, List.take_of_length_le (by rw [HLen.out]; exact Nat.le_refl _)]
      obtain ⟨m0, m1, m2, m3, m4, m5, m6, m7, m8, m9, m10, m11, m12, m13, m14, m15, hms⟩ : ∃ m0 m1 m2 m3 m4 m5 m6 m7 m8 m9 m10 m11 m12 m13 m14 m15, M = [m0, m1, m2, m3, m4, m5, m6, m7, m8, m9, m10, m11, m12, m13, m14, m15] := by
        match M, HMl.out with
        | [z0, z1, z2, z3, z4, z5, z6, z7, z8, z9, z10, z11, z12, z13, z14, z15], _ => exact ⟨z0, z1, z2, z3, z4, z5, z6, z7, z8, z9, z10, z11, z12, z13, z14, z15, rfl⟩
      have y0 : wr.cell? ⟨(w.heap.size + 1), 0, none⟩ = some (.bool m0) := by rw [HU.out.cell, hms]; rfl
      have y1 : wr.cell? ⟨(w.heap.size + 1), 1, none⟩ = some (.bool m1) := by rw [HU.out.cell, hms]; rfl
      have y2 : wr.cell? ⟨(w.heap.size + 1), 2, none⟩ = some (.bool m2) := by rw [HU.out.cell, hms]; rfl
      have y3 : wr.cell? ⟨(w.heap.size + 1), 3, none⟩ = some (.bool m3) := by rw [HU.out.cell, hms]; rfl
      have y4 : wr.cell? ⟨(w.heap.size + 1), 4, none⟩ = some (.bool m4) := by rw [HU.out.cell, hms]; rfl
      have y5 : wr.cell? ⟨(w.heap.size + 1), 5, none⟩ = some (.bool m5) := by rw [HU.out.cell, hms]; rfl
      have y6 : wr.cell? ⟨(w.heap.size + 1), 6, none⟩ = some (.bool m6) := by rw [HU.out.cell, hms]; rfl
      have y7 : wr.cell? ⟨(w.heap.size + 1), 7, none⟩ = some (.bool m7) := by rw [HU.out.cell, hms]; rfl
      have y8 : wr.cell? ⟨(w.heap.size + 1), 8, none⟩ = some (.bool m8) := by rw [HU.out.cell, hms]; rfl
      have y9 : wr.cell? ⟨(w.heap.size + 1), 9, none⟩ = some (.bool m9) := by rw [HU.out.cell, hms]; rfl
      have y10 : wr.cell? ⟨(w.heap.size + 1), 10, none⟩ = some (.bool m10) := by rw [HU.out.cell, hms]; rfl
      have y11 : wr.cell? ⟨(w.heap.size + 1), 11, none⟩ = some (.bool m11) := by rw [HU.out.cell, hms]; rfl
      have y12 : wr.cell? ⟨(w.heap.size + 1), 12, none⟩ = some (.bool m12) := by rw [HU.out.cell, hms]; rfl
      have y13 : wr.cell? ⟨(w.heap.size + 1), 13, none⟩ = some (.bool m13) := by rw [HU.out.cell, hms]; rfl
      have y14 : wr.cell? ⟨(w.heap.size + 1), 14, none⟩ = some (.bool m14) := by rw [HU.out.cell, hms]; rfl
      have y15 : wr.cell? ⟨(w.heap.size + 1), 15, none⟩ = some (.bool m15) := by rw [HU.out.cell, hms]; rfl
      have hidx : ∀ q : Nat, q < 16 → ∃ mq, (∀ w, (Instr.index 134 (.agg #[.bool m0, .bool m1, .bool m2, .bool m3, .bool m4, .bool m5, .bool m6, .bool m7, .bool m8, .bool m9, .bool m10, .bool m11, .bool m12, .bool m13, .bool m14, .bool m15]) (.int .i64 q)).run Try.prog w = .ok (.bool mq) w) ∧ M.getD q false = mq := by
        intro q hq
        have hq16 : q = 0 ∨ q = 1 ∨ q = 2 ∨ q = 3 ∨ q = 4 ∨ q = 5 ∨ q = 6 ∨ q = 7 ∨ q = 8 ∨ q = 9 ∨ q = 10 ∨ q = 11 ∨ q = 12 ∨ q = 13 ∨ q = 14 ∨ q = 15 := by omega
        rw [hms]
        rcases hq16 with rfl | rfl | rfl | rfl | rfl | rfl | rfl | rfl | rfl | rfl | rfl | rfl | rfl | rfl | rfl | rfl <;> exact ⟨_, fun _ => by kernel_rfl, rfl⟩
      have HIx := Lib.hid hidx
      have HL := Lib.hid (own_lk HL0.out HB.out)
      have HBg := Lib.hid (HB.out.mono (Nat.le_of_lt hg))
      clear hidx hms
      go_wp2
      go_loopw [60, 11, 12] (fun i _a _b wq => ∃ (q : Nat) (A6 : Option Addr) (n6 c6 : Nat), (q ≤ 16 ∧ i = .int .i64 q) ∧ Hid (LkV wq g (.slice A6 n6 c6) (out ++ clearTo M q) A n c a0 a1 a2 a3 kk tv tos) ∧ Hid (Below g w wq) ∧ Hid (Lib.OthersKept 43 (some g) w wq)) (fun i _ _ _ => 16 - (intOf i).toNat)
      case atStart =>
        obtain ⟨A6, c6, e6, _⟩ := Rd.of_own HL.out.out
        refine ⟨0, A6, out.length, c6, ⟨by omega, rfl⟩, ?_, HBg, kept_below HB.out⟩
        show LkV _ _ _ _ _ _ _ _ _ _ _ _ _ _
        rw [← e6, show out ++ clearTo M 0 = out by simp [clearTo]]
        exact HL.out
      case round =>
        obtain ⟨q, A6, n6, c6, ⟨hq, rfl⟩, HLq, HBq, HKq⟩ := hrel
        by_cases hlt : q < 16
        · obtain ⟨mq, hmq, hget⟩ := HIx.out q hlt
          have HGet := Lib.hid hget
          have HLn : Hid ((out ++ clearTo M q).length ≤ 6000) := by
            show _ ≤ _
            have := clearTo_len M q
            rw [List.length_append]; omega
          have g0 : wr.cell? ⟨g, 0, none⟩ = some (.slice A6 n6 c6) := (HLq.out.bk.cell 0).trans rfl
          clear hget
          cases mq
          · have HE : Hid (clearTo M (q + 1) = clearTo M q) := by show _ = _; rw [clearTo_snoc, if_neg (by rw [HGet.out]; decide)]; simp
            go_wp2
            go_roundw
            case rel => exact ⟨q + 1, A6, n6, c6, ⟨by omega, by go_num⟩, (by show LkV _ _ _ _ _ _ _ _ _ _ _ _ _ _; rw [HE.out]; exact HLq.out), HBq, HKq⟩
            case measure => simp [intOf]; omega
          · obtain ⟨OL, hOL⟩ : ∃ OL, out ++ clearTo M q = OL := ⟨_, rfl⟩
            have HE : Hid (out ++ clearTo M (q + 1) = OL ++ [⟨0, (q : Int), 0, 0, 0⟩]) := by show _ = _; rw [← hOL, clearTo_snoc, if_pos HGet.out, List.append_assoc]; rfl
            rw [hOL] at HLq HLn
            clear hOL
            have hlq := HLq.out.lt
            have HLa := Lib.hid (HLq.out.more (World.grownBy_alloc wr (.cells #[.int .i64 0, .int .i64 (q : Int), .int .i64 0, .int .i64 0, .int .u64 0] 43) none))
            have HBa := Lib.hid (HBq.out.alloc (Nat.le_of_lt hlq) (.cells #[.int .i64 0, .int .i64 (q : Int), .int .i64 0, .int .i64 0, .int .u64 0] 43))
            have hz3 : g + 1 ≤ (wr.alloc (.cells #[.int .i64 0, .int .i64 (q : Int), .int .i64 0, .int .i64 0, .int .u64 0] 43)).heap.size := HLa.out.lt
            have Ra : Hid (RdI (wr.alloc (.cells #[.int .i64 0, .int .i64 (q : Int), .int .i64 0, .int .i64 0, .int .u64 0] 43)) (wr.heap.size + 1) (some ⟨wr.heap.size, 0, none⟩) 1 [⟨0, (q : Int), 0, 0, 0⟩]) := Rd.new wr _ _ (size := 5) (m := 1) rfl (by simp [maxLen])
            have tok1 : True := trivial
            go_wp2_with (
              at_builtin
              have _t := tok1
              go_must (
                refine wpList_app _ rfl (.tmp 69) (.tmp 72) 23 rfl (g + 1) 43 i0 _ 5 40 Try.underlying23 hi0 hz0 hz1 hz2 rfl (by omega) _ _ _ rfl HLa.out.out _ _ 1 _ _ rfl Ra.out (insCells_one _) ?_ ?_ ?_ ?_
                · have := HLn.out; simp only [maxLen]; omega
                · have := HLn.out; omega
                · exact hz3
                intro v5 w5 hown5 hg5 _
                obtain ⟨A5, c5, hv5, _, _⟩ := Rd.of_own_cap hown5
                subst hv5
                have HO5 := Lib.hid hown5
                have HG5 := Lib.hid hg5
                have hk5 := HLa.out.bk.grown hg5 (HLa.out.bk.ne_own HLa.out.out (by decide))
                have q0 : w5.cell? ⟨g, 0, none⟩ = some (.slice A6 n6 c6) := (hk5.cell 0).trans rfl
                have p0 := hk5.frozen 0
                have HB5 := Lib.hid (HBa.out.trans (below_row HLa.out.out hg5 (Nat.le_of_lt HLa.out.lt)))
                have HK5 := Lib.hid ((HKq.out.alloc (.cells #[.int .i64 0, .int .i64 (q : Int), .int .i64 0, .int .i64 0, .int .u64 0] 43)).grown hg5 (fun g' e => own_cell HLa.out.out e))
                have hg5' := hk5.lt
                clear hown5 hg5 hk5 _t tok1))
            go_roundw
            case rel => exact ⟨q + 1, A5, _, c5, ⟨by omega, by go_num⟩, (by show LkV _ _ _ _ _ _ _ _ _ _ _ _ _ _; rw [HE.out]; exact LkV.app HLa.out HG5.out HO5.out rfl), HB5.out.setCell (p := ⟨g, 0, none⟩) (Nat.le_refl _) _, HK5.out.setCell ⟨g, 0, none⟩ rfl _⟩
            case measure => simp [intOf]; omega
        · obtain rfl : q = 16 := by omega
          have HE : Hid (clearTo M 16 = clearL code) := by show _ = _; rw [HMe.out]; exact clearTo_all HReg.out
          go_wp2
          go_end0
          refine ⟨rfl, ⟨.slice A6 n6 c6, ?_⟩, HBq.out, HKq.out⟩
          rw [← HE.out]
          exact HLq.out
end Go.Proofs.Ytddaeaimimdonaa
