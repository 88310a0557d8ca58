/-
  Chapter 19: contracts of tumblerref19.uses, before. Chapter 19: contract of tumblerref19.Fault. Printed by gen/ljb.py.
-/
import Derived.Test.YtddaeaimimdonaaLkP
import Derived.Test.YtddaeaimimdonaaCtrD
import Derived.Test.YtddaeaimimdonaaOwn
import Derived.Test.YtddaeaimimdonaaLkA
import Derived.Test.YtddaeaimimdonaaChkF
namespace Go.Proofs.Ytddaeaimimdonaa
open Go.RowKit
set_option linter.unusedVariables false

set_option maxRecDepth 100000 in
set_option maxHeartbeats 1000000 in
theorem ruses_any (op a b c imm : Int) (r : Nat) (w : World) :
    Calls Try.prog 65 #[.agg #[.int .i64 op, .int .i64 a, .int .i64 b, .int .i64 c, .int .u64 imm], .int .i64 r] w fun e w' => e = .returned (.bool (usesOf ⟨op, a, b, c, imm⟩ r)) ∧ Below w.heap.size w w' := by
  obtain ⟨N, hN⟩ : ∃ N, regsOf op = N := ⟨_, rfl⟩
  have HE : Hid (usesOf ⟨op, a, b, c, imm⟩ r = decide ((0 < N ∧ a = r) ∨ (1 < N ∧ b = r) ∨ (2 < N ∧ c = r))) := by show _ = _; unfold usesOf; rw [hN]
  have HN := Lib.hid hN
  clear hN
  go_enter Try.func65, Try.ntmps65
  go_wp2_with fail
  refine (regs_any op _).mono ?_
  rintro e W ⟨rfl, rfl⟩
  rw [HN.out]
  by_cases h0 : 0 < N <;> by_cases h1 : 1 < N <;> by_cases h2 : 2 < N <;> by_cases g0 : (a == (r : Int)) = true <;> by_cases g1 : (b == (r : Int)) = true <;> by_cases g2 : (c == (r : Int)) = true
  all_goals
    (try (exfalso; omega))
  all_goals
    (try simp only [Bool.not_eq_true] at g0 g1 g2)
    go_wp2
    go_ret
    refine ⟨ret_bool ?_, (Below.refl _ _).alloc (Nat.le_refl _) _⟩
    rw [HE.out]
    (try simp only [beq_iff_eq, beq_eq_false_iff_ne, ne_eq] at g0 g1 g2)
    simp [h0, h1, h2, g0, g1, g2]
set_option maxRecDepth 100000 in
set_option maxHeartbeats 1000000 in
theorem rbefore_any (code : List Ins) (A : Option Addr) (n c m : Nat) (d0 d1 d2 d3 v0 v1 v2 v3 : Int) (w : World) (hr : RdI w w.heap.size A n code) (hm : m ≤ n) (hn : n ≤ 1000) :
    Calls Try.prog 67 #[.agg #[.slice A n c, .int .i64 d0, .int .u64 v0, .int .i64 d1, .int .u64 v1, .int .i64 d2, .int .u64 v2, .int .i64 d3, .int .u64 v3], .int .i64 m] w fun e w' => e = .returned (.int .i64 (beforeL code m)) ∧ Below w.heap.size w w' := by
  have HR := Lib.hid hr
  have HLen := Lib.hid hr.insLen
  clear hr
  go_enter Try.func67, Try.ntmps67
  go_upto_region 1 with fail
  obtain ⟨W1, h1⟩ : ∃ V, w.alloc (.cells #[.slice A n c, .int .i64 d0, .int .u64 v0, .int .i64 d1, .int .u64 v1, .int .i64 d2, .int .u64 v2, .int .i64 d3, .int .u64 v3] 112) = V := ⟨_, rfl⟩
  rw [h1]
  have HB : Hid (Below w.heap.size w W1) := by show Below _ _ _; rw [← h1]; exact (Below.refl _ _).alloc (Nat.le_refl _) _
  have x0 : W1.cell? ⟨w.heap.size, 0, none⟩ = some (.slice A n c) := by rw [← h1]; exact ((Bk.new w _ _).cell 0).trans rfl
  clear h1
  go_wp2
  go_loopw [6, 5] (fun i z wr => ∃ j : Nat, (j ≤ m ∧ i = .int .i64 j) ∧ z = .int .i64 ((beforeL code j : Nat) : Int) ∧ wr = W1) (fun i _ _ => m - (intOf i).toNat)
  case atStart => exact ⟨0, ⟨by omega, rfl⟩, rfl, rfl⟩
  case round =>
    obtain ⟨j, ⟨hj, rfl⟩, rfl, rfl⟩ := hrel
    by_cases hlt : j < m
    · have hlti : (j : Int) < (m : Int) := by omega
      obtain ⟨b, o, i, rfl, hbB, hi, c0, c1, c2, c3, c4⟩ := (HR.out.below HB.out).insAt (show j < n by omega)
      have HS : Hid (sizeL code j = if i.op = 20 ∧ j + 1 < n then 2 else 1) := by
        show _ = _
        unfold sizeL
        rw [List.getD_eq_getElem?_getD, hi, HLen.out]; rfl
      have hb2 : beforeL code j ≤ 2000 := by
        have : ∀ q, beforeL code q ≤ 2 * q := fun q => by
          induction q with
          | zero => simp [beforeL]
          | succ q ih =>
            rw [beforeL]
            have : sizeL code q ≤ 2 := by unfold sizeL; split <;> omega
            omega
        have := this j
        omega
      have HN : Hid (beforeL code (j + 1) = beforeL code j + sizeL code j) := rfl
      obtain ⟨B, hB⟩ : ∃ B, beforeL code j = B := ⟨_, rfl⟩
      rw [hB] at hb2 HN ⊢
      obtain ⟨op, ia, ib, ic, imm⟩ := i
      simp only at c0 HS
      clear hi hB c1 c2 c3 c4
      by_cases h20 : op = 20
      · subst h20
        by_cases hl : j + 1 < n
        · have hli : (j : Int) + 1 < (n : Int) := by omega
          have HE : Hid (beforeL code (j + 1) = B + 2) := by show _ = _; rw [HN.out, HS.out, if_pos ⟨rfl, hl⟩]
          go_wp2
          go_roundw
          case rel => exact ⟨j + 1, ⟨by omega, by go_num⟩, by rw [HE.out]; go_num, trivial⟩
          case measure => simp [intOf]; omega
        · have hli : ¬ ((j : Int) + 1 < (n : Int)) := by omega
          have HE : Hid (beforeL code (j + 1) = B + 1) := by show _ = _; rw [HN.out, HS.out, if_neg (by omega)]
          go_wp2
          go_roundw
          case rel => exact ⟨j + 1, ⟨by omega, by go_num⟩, by rw [HE.out]; go_num, trivial⟩
          case measure => simp [intOf]; omega
      · have e20 : (op == 20) = false := by simpa using h20
        have HE : Hid (beforeL code (j + 1) = B + 1) := by show _ = _; rw [HN.out, HS.out, if_neg (by omega)]
        go_wp2
        go_roundw
        case rel => exact ⟨j + 1, ⟨by omega, by go_num⟩, by rw [HE.out]; go_num, trivial⟩
        case measure => simp [intOf]; omega
    · obtain rfl : m = j := by omega
      go_wp2
      go_ret
      exact ⟨rfl, HB.out⟩
end Go.Proofs.Ytddaeaimimdonaa
namespace Go.Proofs.Ytddaeaimimdonaa
open Go.RowKit
set_option linter.unusedVariables false

set_option maxRecDepth 100000 in
set_option maxHeartbeats 8000000 in
theorem jfault_any (code : List Ins) (A : Option Addr) (n c : Nat) (d0 d1 d2 d3 v0 v1 v2 v3 : Int) (K : Nat) (w : World) (hr : RdI w w.heap.size A n code) (hok : ∀ i ∈ code, i.Ok) (hK : K ≤ 100) :
    Calls Try.prog 46 #[.agg #[.slice A n c, .int .i64 d0, .int .u64 v0, .int .i64 d1, .int .u64 v1, .int .i64 d2, .int .u64 v2, .int .i64 d3, .int .u64 v3], .int .i64 K] w
      fun e w' => e = .returned (.int .i64 (faultL code [⟨d0, v0⟩, ⟨d1, v1⟩, ⟨d2, v2⟩, ⟨d3, v3⟩] K)) ∧ Below w.heap.size w w' := by
  have HR := Lib.hid hr
  have HL := Lib.hid hr.insLen
  have h63 := hr.le
  have HOk := Lib.hid hok
  have HKw : Hid (IntKind.u64.wrap (K : Int) = K) := by show _ = _; rw [IntKind.wrap_u64]; omega
  unfold maxLen at h63
  clear hr hok
  go_enter Try.func46, Try.ntmps46
  go_wp2_with fail
  refine (rright_any code A n c _ ((HR.out.below ((Below.refl _ _).alloc (Nat.le_refl _) _)).more (by simp)) HOk.out).mono ?_
  rintro e W1 ⟨rfl, hb1⟩
  have HB1 := Lib.hid (((Below.refl w.heap.size w).alloc (Nat.le_refl _) _).trans (hb1.mono (by simp)))
  have HX1 := Lib.hid ((Bk.new w 112 #[.slice A n c, .int .i64 d0, .int .u64 v0, .int .i64 d1, .int .u64 v1, .int .i64 d2, .int .u64 v2, .int .i64 d3, .int .u64 v3]).below hb1 (Bk.new w _ _).lt)
  clear hb1
  cases hri : rightP code
  · have HE : Hid (faultL code [⟨d0, v0⟩, ⟨d1, v1⟩, ⟨d2, v2⟩, ⟨d3, v3⟩] K = 30) := by show _ = _; unfold faultL; rw [if_pos hri]
    clear hri
    go_wp2
    go_ret
    exact ⟨ret_int HE.out.symm, HB1.out⟩
  have HRi := Lib.hid hri
  clear hri
  have k0 : W1.cell? ⟨w.heap.size, 0, none⟩ = some (.slice A n c) := (HX1.out.cell 0).trans rfl
  go_wp2
  go_loopw [5] (fun i wr => ∃ k : Nat, (k ≤ n ∧ i = .int .i64 k) ∧ Hid (∀ j ∈ code.take k, highP j = false) ∧ wr = W1) (fun i _ => n - (intOf i).toNat)
  case atStart => exact ⟨0, ⟨by omega, rfl⟩, fun j hj => by simp at hj, rfl⟩
  case round =>
    obtain ⟨k, ⟨hk, rfl⟩, HF, rfl⟩ := hrel
    by_cases hlt : k < n
    · obtain ⟨b, o, i, rfl, hbB, hi, c0, c1, c2, c3, c4⟩ := (HR.out.below HB1.out).insAt hlt
      obtain ⟨op, ia, ib, ic, imm⟩ := i
      simp only at c0 c1 c2 c3 c4
      have HI := Lib.hid hi
      have hki : (k : Int) < (n : Int) := by omega
      clear hi
      by_cases ga : 11 < ia
      · have HE := Lib.hid (faultL_30 (args := [⟨d0, v0⟩, ⟨d1, v1⟩, ⟨d2, v2⟩, ⟨d3, v3⟩]) (k := K) HRi.out HI.out (decide_eq_true (by simp only []; omega)))
        go_wp2
        go_ret
        exact ⟨ret_int HE.out.symm, HB1.out⟩
      by_cases gb : 11 < ib
      · have HE := Lib.hid (faultL_30 (args := [⟨d0, v0⟩, ⟨d1, v1⟩, ⟨d2, v2⟩, ⟨d3, v3⟩]) (k := K) HRi.out HI.out (decide_eq_true (by simp only []; omega)))
        go_wp2
        go_ret
        exact ⟨ret_int HE.out.symm, HB1.out⟩
      by_cases gc : 11 < ic
      · have HE := Lib.hid (faultL_30 (args := [⟨d0, v0⟩, ⟨d1, v1⟩, ⟨d2, v2⟩, ⟨d3, v3⟩]) (k := K) HRi.out HI.out (decide_eq_true (by simp only []; omega)))
        go_wp2
        go_ret
        exact ⟨ret_int HE.out.symm, HB1.out⟩
      have HF2 := Lib.hid (any_take_step HF.out HI.out (decide_eq_false (by simp only []; omega)))
      go_wp2
      go_roundw
      case rel => exact ⟨k + 1, ⟨by omega, by go_num⟩, HF2.out, trivial⟩
      case measure => simp [intOf]; omega
    · obtain rfl : n = k := by omega
      have HAn : Hid (code.any highP = false) := any_false_of fun y hy => HF.out y (by rw [List.take_of_length_le (by rw [HL.out]; exact Nat.le_refl _)]; exact hy)
      have x0 : wr.cell? ⟨w.heap.size, 1, none⟩ = some (.int .i64 d0) := (HX1.out.cell 1).trans rfl
      have x1 : wr.cell? ⟨w.heap.size, 2, none⟩ = some (.int .u64 v0) := (HX1.out.cell 2).trans rfl
      have x2 : wr.cell? ⟨w.heap.size, 3, none⟩ = some (.int .i64 d1) := (HX1.out.cell 3).trans rfl
      have x3 : wr.cell? ⟨w.heap.size, 4, none⟩ = some (.int .u64 v1) := (HX1.out.cell 4).trans rfl
      have x4 : wr.cell? ⟨w.heap.size, 5, none⟩ = some (.int .i64 d2) := (HX1.out.cell 5).trans rfl
      have x5 : wr.cell? ⟨w.heap.size, 6, none⟩ = some (.int .u64 v2) := (HX1.out.cell 6).trans rfl
      have x6 : wr.cell? ⟨w.heap.size, 7, none⟩ = some (.int .i64 d3) := (HX1.out.cell 7).trans rfl
      have x7 : wr.cell? ⟨w.heap.size, 8, none⟩ = some (.int .u64 v3) := (HX1.out.cell 8).trans rfl
      have hkw := HKw.out
      go_wp2
      go_loopw [6, 7] (fun i _u wq => ∃ q : Nat, (q ≤ 4 ∧ i = .int .i64 q) ∧ Hid (∀ a ∈ ([⟨d0, v0⟩, ⟨d1, v1⟩, ⟨d2, v2⟩, ⟨d3, v3⟩] : List PArg).take q, badArg K a = false) ∧ Hid (Below w.heap.size w wq) ∧ Hid (wr.grownBy wq none)) (fun i _ _ => 4 - (intOf i).toNat)
      case atStart => exact ⟨0, ⟨by omega, rfl⟩, fun j hj => by simp at hj, HB1, World.grownBy.refl _ _⟩
      case round =>
        obtain ⟨q, ⟨hq, rfl⟩, HQ, HBq, HGq⟩ := hrel
        have HXq := Lib.hid (HX1.out.grown HGq.out (by simp))
        have hq5 : q = 0 ∨ q = 1 ∨ q = 2 ∨ q = 3 ∨ q = 4 := by omega
        clear hq x0 x1 x2 x3 x4 x5 x6 x7
        rcases hq5 with rfl | rfl | rfl | rfl | rfl
        · have x0 : wr.cell? ⟨w.heap.size, 1, none⟩ = some (.int .i64 d0) := (HXq.out.cell 1).trans rfl
          have x1 : wr.cell? ⟨w.heap.size, 2, none⟩ = some (.int .u64 v0) := (HXq.out.cell 2).trans rfl
          by_cases h1 : d0 < 0
          · skip
            have HE := Lib.hid (faultL_1 (args := [⟨d0, v0⟩, ⟨d1, v1⟩, ⟨d2, v2⟩, ⟨d3, v3⟩]) (k := K) (q := 0) HRi.out HAn.out rfl (decide_eq_true (by simp only []; (try have h3 := H3.out); (try have h5 := H5.out); omega)))
            go_wp2
            go_ret
            exact ⟨ret_int HE.out.symm, HBq.out.alloc HBq.out.size _⟩
          · by_cases h2 : 2 < d0
            · skip
              have HE := Lib.hid (faultL_1 (args := [⟨d0, v0⟩, ⟨d1, v1⟩, ⟨d2, v2⟩, ⟨d3, v3⟩]) (k := K) (q := 0) HRi.out HAn.out rfl (decide_eq_true (by simp only []; (try have h3 := H3.out); (try have h5 := H5.out); omega)))
              go_wp2
              go_ret
              exact ⟨ret_int HE.out.symm, HBq.out.alloc HBq.out.size _⟩
            · by_cases h3 : d0 = 1
              · have e1 : (d0 == 1) = true := by simpa using h3
                have e2 : (d0 == 2) = false := by simp [h3]
                have H3 := Lib.hid h3
                clear h3
                by_cases h4 : (K : Int) ≤ v0
                · skip
                  have HE := Lib.hid (faultL_1 (args := [⟨d0, v0⟩, ⟨d1, v1⟩, ⟨d2, v2⟩, ⟨d3, v3⟩]) (k := K) (q := 0) HRi.out HAn.out rfl (decide_eq_true (by simp only []; (try have h3 := H3.out); (try have h5 := H5.out); omega)))
                  go_wp2
                  go_ret
                  exact ⟨ret_int HE.out.symm, HBq.out.alloc HBq.out.size _⟩
                · skip
                  have HQ2 := Lib.hid (any_take_step (x := ⟨d0, v0⟩) HQ.out rfl (decide_eq_false (by simp only []; (try have h3 := H3.out); (try have h5 := H5.out); omega)))
                  go_wp2
                  go_roundw
                  case rel => exact ⟨1, ⟨by omega, by go_num⟩, HQ2, HBq.out.alloc HBq.out.size _, HGq.out.trans (World.grownBy_alloc _ _ _)⟩
                  case measure => simp [intOf]
              · have e1 : (d0 == 1) = false := by simpa using h3
                by_cases h5 : d0 = 2
                · have e2 : (d0 == 2) = true := by simpa using h5
                  have H5 := Lib.hid h5
                  clear h5
                  by_cases h6 : 3 < v0
                  · skip
                    have HE := Lib.hid (faultL_1 (args := [⟨d0, v0⟩, ⟨d1, v1⟩, ⟨d2, v2⟩, ⟨d3, v3⟩]) (k := K) (q := 0) HRi.out HAn.out rfl (decide_eq_true (by simp only []; (try have h3 := H3.out); (try have h5 := H5.out); omega)))
                    go_wp2
                    go_ret
                    exact ⟨ret_int HE.out.symm, HBq.out.alloc HBq.out.size _⟩
                  · skip
                    have HQ2 := Lib.hid (any_take_step (x := ⟨d0, v0⟩) HQ.out rfl (decide_eq_false (by simp only []; (try have h3 := H3.out); (try have h5 := H5.out); omega)))
                    go_wp2
                    go_roundw
                    case rel => exact ⟨1, ⟨by omega, by go_num⟩, HQ2, HBq.out.alloc HBq.out.size _, HGq.out.trans (World.grownBy_alloc _ _ _)⟩
                    case measure => simp [intOf]
                · have e2 : (d0 == 2) = false := by simpa using h5
                  have HQ2 := Lib.hid (any_take_step (x := ⟨d0, v0⟩) HQ.out rfl (decide_eq_false (by simp only []; (try have h3 := H3.out); (try have h5 := H5.out); omega)))
                  go_wp2
                  go_roundw
                  case rel => exact ⟨1, ⟨by omega, by go_num⟩, HQ2, HBq.out.alloc HBq.out.size _, HGq.out.trans (World.grownBy_alloc _ _ _)⟩
                  case measure => simp [intOf]
        · have x0 : wr.cell? ⟨w.heap.size, 3, none⟩ = some (.int .i64 d1) := (HXq.out.cell 3).trans rfl
          have x1 : wr.cell? ⟨w.heap.size, 4, none⟩ = some (.int .u64 v1) := (HXq.out.cell 4).trans rfl
          by_cases h1 : d1 < 0
          · skip
            have HE := Lib.hid (faultL_1 (args := [⟨d0, v0⟩, ⟨d1, v1⟩, ⟨d2, v2⟩, ⟨d3, v3⟩]) (k := K) (q := 1) HRi.out HAn.out rfl (decide_eq_true (by simp only []; (try have h3 := H3.out); (try have h5 := H5.out); omega)))
            go_wp2
            go_ret
            exact ⟨ret_int HE.out.symm, HBq.out.alloc HBq.out.size _⟩
          · by_cases h2 : 2 < d1
            · skip
              have HE := Lib.hid (faultL_1 (args := [⟨d0, v0⟩, ⟨d1, v1⟩, ⟨d2, v2⟩, ⟨d3, v3⟩]) (k := K) (q := 1) HRi.out HAn.out rfl (decide_eq_true (by simp only []; (try have h3 := H3.out); (try have h5 := H5.out); omega)))
              go_wp2
              go_ret
              exact ⟨ret_int HE.out.symm, HBq.out.alloc HBq.out.size _⟩
            · by_cases h3 : d1 = 1
              · have e1 : (d1 == 1) = true := by simpa using h3
                have e2 : (d1 == 2) = false := by simp [h3]
                have H3 := Lib.hid h3
                clear h3
                by_cases h4 : (K : Int) ≤ v1
                · skip
                  have HE := Lib.hid (faultL_1 (args := [⟨d0, v0⟩, ⟨d1, v1⟩, ⟨d2, v2⟩, ⟨d3, v3⟩]) (k := K) (q := 1) HRi.out HAn.out rfl (decide_eq_true (by simp only []; (try have h3 := H3.out); (try have h5 := H5.out); omega)))
                  go_wp2
                  go_ret
                  exact ⟨ret_int HE.out.symm, HBq.out.alloc HBq.out.size _⟩
                · skip
                  have HQ2 := Lib.hid (any_take_step (x := ⟨d1, v1⟩) HQ.out rfl (decide_eq_false (by simp only []; (try have h3 := H3.out); (try have h5 := H5.out); omega)))
                  go_wp2
                  go_roundw
                  case rel => exact ⟨2, ⟨by omega, by go_num⟩, HQ2, HBq.out.alloc HBq.out.size _, HGq.out.trans (World.grownBy_alloc _ _ _)⟩
                  case measure => simp [intOf]
              · have e1 : (d1 == 1) = false := by simpa using h3
                by_cases h5 : d1 = 2
                · have e2 : (d1 == 2) = true := by simpa using h5
                  have H5 := Lib.hid h5
                  clear h5
                  by_cases h6 : 3 < v1
                  · skip
                    have HE := Lib.hid (faultL_1 (args := [⟨d0, v0⟩, ⟨d1, v1⟩, ⟨d2, v2⟩, ⟨d3, v3⟩]) (k := K) (q := 1) HRi.out HAn.out rfl (decide_eq_true (by simp only []; (try have h3 := H3.out); (try have h5 := H5.out); omega)))
                    go_wp2
                    go_ret
                    exact ⟨ret_int HE.out.symm, HBq.out.alloc HBq.out.size _⟩
                  · skip
                    have HQ2 := Lib.hid (any_take_step (x := ⟨d1, v1⟩) HQ.out rfl (decide_eq_false (by simp only []; (try have h3 := H3.out); (try have h5 := H5.out); omega)))
                    go_wp2
                    go_roundw
                    case rel => exact ⟨2, ⟨by omega, by go_num⟩, HQ2, HBq.out.alloc HBq.out.size _, HGq.out.trans (World.grownBy_alloc _ _ _)⟩
                    case measure => simp [intOf]
                · have e2 : (d1 == 2) = false := by simpa using h5
                  have HQ2 := Lib.hid (any_take_step (x := ⟨d1, v1⟩) HQ.out rfl (decide_eq_false (by simp only []; (try have h3 := H3.out); (try have h5 := H5.out); omega)))
                  go_wp2
                  go_roundw
                  case rel => exact ⟨2, ⟨by omega, by go_num⟩, HQ2, HBq.out.alloc HBq.out.size _, HGq.out.trans (World.grownBy_alloc _ _ _)⟩
                  case measure => simp [intOf]
        · have x0 : wr.cell? ⟨w.heap.size, 5, none⟩ = some (.int .i64 d2) := (HXq.out.cell 5).trans rfl
          have x1 : wr.cell? ⟨w.heap.size, 6, none⟩ = some (.int .u64 v2) := (HXq.out.cell 6).trans rfl
          by_cases h1 : d2 < 0
          · skip
            have HE := Lib.hid (faultL_1 (args := [⟨d0, v0⟩, ⟨d1, v1⟩, ⟨d2, v2⟩, ⟨d3, v3⟩]) (k := K) (q := 2) HRi.out HAn.out rfl (decide_eq_true (by simp only []; (try have h3 := H3.out); (try have h5 := H5.out); omega)))
            go_wp2
            go_ret
            exact ⟨ret_int HE.out.symm, HBq.out.alloc HBq.out.size _⟩
          · by_cases h2 : 2 < d2
            · skip
              have HE := Lib.hid (faultL_1 (args := [⟨d0, v0⟩, ⟨d1, v1⟩, ⟨d2, v2⟩, ⟨d3, v3⟩]) (k := K) (q := 2) HRi.out HAn.out rfl (decide_eq_true (by simp only []; (try have h3 := H3.out); (try have h5 := H5.out); omega)))
              go_wp2
              go_ret
              exact ⟨ret_int HE.out.symm, HBq.out.alloc HBq.out.size _⟩
            · by_cases h3 : d2 = 1
              · have e1 : (d2 == 1) = true := by simpa using h3
                have e2 : (d2 == 2) = false := by simp [h3]
                have H3 := Lib.hid h3
                clear h3
                by_cases h4 : (K : Int) ≤ v2
                · skip
                  have HE := Lib.hid (faultL_1 (args := [⟨d0, v0⟩, ⟨d1, v1⟩, ⟨d2, v2⟩, ⟨d3, v3⟩]) (k := K) (q := 2) HRi.out HAn.out rfl (decide_eq_true (by simp only []; (try have h3 := H3.out); (try have h5 := H5.out); omega)))
                  go_wp2
                  go_ret
                  exact ⟨ret_int HE.out.symm, HBq.out.alloc HBq.out.size _⟩
                · skip
                  have HQ2 := Lib.hid (any_take_step (x := ⟨d2, v2⟩) HQ.out rfl (decide_eq_false (by simp only []; (try have h3 := H3.out); (try have h5 := H5.out); omega)))
                  go_wp2
                  go_roundw
                  case rel => exact ⟨3, ⟨by omega, by go_num⟩, HQ2, HBq.out.alloc HBq.out.size _, HGq.out.trans (World.grownBy_alloc _ _ _)⟩
                  case measure => simp [intOf]
              · have e1 : (d2 == 1) = false := by simpa using h3
                by_cases h5 : d2 = 2
                · have e2 : (d2 == 2) = true := by simpa using h5
                  have H5 := Lib.hid h5
                  clear h5
                  by_cases h6 : 3 < v2
                  · skip
                    have HE := Lib.hid (faultL_1 (args := [⟨d0, v0⟩, ⟨d1, v1⟩, ⟨d2, v2⟩, ⟨d3, v3⟩]) (k := K) (q := 2) HRi.out HAn.out rfl (decide_eq_true (by simp only []; (try have h3 := H3.out); (try have h5 := H5.out); omega)))
                    go_wp2
                    go_ret
                    exact ⟨ret_int HE.out.symm, HBq.out.alloc HBq.out.size _⟩
                  · skip
                    have HQ2 := Lib.hid (any_take_step (x := ⟨d2, v2⟩) HQ.out rfl (decide_eq_false (by simp only []; (try have h3 := H3.out); (try have h5 := H5.out); omega)))
                    go_wp2
                    go_roundw
                    case rel => exact ⟨3, ⟨by omega, by go_num⟩, HQ2, HBq.out.alloc HBq.out.size _, HGq.out.trans (World.grownBy_alloc _ _ _)⟩
                    case measure => simp [intOf]
                · have e2 : (d2 == 2) = false := by simpa using h5
                  have HQ2 := Lib.hid (any_take_step (x := ⟨d2, v2⟩) HQ.out rfl (decide_eq_false (by simp only []; (try have h3 := H3.out); (try have h5 := H5.out); omega)))
                  go_wp2
                  go_roundw
                  case rel => exact ⟨3, ⟨by omega, by go_num⟩, HQ2, HBq.out.alloc HBq.out.size _, HGq.out.trans (World.grownBy_alloc _ _ _)⟩
                  case measure => simp [intOf]
        · have x0 : wr.cell? ⟨w.heap.size, 7, none⟩ = some (.int .i64 d3) := (HXq.out.cell 7).trans rfl
          have x1 : wr.cell? ⟨w.heap.size, 8, none⟩ = some (.int .u64 v3) := (HXq.out.cell 8).trans rfl
          by_cases h1 : d3 < 0
          · skip
            have HE := Lib.hid (faultL_1 (args := [⟨d0, v0⟩, ⟨d1, v1⟩, ⟨d2, v2⟩, ⟨d3, v3⟩]) (k := K) (q := 3) HRi.out HAn.out rfl (decide_eq_true (by simp only []; (try have h3 := H3.out); (try have h5 := H5.out); omega)))
            go_wp2
            go_ret
            exact ⟨ret_int HE.out.symm, HBq.out.alloc HBq.out.size _⟩
          · by_cases h2 : 2 < d3
            · skip
              have HE := Lib.hid (faultL_1 (args := [⟨d0, v0⟩, ⟨d1, v1⟩, ⟨d2, v2⟩, ⟨d3, v3⟩]) (k := K) (q := 3) HRi.out HAn.out rfl (decide_eq_true (by simp only []; (try have h3 := H3.out); (try have h5 := H5.out); omega)))
              go_wp2
              go_ret
              exact ⟨ret_int HE.out.symm, HBq.out.alloc HBq.out.size _⟩
            · by_cases h3 : d3 = 1
              · have e1 : (d3 == 1) = true := by simpa using h3
                have e2 : (d3 == 2) = false := by simp [h3]
                have H3 := Lib.hid h3
                clear h3
                by_cases h4 : (K : Int) ≤ v3
                · skip
                  have HE := Lib.hid (faultL_1 (args := [⟨d0, v0⟩, ⟨d1, v1⟩, ⟨d2, v2⟩, ⟨d3, v3⟩]) (k := K) (q := 3) HRi.out HAn.out rfl (decide_eq_true (by simp only []; (try have h3 := H3.out); (try have h5 := H5.out); omega)))
                  go_wp2
                  go_ret
                  exact ⟨ret_int HE.out.symm, HBq.out.alloc HBq.out.size _⟩
                · skip
                  have HQ2 := Lib.hid (any_take_step (x := ⟨d3, v3⟩) HQ.out rfl (decide_eq_false (by simp only []; (try have h3 := H3.out); (try have h5 := H5.out); omega)))
                  go_wp2
                  go_roundw
                  case rel => exact ⟨4, ⟨by omega, by go_num⟩, HQ2, HBq.out.alloc HBq.out.size _, HGq.out.trans (World.grownBy_alloc _ _ _)⟩
                  case measure => simp [intOf]
              · have e1 : (d3 == 1) = false := by simpa using h3
                by_cases h5 : d3 = 2
                · have e2 : (d3 == 2) = true := by simpa using h5
                  have H5 := Lib.hid h5
                  clear h5
                  by_cases h6 : 3 < v3
                  · skip
                    have HE := Lib.hid (faultL_1 (args := [⟨d0, v0⟩, ⟨d1, v1⟩, ⟨d2, v2⟩, ⟨d3, v3⟩]) (k := K) (q := 3) HRi.out HAn.out rfl (decide_eq_true (by simp only []; (try have h3 := H3.out); (try have h5 := H5.out); omega)))
                    go_wp2
                    go_ret
                    exact ⟨ret_int HE.out.symm, HBq.out.alloc HBq.out.size _⟩
                  · skip
                    have HQ2 := Lib.hid (any_take_step (x := ⟨d3, v3⟩) HQ.out rfl (decide_eq_false (by simp only []; (try have h3 := H3.out); (try have h5 := H5.out); omega)))
                    go_wp2
                    go_roundw
                    case rel => exact ⟨4, ⟨by omega, by go_num⟩, HQ2, HBq.out.alloc HBq.out.size _, HGq.out.trans (World.grownBy_alloc _ _ _)⟩
                    case measure => simp [intOf]
                · have e2 : (d3 == 2) = false := by simpa using h5
                  have HQ2 := Lib.hid (any_take_step (x := ⟨d3, v3⟩) HQ.out rfl (decide_eq_false (by simp only []; (try have h3 := H3.out); (try have h5 := H5.out); omega)))
                  go_wp2
                  go_roundw
                  case rel => exact ⟨4, ⟨by omega, by go_num⟩, HQ2, HBq.out.alloc HBq.out.size _, HGq.out.trans (World.grownBy_alloc _ _ _)⟩
                  case measure => simp [intOf]
        · have HAr : Hid (([⟨d0, v0⟩, ⟨d1, v1⟩, ⟨d2, v2⟩, ⟨d3, v3⟩] : List PArg).any (badArg K) = false) := any_false_of fun y hy => HQ.out y hy
          have HE := Lib.hid (faultL_0 HRi.out HAn.out HAr.out)
          go_wp2
          go_ret
          exact ⟨ret_int HE.out.symm, HBq.out⟩
end Go.Proofs.Ytddaeaimimdonaa
