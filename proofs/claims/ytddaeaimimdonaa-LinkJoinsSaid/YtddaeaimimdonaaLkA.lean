/-
  Chapter 19: contracts of link.handed, link.high, link.fault. Printed by gen/lka.py.
-/
import Derived.Test.YtddaeaimimdonaaLkP
import Derived.Test.YtddaeaimimdonaaModF
namespace Go.Proofs.Ytddaeaimimdonaa
open Go.RowKit
set_option linter.unusedVariables false

theorem bk_new2 (w : World) (o : Obj) (t : TypeId) (cs : Array Value) : Bk ((w.alloc o).alloc (.cells cs t)) (w.heap.size + 1) t cs := by
  have := Bk.new (w.alloc o) t cs
  simpa using this
set_option maxRecDepth 100000 in
set_option maxHeartbeats 1000000 in
theorem handed_any (r : Int) (kd vl : Int) (w : World) (hv : kd = 1 → 0 ≤ vl ∧ vl ≤ 1000) :
    Calls Try.prog 77 #[.int .i64 r, .agg #[.int .i64 kd, .int .u64 vl]] w fun e w' => e = .returned (.agg (handedP r ⟨kd, vl⟩).cells.toArray) ∧ Below w.heap.size w w' := by
  have hE : handedP r ⟨kd, vl⟩ = if kd = 0 then ⟨0, r, 0, 0, vl⟩ else if kd = 1 then ⟨1, r, 12 + vl, 0, 0⟩ else ⟨8, r, 0, 0, vl⟩ := rfl
  rw [hE]
  have HV := Lib.hid hv
  clear hE hv
  by_cases h0 : kd = 0
  · subst h0
    rw [if_pos rfl]
    go_enter Try.func77, Try.ntmps77
    go_upto_region 1 with fail
    obtain ⟨W2, hW2⟩ : ∃ W2, (w.alloc (.cells #[.int .i64 0, .int .u64 vl] 77)).alloc (.cells #[.int .i64 0, .int .i64 0, .int .i64 0, .int .i64 0, .int .u64 0] 43) = W2 := ⟨_, rfl⟩
    have HD : Hid (Bk W2 (w.heap.size + 1) 43 #[.int .i64 0, .int .i64 0, .int .i64 0, .int .i64 0, .int .u64 0]) := by rw [← hW2]; exact bk_new2 _ _ _ _
    have hX : Bk W2 w.heap.size 77 #[.int .i64 0, .int .u64 vl] := by rw [← hW2]; exact (Bk.new _ _ _).alloc _
    have HB : Hid (Below w.heap.size w W2) := by rw [← hW2]; exact ((Below.refl _ _).alloc (Nat.le_refl _) _).alloc (by simp) _
    have x0 : W2.cell? ⟨w.heap.size, 0, none⟩ = some (.int .i64 0) := (hX.cell 0).trans rfl
    have x1 : W2.cell? ⟨w.heap.size, 1, none⟩ = some (.int .u64 vl) := (hX.cell 1).trans rfl
    have y0 : W2.cell? ⟨w.heap.size + 1, 0, none⟩ = some (.int .i64 0) := (HD.out.cell 0).trans rfl
    have y1 : W2.cell? ⟨w.heap.size + 1, 1, none⟩ = some (.int .i64 0) := (HD.out.cell 1).trans rfl
    have y2 : W2.cell? ⟨w.heap.size + 1, 2, none⟩ = some (.int .i64 0) := (HD.out.cell 2).trans rfl
    have y3 : W2.cell? ⟨w.heap.size + 1, 3, none⟩ = some (.int .i64 0) := (HD.out.cell 3).trans rfl
    have y4 : W2.cell? ⟨w.heap.size + 1, 4, none⟩ = some (.int .u64 0) := (HD.out.cell 4).trans rfl
    have f0 := HD.out.frozen 0
    have f1 := HD.out.frozen 1
    have f2 := HD.out.frozen 2
    have f3 := HD.out.frozen 3
    have f4 := HD.out.frozen 4
    rw [hW2]
    clear hW2 hX
    go_wp2
    refine bodyPost_ret (results_cell_row rfl _ _ (w.heap.size + 1) 43 _ (0, 0) _ rfl (HD.out.five _ _ _ _ _) Try.underlying43 rfl (by kernel_rfl)) rfl ⟨rfl, below_five HB.out (by omega) _ _ _ _ _⟩
  · rw [if_neg h0]
    have d0 : (kd == 0) = false := by simpa using h0
    by_cases h1 : kd = 1
    · subst h1
      rw [if_pos rfl]
      obtain ⟨v0, v1⟩ := HV.out rfl
      have hw : IntKind.i64.wrap vl = vl := IntWalk.i64_in _ (by omega)
      have hw2 : IntKind.i64.wrap (12 + vl) = 12 + vl := IntWalk.i64_in _ (by omega)
      clear h0 d0
      go_enter Try.func77, Try.ntmps77
      go_upto_region 1 with fail
      obtain ⟨W2, hW2⟩ : ∃ W2, (w.alloc (.cells #[.int .i64 1, .int .u64 vl] 77)).alloc (.cells #[.int .i64 0, .int .i64 0, .int .i64 0, .int .i64 0, .int .u64 0] 43) = W2 := ⟨_, rfl⟩
      have HD : Hid (Bk W2 (w.heap.size + 1) 43 #[.int .i64 0, .int .i64 0, .int .i64 0, .int .i64 0, .int .u64 0]) := by rw [← hW2]; exact bk_new2 _ _ _ _
      have hX : Bk W2 w.heap.size 77 #[.int .i64 1, .int .u64 vl] := by rw [← hW2]; exact (Bk.new _ _ _).alloc _
      have HB : Hid (Below w.heap.size w W2) := by rw [← hW2]; exact ((Below.refl _ _).alloc (Nat.le_refl _) _).alloc (by simp) _
      have x0 : W2.cell? ⟨w.heap.size, 0, none⟩ = some (.int .i64 1) := (hX.cell 0).trans rfl
      have x1 : W2.cell? ⟨w.heap.size, 1, none⟩ = some (.int .u64 vl) := (hX.cell 1).trans rfl
      have y0 : W2.cell? ⟨w.heap.size + 1, 0, none⟩ = some (.int .i64 0) := (HD.out.cell 0).trans rfl
      have y1 : W2.cell? ⟨w.heap.size + 1, 1, none⟩ = some (.int .i64 0) := (HD.out.cell 1).trans rfl
      have y2 : W2.cell? ⟨w.heap.size + 1, 2, none⟩ = some (.int .i64 0) := (HD.out.cell 2).trans rfl
      have y3 : W2.cell? ⟨w.heap.size + 1, 3, none⟩ = some (.int .i64 0) := (HD.out.cell 3).trans rfl
      have y4 : W2.cell? ⟨w.heap.size + 1, 4, none⟩ = some (.int .u64 0) := (HD.out.cell 4).trans rfl
      have f0 := HD.out.frozen 0
      have f1 := HD.out.frozen 1
      have f2 := HD.out.frozen 2
      have f3 := HD.out.frozen 3
      have f4 := HD.out.frozen 4
      rw [hW2]
      clear hW2 hX
      go_wp2
      refine bodyPost_ret (results_cell_row rfl _ _ (w.heap.size + 1) 43 _ (0, 0) _ rfl (HD.out.five _ _ _ _ _) Try.underlying43 rfl (by kernel_rfl)) rfl ⟨rfl, below_five HB.out (by omega) _ _ _ _ _⟩
    · rw [if_neg h1]
      have d1 : (kd == 1) = false := by simpa using h1
      go_enter Try.func77, Try.ntmps77
      go_upto_region 1 with fail
      obtain ⟨W2, hW2⟩ : ∃ W2, (w.alloc (.cells #[.int .i64 kd, .int .u64 vl] 77)).alloc (.cells #[.int .i64 0, .int .i64 0, .int .i64 0, .int .i64 0, .int .u64 0] 43) = W2 := ⟨_, rfl⟩
      have HD : Hid (Bk W2 (w.heap.size + 1) 43 #[.int .i64 0, .int .i64 0, .int .i64 0, .int .i64 0, .int .u64 0]) := by rw [← hW2]; exact bk_new2 _ _ _ _
      have hX : Bk W2 w.heap.size 77 #[.int .i64 kd, .int .u64 vl] := by rw [← hW2]; exact (Bk.new _ _ _).alloc _
      have HB : Hid (Below w.heap.size w W2) := by rw [← hW2]; exact ((Below.refl _ _).alloc (Nat.le_refl _) _).alloc (by simp) _
      have x0 : W2.cell? ⟨w.heap.size, 0, none⟩ = some (.int .i64 kd) := (hX.cell 0).trans rfl
      have x1 : W2.cell? ⟨w.heap.size, 1, none⟩ = some (.int .u64 vl) := (hX.cell 1).trans rfl
      have y0 : W2.cell? ⟨w.heap.size + 1, 0, none⟩ = some (.int .i64 0) := (HD.out.cell 0).trans rfl
      have y1 : W2.cell? ⟨w.heap.size + 1, 1, none⟩ = some (.int .i64 0) := (HD.out.cell 1).trans rfl
      have y2 : W2.cell? ⟨w.heap.size + 1, 2, none⟩ = some (.int .i64 0) := (HD.out.cell 2).trans rfl
      have y3 : W2.cell? ⟨w.heap.size + 1, 3, none⟩ = some (.int .i64 0) := (HD.out.cell 3).trans rfl
      have y4 : W2.cell? ⟨w.heap.size + 1, 4, none⟩ = some (.int .u64 0) := (HD.out.cell 4).trans rfl
      have f0 := HD.out.frozen 0
      have f1 := HD.out.frozen 1
      have f2 := HD.out.frozen 2
      have f3 := HD.out.frozen 3
      have f4 := HD.out.frozen 4
      rw [hW2]
      clear hW2 hX
      go_wp2
      refine bodyPost_ret (results_cell_row rfl _ _ (w.heap.size + 1) 43 _ (0, 0) _ rfl (HD.out.five _ _ _ _ _) Try.underlying43 rfl (by kernel_rfl)) rfl ⟨rfl, below_five HB.out (by omega) _ _ _ _ _⟩
set_option maxRecDepth 100000 in
theorem high_any (op a b c imm : Int) (w : World) :
    Calls Try.prog 61 #[.agg #[.int .i64 op, .int .i64 a, .int .i64 b, .int .i64 c, .int .u64 imm]] w fun e w' => e = .returned (.bool (highP ⟨op, a, b, c, imm⟩)) ∧ Below w.heap.size w w' := by
  go_enter Try.func61, Try.ntmps61
  go_wp2
  all_goals
    go_ret
    refine ⟨ret_bool ?_, (Below.refl _ _).alloc (Nat.le_refl _) _⟩
    show _ = decide (12 ≤ a ∨ 12 ≤ b ∨ 12 ≤ c)
    rw [decide_eq_decide]
    constructor <;> intro hh <;> (repeat' split at *) <;> omega
theorem any_take_step {α : Type} {f : α → Bool} {l : List α} {k : Nat} {x : α} (h : ∀ y ∈ l.take k, f y = false) (hx : l[k]? = some x) (hf : f x = false) : ∀ y ∈ l.take (k + 1), f y = false := fun y hy => by
  rw [List.take_add_one, hx] at hy
  rcases List.mem_append.1 hy with hy | hy
  · exact h y hy
  · simp at hy; subst hy; exact hf
theorem any_false_of {α : Type} {f : α → Bool} {l : List α} (h : ∀ y ∈ l, f y = false) : l.any f = false := List.any_eq_false.2 fun y hy => by rw [h y hy]; simp
theorem any_true_of {α : Type} {f : α → Bool} {l : List α} {k : Nat} {x : α} (hx : l[k]? = some x) (hf : f x = true) : l.any f = true := List.any_eq_true.2 ⟨x, List.mem_of_getElem? hx, hf⟩
theorem faultL_30 {code : List Ins} {args : List PArg} {k q : Nat} {i : Ins} (h : rightP code = true) (hi : code[q]? = some i) (hh : highP i = true) : faultL code args k = 30 := by
  unfold faultL; rw [if_neg (by rw [h]; decide), if_pos (any_true_of hi hh)]
theorem faultL_1 {code : List Ins} {args : List PArg} {k q : Nat} {a : PArg} (h : rightP code = true) (h2 : code.any highP = false) (hi : args[q]? = some a) (hh : badArg k a = true) : faultL code args k = 1 := by
  unfold faultL; rw [if_neg (by rw [h]; decide), if_neg (by rw [h2]; decide), if_pos (any_true_of hi hh)]
theorem faultL_0 {code : List Ins} {args : List PArg} {k : Nat} (h : rightP code = true) (h2 : code.any highP = false) (h3 : args.any (badArg k) = false) : faultL code args k = 0 := by
  unfold faultL; rw [if_neg (by rw [h]; decide), if_neg (by rw [h2]; decide), if_neg (by rw [h3]; decide)]
set_option maxRecDepth 100000 in
set_option maxHeartbeats 8000000 in
theorem lfault_any (code : List Ins) (A : Option Addr) (n c : Nat) (d0 d1 d2 d3 v0 v1 v2 v3 : Int) (K : Nat) (w : World) (hr : RdI w w.heap.size A n code) (hok : ∀ i ∈ code, i.Ok) (hK : K ≤ 100) :
    Calls Try.prog 44 #[.agg #[.slice A n c, .int .i64 d0, .int .u64 v0, .int .i64 d1, .int .u64 v1, .int .i64 d2, .int .u64 v2, .int .i64 d3, .int .u64 v3], .int .i64 K] w
      fun e w' => e = .returned (.int .i64 (faultL code [⟨d0, v0⟩, ⟨d1, v1⟩, ⟨d2, v2⟩, ⟨d3, v3⟩] K)) ∧ Below w.heap.size w w' := by
  have HR := Lib.hid hr
  have HL := Lib.hid hr.insLen
  have h63 := hr.le
  have HOk := Lib.hid hok
  have HKw : Hid (IntKind.u64.wrap (K : Int) = K) := by show _ = _; rw [IntKind.wrap_u64]; omega
  unfold maxLen at h63
  clear hr hok
  go_enter Try.func44, Try.ntmps44
  go_wp2_with fail
  refine (right_any code A n c _ ((HR.out.below ((Below.refl _ _).alloc (Nat.le_refl _) _)).more (by simp)) HOk.out).mono ?_
  rintro e W1 ⟨rfl, hb1⟩
  have HB1 := Lib.hid (((Below.refl w.heap.size w).alloc (Nat.le_refl _) _).trans (hb1.mono (by simp)))
  have HX1 := Lib.hid ((Bk.new w 80 #[.slice A n c, .int .i64 d0, .int .u64 v0, .int .i64 d1, .int .u64 v1, .int .i64 d2, .int .u64 v2, .int .i64 d3, .int .u64 v3]).below hb1 (Bk.new w _ _).lt)
  clear hb1
  cases hri : rightP code
  · have HE : Hid (faultL code [⟨d0, v0⟩, ⟨d1, v1⟩, ⟨d2, v2⟩, ⟨d3, v3⟩] K = 30) := by show _ = _; unfold faultL; rw [if_pos hri]
    clear hri
    go_wp2
    go_ret
    exact ⟨ret_int HE.out.symm, HB1.out⟩
  have HRi := Lib.hid hri
  clear hri
  have k0 : W1.cell? ⟨w.heap.size, 0, none⟩ = some (.slice A n c) := (HX1.out.cell 0).trans rfl
  go_wp2
  go_loopw [16, 6] (fun i _u wr => ∃ k : Nat, (k ≤ n ∧ i = .int .i64 k) ∧ Hid (∀ j ∈ code.take k, highP j = false) ∧ Hid (Below w.heap.size w wr) ∧ Hid (W1.grownBy wr none)) (fun i _ _ => n - (intOf i).toNat)
  case atStart => exact ⟨0, ⟨by omega, rfl⟩, fun j hj => by simp at hj, HB1, World.grownBy.refl _ _⟩
  case round =>
    obtain ⟨k, ⟨hk, rfl⟩, HF, HB, HG⟩ := hrel
    by_cases hlt : k < n
    · obtain ⟨b, o, i, rfl, hbB, hi, c0, c1, c2, c3, c4⟩ := (HR.out.below HB.out).insAt hlt
      obtain ⟨op, ia, ib, ic, imm⟩ := i
      simp only at c0 c1 c2 c3 c4
      have HI := Lib.hid hi
      clear hi
      go_wp2_with fail
      refine (high_any op ia ib ic imm _).mono ?_
      rintro e W2 ⟨rfl, hb2⟩
      have hb12 : Below wr.heap.size wr W2 := ((Below.refl _ _).alloc (Nat.le_refl _) _).trans (hb2.mono (by simp))
      have HB2 := Lib.hid (HB.out.trans (hb12.mono HB.out.size))
      have HG2 := Lib.hid (HG.out.trans (bk_grown_below hb12))
      clear hb2 hb12
      cases hh : highP ⟨op, ia, ib, ic, imm⟩
      · have HF2 := Lib.hid (any_take_step HF.out HI.out hh)
        clear hh
        go_wp2
        go_roundw
        case rel => exact ⟨k + 1, ⟨by omega, by go_num⟩, HF2.out, HB2, HG2⟩
        case measure => simp [intOf]; omega
      · have HE := Lib.hid (faultL_30 (args := [⟨d0, v0⟩, ⟨d1, v1⟩, ⟨d2, v2⟩, ⟨d3, v3⟩]) (k := K) HRi.out HI.out hh)
        clear hh
        go_wp2
        go_ret
        exact ⟨ret_int HE.out.symm, HB2.out⟩
    · obtain rfl : n = k := by omega
      have HAn : Hid (code.any highP = false) := any_false_of fun y hy => HF.out y (by rw [List.take_of_length_le (by rw [HL.out]; exact Nat.le_refl _)]; exact hy)
      have HX := Lib.hid (HX1.out.grown HG.out (by simp))
      have x0 : wr.cell? ⟨w.heap.size, 1, none⟩ = some (.int .i64 d0) := (HX.out.cell 1).trans rfl
      have x1 : wr.cell? ⟨w.heap.size, 2, none⟩ = some (.int .u64 v0) := (HX.out.cell 2).trans rfl
      have x2 : wr.cell? ⟨w.heap.size, 3, none⟩ = some (.int .i64 d1) := (HX.out.cell 3).trans rfl
      have x3 : wr.cell? ⟨w.heap.size, 4, none⟩ = some (.int .u64 v1) := (HX.out.cell 4).trans rfl
      have x4 : wr.cell? ⟨w.heap.size, 5, none⟩ = some (.int .i64 d2) := (HX.out.cell 5).trans rfl
      have x5 : wr.cell? ⟨w.heap.size, 6, none⟩ = some (.int .u64 v2) := (HX.out.cell 6).trans rfl
      have x6 : wr.cell? ⟨w.heap.size, 7, none⟩ = some (.int .i64 d3) := (HX.out.cell 7).trans rfl
      have x7 : wr.cell? ⟨w.heap.size, 8, none⟩ = some (.int .u64 v3) := (HX.out.cell 8).trans rfl
      have hkw := HKw.out
      have hx0 : ∀ w, (Instr.index 78 (.agg #[.int .i64 d0, .int .u64 v0, .int .i64 d1, .int .u64 v1, .int .i64 d2, .int .u64 v2, .int .i64 d3, .int .u64 v3]) (.int .i64 0)).run Try.prog w = .ok (.agg #[.int .i64 d0, .int .u64 v0]) w := fun _ => by kernel_rfl
      have hx1 : ∀ w, (Instr.index 78 (.agg #[.int .i64 d0, .int .u64 v0, .int .i64 d1, .int .u64 v1, .int .i64 d2, .int .u64 v2, .int .i64 d3, .int .u64 v3]) (.int .i64 1)).run Try.prog w = .ok (.agg #[.int .i64 d1, .int .u64 v1]) w := fun _ => by kernel_rfl
      have hx2 : ∀ w, (Instr.index 78 (.agg #[.int .i64 d0, .int .u64 v0, .int .i64 d1, .int .u64 v1, .int .i64 d2, .int .u64 v2, .int .i64 d3, .int .u64 v3]) (.int .i64 2)).run Try.prog w = .ok (.agg #[.int .i64 d2, .int .u64 v2]) w := fun _ => by kernel_rfl
      have hx3 : ∀ w, (Instr.index 78 (.agg #[.int .i64 d0, .int .u64 v0, .int .i64 d1, .int .u64 v1, .int .i64 d2, .int .u64 v2, .int .i64 d3, .int .u64 v3]) (.int .i64 3)).run Try.prog w = .ok (.agg #[.int .i64 d3, .int .u64 v3]) w := fun _ => by kernel_rfl
      go_wp2
      go_loopw [25, 8] (fun i _u wq => ∃ q : Nat, (q ≤ 4 ∧ i = .int .i64 q) ∧ Hid (∀ a ∈ ([⟨d0, v0⟩, ⟨d1, v1⟩, ⟨d2, v2⟩, ⟨d3, v3⟩] : List PArg).take q, badArg K a = false) ∧ Hid (Below w.heap.size w wq)) (fun i _ _ => 4 - (intOf i).toNat)
      case atStart => exact ⟨0, ⟨by omega, rfl⟩, fun j hj => by simp at hj, HB⟩
      case round =>
        obtain ⟨q, ⟨hq, rfl⟩, HQ, HBq⟩ := hrel
        have hq5 : q = 0 ∨ q = 1 ∨ q = 2 ∨ q = 3 ∨ q = 4 := by omega
        clear hq
        rcases hq5 with rfl | rfl | rfl | rfl | rfl
        · by_cases h1 : d0 < 0
          · have HE := Lib.hid (faultL_1 (args := [⟨d0, v0⟩, ⟨d1, v1⟩, ⟨d2, v2⟩, ⟨d3, v3⟩]) (k := K) (q := 0) HRi.out HAn.out rfl (decide_eq_true (by simp only []; (try have h3 := H3.out); (try have h5 := H5.out); omega)))
            go_wp2
            go_ret
            exact ⟨ret_int HE.out.symm, HBq.out.alloc HBq.out.size _⟩
          · by_cases h2 : 2 < d0
            · have HE := Lib.hid (faultL_1 (args := [⟨d0, v0⟩, ⟨d1, v1⟩, ⟨d2, v2⟩, ⟨d3, v3⟩]) (k := K) (q := 0) HRi.out HAn.out rfl (decide_eq_true (by simp only []; (try have h3 := H3.out); (try have h5 := H5.out); omega)))
              go_wp2
              go_ret
              exact ⟨ret_int HE.out.symm, HBq.out.alloc HBq.out.size _⟩
            · by_cases h3 : d0 = 1
              · have e1 : (d0 == 1) = true := by simpa using h3
                have e2 : (d0 == 2) = false := by simp [h3]
                have H3 := Lib.hid h3
                clear h3
                by_cases h4 : (K : Int) ≤ v0
                · have HE := Lib.hid (faultL_1 (args := [⟨d0, v0⟩, ⟨d1, v1⟩, ⟨d2, v2⟩, ⟨d3, v3⟩]) (k := K) (q := 0) HRi.out HAn.out rfl (decide_eq_true (by simp only []; (try have h3 := H3.out); (try have h5 := H5.out); omega)))
                  go_wp2
                  go_ret
                  exact ⟨ret_int HE.out.symm, HBq.out.alloc HBq.out.size _⟩
                · have HQ2 := Lib.hid (any_take_step (x := ⟨d0, v0⟩) HQ.out rfl (decide_eq_false (by simp only []; (try have h3 := H3.out); (try have h5 := H5.out); omega)))
                  go_wp2
                  go_roundw
                  case rel => exact ⟨1, ⟨by omega, by go_num⟩, HQ2, HBq.out.alloc HBq.out.size _⟩
                  case measure => simp [intOf]
              · have e1 : (d0 == 1) = false := by simpa using h3
                by_cases h5 : d0 = 2
                · have e2 : (d0 == 2) = true := by simpa using h5
                  have H5 := Lib.hid h5
                  clear h5
                  by_cases h6 : 4 ≤ v0
                  · have HE := Lib.hid (faultL_1 (args := [⟨d0, v0⟩, ⟨d1, v1⟩, ⟨d2, v2⟩, ⟨d3, v3⟩]) (k := K) (q := 0) HRi.out HAn.out rfl (decide_eq_true (by simp only []; (try have h3 := H3.out); (try have h5 := H5.out); omega)))
                    go_wp2
                    go_ret
                    exact ⟨ret_int HE.out.symm, HBq.out.alloc HBq.out.size _⟩
                  · have HQ2 := Lib.hid (any_take_step (x := ⟨d0, v0⟩) HQ.out rfl (decide_eq_false (by simp only []; (try have h3 := H3.out); (try have h5 := H5.out); omega)))
                    go_wp2
                    go_roundw
                    case rel => exact ⟨1, ⟨by omega, by go_num⟩, HQ2, HBq.out.alloc HBq.out.size _⟩
                    case measure => simp [intOf]
                · have e2 : (d0 == 2) = false := by simpa using h5
                  have HQ2 := Lib.hid (any_take_step (x := ⟨d0, v0⟩) HQ.out rfl (decide_eq_false (by simp only []; (try have h3 := H3.out); (try have h5 := H5.out); omega)))
                  go_wp2
                  go_roundw
                  case rel => exact ⟨1, ⟨by omega, by go_num⟩, HQ2, HBq.out.alloc HBq.out.size _⟩
                  case measure => simp [intOf]
        · by_cases h1 : d1 < 0
          · have HE := Lib.hid (faultL_1 (args := [⟨d0, v0⟩, ⟨d1, v1⟩, ⟨d2, v2⟩, ⟨d3, v3⟩]) (k := K) (q := 1) HRi.out HAn.out rfl (decide_eq_true (by simp only []; (try have h3 := H3.out); (try have h5 := H5.out); omega)))
            go_wp2
            go_ret
            exact ⟨ret_int HE.out.symm, HBq.out.alloc HBq.out.size _⟩
          · by_cases h2 : 2 < d1
            · have HE := Lib.hid (faultL_1 (args := [⟨d0, v0⟩, ⟨d1, v1⟩, ⟨d2, v2⟩, ⟨d3, v3⟩]) (k := K) (q := 1) HRi.out HAn.out rfl (decide_eq_true (by simp only []; (try have h3 := H3.out); (try have h5 := H5.out); omega)))
              go_wp2
              go_ret
              exact ⟨ret_int HE.out.symm, HBq.out.alloc HBq.out.size _⟩
            · by_cases h3 : d1 = 1
              · have e1 : (d1 == 1) = true := by simpa using h3
                have e2 : (d1 == 2) = false := by simp [h3]
                have H3 := Lib.hid h3
                clear h3
                by_cases h4 : (K : Int) ≤ v1
                · have HE := Lib.hid (faultL_1 (args := [⟨d0, v0⟩, ⟨d1, v1⟩, ⟨d2, v2⟩, ⟨d3, v3⟩]) (k := K) (q := 1) HRi.out HAn.out rfl (decide_eq_true (by simp only []; (try have h3 := H3.out); (try have h5 := H5.out); omega)))
                  go_wp2
                  go_ret
                  exact ⟨ret_int HE.out.symm, HBq.out.alloc HBq.out.size _⟩
                · have HQ2 := Lib.hid (any_take_step (x := ⟨d1, v1⟩) HQ.out rfl (decide_eq_false (by simp only []; (try have h3 := H3.out); (try have h5 := H5.out); omega)))
                  go_wp2
                  go_roundw
                  case rel => exact ⟨2, ⟨by omega, by go_num⟩, HQ2, HBq.out.alloc HBq.out.size _⟩
                  case measure => simp [intOf]
              · have e1 : (d1 == 1) = false := by simpa using h3
                by_cases h5 : d1 = 2
                · have e2 : (d1 == 2) = true := by simpa using h5
                  have H5 := Lib.hid h5
                  clear h5
                  by_cases h6 : 4 ≤ v1
                  · have HE := Lib.hid (faultL_1 (args := [⟨d0, v0⟩, ⟨d1, v1⟩, ⟨d2, v2⟩, ⟨d3, v3⟩]) (k := K) (q := 1) HRi.out HAn.out rfl (decide_eq_true (by simp only []; (try have h3 := H3.out); (try have h5 := H5.out); omega)))
                    go_wp2
                    go_ret
                    exact ⟨ret_int HE.out.symm, HBq.out.alloc HBq.out.size _⟩
                  · have HQ2 := Lib.hid (any_take_step (x := ⟨d1, v1⟩) HQ.out rfl (decide_eq_false (by simp only []; (try have h3 := H3.out); (try have h5 := H5.out); omega)))
                    go_wp2
                    go_roundw
                    case rel => exact ⟨2, ⟨by omega, by go_num⟩, HQ2, HBq.out.alloc HBq.out.size _⟩
                    case measure => simp [intOf]
                · have e2 : (d1 == 2) = false := by simpa using h5
                  have HQ2 := Lib.hid (any_take_step (x := ⟨d1, v1⟩) HQ.out rfl (decide_eq_false (by simp only []; (try have h3 := H3.out); (try have h5 := H5.out); omega)))
                  go_wp2
                  go_roundw
                  case rel => exact ⟨2, ⟨by omega, by go_num⟩, HQ2, HBq.out.alloc HBq.out.size _⟩
                  case measure => simp [intOf]
        · by_cases h1 : d2 < 0
          · have HE := Lib.hid (faultL_1 (args := [⟨d0, v0⟩, ⟨d1, v1⟩, ⟨d2, v2⟩, ⟨d3, v3⟩]) (k := K) (q := 2) HRi.out HAn.out rfl (decide_eq_true (by simp only []; (try have h3 := H3.out); (try have h5 := H5.out); omega)))
            go_wp2
            go_ret
            exact ⟨ret_int HE.out.symm, HBq.out.alloc HBq.out.size _⟩
          · by_cases h2 : 2 < d2
            · have HE := Lib.hid (faultL_1 (args := [⟨d0, v0⟩, ⟨d1, v1⟩, ⟨d2, v2⟩, ⟨d3, v3⟩]) (k := K) (q := 2) HRi.out HAn.out rfl (decide_eq_true (by simp only []; (try have h3 := H3.out); (try have h5 := H5.out); omega)))
              go_wp2
              go_ret
              exact ⟨ret_int HE.out.symm, HBq.out.alloc HBq.out.size _⟩
            · by_cases h3 : d2 = 1
              · have e1 : (d2 == 1) = true := by simpa using h3
                have e2 : (d2 == 2) = false := by simp [h3]
                have H3 := Lib.hid h3
                clear h3
                by_cases h4 : (K : Int) ≤ v2
                · have HE := Lib.hid (faultL_1 (args := [⟨d0, v0⟩, ⟨d1, v1⟩, ⟨d2, v2⟩, ⟨d3, v3⟩]) (k := K) (q := 2) HRi.out HAn.out rfl (decide_eq_true (by simp only []; (try have h3 := H3.out); (try have h5 := H5.out); omega)))
                  go_wp2
                  go_ret
                  exact ⟨ret_int HE.out.symm, HBq.out.alloc HBq.out.size _⟩
                · have HQ2 := Lib.hid (any_take_step (x := ⟨d2, v2⟩) HQ.out rfl (decide_eq_false (by simp only []; (try have h3 := H3.out); (try have h5 := H5.out); omega)))
                  go_wp2
                  go_roundw
                  case rel => exact ⟨3, ⟨by omega, by go_num⟩, HQ2, HBq.out.alloc HBq.out.size _⟩
                  case measure => simp [intOf]
              · have e1 : (d2 == 1) = false := by simpa using h3
                by_cases h5 : d2 = 2
                · have e2 : (d2 == 2) = true := by simpa using h5
                  have H5 := Lib.hid h5
                  clear h5
                  by_cases h6 : 4 ≤ v2
                  · have HE := Lib.hid (faultL_1 (args := [⟨d0, v0⟩, ⟨d1, v1⟩, ⟨d2, v2⟩, ⟨d3, v3⟩]) (k := K) (q := 2) HRi.out HAn.out rfl (decide_eq_true (by simp only []; (try have h3 := H3.out); (try have h5 := H5.out); omega)))
                    go_wp2
                    go_ret
                    exact ⟨ret_int HE.out.symm, HBq.out.alloc HBq.out.size _⟩
                  · have HQ2 := Lib.hid (any_take_step (x := ⟨d2, v2⟩) HQ.out rfl (decide_eq_false (by simp only []; (try have h3 := H3.out); (try have h5 := H5.out); omega)))
                    go_wp2
                    go_roundw
                    case rel => exact ⟨3, ⟨by omega, by go_num⟩, HQ2, HBq.out.alloc HBq.out.size _⟩
                    case measure => simp [intOf]
                · have e2 : (d2 == 2) = false := by simpa using h5
                  have HQ2 := Lib.hid (any_take_step (x := ⟨d2, v2⟩) HQ.out rfl (decide_eq_false (by simp only []; (try have h3 := H3.out); (try have h5 := H5.out); omega)))
                  go_wp2
                  go_roundw
                  case rel => exact ⟨3, ⟨by omega, by go_num⟩, HQ2, HBq.out.alloc HBq.out.size _⟩
                  case measure => simp [intOf]
        · by_cases h1 : d3 < 0
          · have HE := Lib.hid (faultL_1 (args := [⟨d0, v0⟩, ⟨d1, v1⟩, ⟨d2, v2⟩, ⟨d3, v3⟩]) (k := K) (q := 3) HRi.out HAn.out rfl (decide_eq_true (by simp only []; (try have h3 := H3.out); (try have h5 := H5.out); omega)))
            go_wp2
            go_ret
            exact ⟨ret_int HE.out.symm, HBq.out.alloc HBq.out.size _⟩
          · by_cases h2 : 2 < d3
            · have HE := Lib.hid (faultL_1 (args := [⟨d0, v0⟩, ⟨d1, v1⟩, ⟨d2, v2⟩, ⟨d3, v3⟩]) (k := K) (q := 3) HRi.out HAn.out rfl (decide_eq_true (by simp only []; (try have h3 := H3.out); (try have h5 := H5.out); omega)))
              go_wp2
              go_ret
              exact ⟨ret_int HE.out.symm, HBq.out.alloc HBq.out.size _⟩
            · by_cases h3 : d3 = 1
              · have e1 : (d3 == 1) = true := by simpa using h3
                have e2 : (d3 == 2) = false := by simp [h3]
                have H3 := Lib.hid h3
                clear h3
                by_cases h4 : (K : Int) ≤ v3
                · have HE := Lib.hid (faultL_1 (args := [⟨d0, v0⟩, ⟨d1, v1⟩, ⟨d2, v2⟩, ⟨d3, v3⟩]) (k := K) (q := 3) HRi.out HAn.out rfl (decide_eq_true (by simp only []; (try have h3 := H3.out); (try have h5 := H5.out); omega)))
                  go_wp2
                  go_ret
                  exact ⟨ret_int HE.out.symm, HBq.out.alloc HBq.out.size _⟩
                · have HQ2 := Lib.hid (any_take_step (x := ⟨d3, v3⟩) HQ.out rfl (decide_eq_false (by simp only []; (try have h3 := H3.out); (try have h5 := H5.out); omega)))
                  go_wp2
                  go_roundw
                  case rel => exact ⟨4, ⟨by omega, by go_num⟩, HQ2, HBq.out.alloc HBq.out.size _⟩
                  case measure => simp [intOf]
              · have e1 : (d3 == 1) = false := by simpa using h3
                by_cases h5 : d3 = 2
                · have e2 : (d3 == 2) = true := by simpa using h5
                  have H5 := Lib.hid h5
                  clear h5
                  by_cases h6 : 4 ≤ v3
                  · have HE := Lib.hid (faultL_1 (args := [⟨d0, v0⟩, ⟨d1, v1⟩, ⟨d2, v2⟩, ⟨d3, v3⟩]) (k := K) (q := 3) HRi.out HAn.out rfl (decide_eq_true (by simp only []; (try have h3 := H3.out); (try have h5 := H5.out); omega)))
                    go_wp2
                    go_ret
                    exact ⟨ret_int HE.out.symm, HBq.out.alloc HBq.out.size _⟩
                  · have HQ2 := Lib.hid (any_take_step (x := ⟨d3, v3⟩) HQ.out rfl (decide_eq_false (by simp only []; (try have h3 := H3.out); (try have h5 := H5.out); omega)))
                    go_wp2
                    go_roundw
                    case rel => exact ⟨4, ⟨by omega, by go_num⟩, HQ2, HBq.out.alloc HBq.out.size _⟩
                    case measure => simp [intOf]
                · have e2 : (d3 == 2) = false := by simpa using h5
                  have HQ2 := Lib.hid (any_take_step (x := ⟨d3, v3⟩) HQ.out rfl (decide_eq_false (by simp only []; (try have h3 := H3.out); (try have h5 := H5.out); omega)))
                  go_wp2
                  go_roundw
                  case rel => exact ⟨4, ⟨by omega, by go_num⟩, HQ2, HBq.out.alloc HBq.out.size _⟩
                  case measure => simp [intOf]
        · have HE := Lib.hid (faultL_0 (args := [⟨d0, v0⟩, ⟨d1, v1⟩, ⟨d2, v2⟩, ⟨d3, v3⟩]) (k := K) HRi.out HAn.out (any_false_of HQ.out))
          go_wp2
          go_ret
          exact ⟨ret_int HE.out.symm, HBq.out⟩
end Go.Proofs.Ytddaeaimimdonaa
