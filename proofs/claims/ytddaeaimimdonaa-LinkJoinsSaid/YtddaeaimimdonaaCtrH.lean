/-
  Chapter 3: contract of tumblerref03.Same.
-/
import Derived.Test.YtddaeaimimdonaaCtrG
import Derived.Deep.QuietTactic
import Derived.BigQuiet
namespace Go.Proofs.Ytddaeaimimdonaa
open Go.RowKit
set_option linter.unusedVariables false

theorem neq_ins (x y : Ins) (w : World) :
    (binOp .neq 43 (.agg #[.int .i64 x.op, .int .i64 x.a, .int .i64 x.b, .int .i64 x.c, .int .u64 x.imm]) (.agg #[.int .i64 y.op, .int .i64 y.a, .int .i64 y.b, .int .i64 y.c, .int .u64 y.imm])).run Try.prog w = .ok (.bool (!decide (x = y))) w := by
  have e : decide (x = y) = ((x.op == y.op) && (x.a == y.a) && (x.b == y.b) && (x.c == y.c) && (x.imm == y.imm)) := by
    rw [Bool.eq_iff_iff]
    simp only [decide_eq_true_eq, Bool.and_eq_true, beq_iff_eq]
    constructor
    · rintro rfl; simp
    · intro h; exact Ins.ext_ ⟨h.1.1.1.1, h.1.1.1.2, h.1.1.2, h.1.2, h.2⟩
  rw [e]
  go_simp
  by_cases h1 : x.op = y.op
  · by_cases h2 : x.a = y.a
    · by_cases h3 : x.b = y.b
      · by_cases h4 : x.c = y.c
        · by_cases h5 : x.imm = y.imm
          · simp [h1, h2, h3, h4, h5]
          · simp [h1, h2, h3, h4, h5]
        · simp [h1, h2, h3, h4]
      · simp [h1, h2, h3]
    · simp [h1, h2]
  · simp [h1]
theorem same_any (l r : List Ins) (A A' : Option Addr) (n c n' c' : Nat) (w : World) (hl : RdI w w.heap.size A n l) (hr : RdI w w.heap.size A' n' r) :
    Calls Try.prog 34 #[.slice A n c, .slice A' n' c'] w fun e w' => e = .returned (.bool (decide (l = r))) ∧ Below w.heap.size w w' := by
  have h63 := hl.le
  have hn := hl.insLen
  have hn' := hr.insLen
  have HL := Lib.hid hl
  have HR := Lib.hid hr
  clear hl hr
  unfold maxLen at h63
  by_cases he : n = n'
  · have HN := Lib.hid hn
    have HN' := Lib.hid hn'
    clear hn hn'
    subst he
    go_enter Try.func34, Try.ntmps34
    go_wp2
    go_loopw [5] (fun k wr => ∃ j : Nat, j ≤ n ∧ k = .int .i64 j ∧ Hid (l.take j = r.take j) ∧ Below w.heap.size w wr) (fun k _ => n - (intOf k).toNat)
    case atStart => exact ⟨0, by omega, rfl, rfl, Below.refl _ _⟩
    case round =>
      obtain ⟨j, hj, rfl, ht, hb⟩ := hrel
      have HB := Lib.hid hb
      clear hb
      by_cases hlt : j < n
      · obtain ⟨b, o, x, rfl, hbB, hx, c0, c1, c2, c3, c4⟩ := (HL.out.below HB.out).insAt hlt
        obtain ⟨b', o', y, rfl, hbB', hy, d0, d1, d2, d3, d4⟩ := (HR.out.below HB.out).insAt hlt
        have hcmp := neq_ins x y
        have HX := Lib.hid hx
        have HY := Lib.hid hy
        clear hx hy
        have hjl : j < l.length := by rw [HN.out]; exact hlt
        have hjr : j < r.length := by rw [HN'.out]; exact hlt
        have hgx : l[j] = x := by have e := HX.out; rw [List.getElem?_eq_getElem hjl] at e; injection e
        have hgy : r[j] = y := by have e := HY.out; rw [List.getElem?_eq_getElem hjr] at e; injection e
        have HGX := Lib.hid hgx
        have HGY := Lib.hid hgy
        clear hgx hgy
        cases hd : decide (x = y)
        · have E : Hid (decide (l = r) = false) := decide_eq_false fun e => by
            subst e
            exact (of_decide_eq_false hd) (HGX.out.symm.trans HGY.out)
          go_wp2
          go_quiet (fail)
          go_wp2
          go_ret
          exact ⟨ret_bool E.out.symm, below_drewN HB.out _⟩
        · have ht2 : Hid (l.take (j + 1) = r.take (j + 1)) := by
            show _ = _
            rw [List.take_succ_eq_append_getElem hjl, List.take_succ_eq_append_getElem hjr, ht.out, HGX.out, HGY.out, of_decide_eq_true hd]
          go_wp2
          go_quiet (fail)
          go_wp2
          go_roundw
          case rel => exact ⟨j + 1, by omega, by go_num, ht2, below_drewN HB.out _⟩
          case measure => simp [intOf]; omega
      · obtain rfl : j = n := by omega
        have E : Hid (decide (l = r) = true) := decide_eq_true (by
          have h := ht.out
          rw [List.take_of_length_le (by rw [HN.out]; omega), List.take_of_length_le (by rw [HN'.out]; omega)] at h
          exact h)
        go_wp2
        go_ret
        exact ⟨ret_bool E.out.symm, HB.out⟩
  · have E : Hid (decide (l = r) = false) := decide_eq_false fun e => by subst e; omega
    have h1 : ((n : Int) == (n' : Int)) = false := by rw [beq_eq_false_iff_ne]; omega
    have h2 : ((n : Int) != (n' : Int)) = true := by rw [bne_iff_ne]; omega
    clear hn hn'
    go_enter Try.func34, Try.ntmps34
    go_wp2
    go_ret
    exact ⟨ret_bool E.out.symm, Below.refl _ _⟩
end Go.Proofs.Ytddaeaimimdonaa
