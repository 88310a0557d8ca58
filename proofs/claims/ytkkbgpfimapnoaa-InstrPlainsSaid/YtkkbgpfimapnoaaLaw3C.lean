/-
  Chapter 3: the walk of InstrPlains.
-/
import Derived.Test.YtkkbgpfimapnoaaLaw3A
namespace Go.Proofs.Ytkkbgpfimapnoaa
open Go.RowKit
set_option linter.unusedVariables false

theorem and3 (x : Int) : 0 ≤ bits .and .i64 x 3 ∧ bits .and .i64 x 3 ≤ 3 := by
  show 0 ≤ IntKind.i64.wrap ((BitVec.ofInt 64 x &&& BitVec.ofInt 64 3).toNat : Int) ∧ IntKind.i64.wrap ((BitVec.ofInt 64 x &&& BitVec.ofInt 64 3).toNat : Int) ≤ 3
  have h : (BitVec.ofInt 64 x &&& BitVec.ofInt 64 3).toNat ≤ 3 := by
    rw [BitVec.toNat_and]
    exact Nat.le_trans Nat.and_le_right (by decide)
  rw [IntKind.wrap_i64]
  omega

theorem plain_turn {n a b c m reg : Int} (h : plainB n a b c m = true) :
    (0 < regsOf n → plainB n reg b c m = decide (0 ≤ reg ∧ reg < 16)) ∧ (1 < regsOf n → plainB n a reg c m = decide (0 ≤ reg ∧ reg < 16)) ∧ (2 < regsOf n → plainB n a b reg m = decide (0 ≤ reg ∧ reg < 16)) := by
  refine ⟨fun hr => ?_, fun hr => ?_, fun hr => ?_⟩
  all_goals
    rw [Bool.eq_iff_iff]
    cases hi : immOf n <;> simp [plainB, fieldB, hi] at h ⊢ <;> omega

set_option maxHeartbeats 4000000 in
theorem plains_walk (n a b c m reg which : Int) (w : World) :
    Calls Try.prog 6 #[.agg #[.int .i64 n, .int .i64 a, .int .i64 b, .int .i64 c, .int .u64 m], .int .i64 reg, .int .i64 which] w fun e w' => e = .returned (.bool true) ∧ Below w.heap.size w w' := by
  obtain ⟨y0, y1⟩ := and3 which
  have HT := Lib.hid (@plain_turn n a b c m reg)
  have r3 : 0 ≤ regsOf n ∧ regsOf n ≤ 3 := by unfold regsOf; (repeat' split) <;> omega
  go_enter Try.func6, Try.ntmps6
  go_wp2_with fail
  refine (alive_any _).mono ?_
  rintro e w1 ⟨rfl, hb1⟩
  have K1 := (Bk.new w 47 #[.int .i64 n, .int .i64 a, .int .i64 b, .int .i64 c, .int .u64 m]).below hb1 (by simp)
  have HB1 := Lib.hid (((Below.refl w.heap.size w).alloc (Nat.le_refl _) _).trans (hb1.mono (by simp)))
  clear hb1
  have e0 := K1.cell 0
  have e1 := K1.cell 1
  have e2 := K1.cell 2
  have e3 := K1.cell 3
  have e4 := K1.cell 4
  simp only [List.getElem?_toArray, List.getElem?_cons_zero, List.getElem?_cons_succ] at e0 e1 e2 e3 e4
  go_wp2_with fail
  refine (rplain_any _ _ _ _ _ _).mono ?_
  rintro e w2 ⟨rfl, hb2⟩
  have K2 := K1.below hb2 K1.lt
  have HB2 := Lib.hid (HB1.out.trans (hb2.mono HB1.out.size))
  clear hb2 e0 e1 e2 e3 e4 K1
  have e0 := K2.cell 0
  have e1 := K2.cell 1
  have e2 := K2.cell 2
  have e3 := K2.cell 3
  have e4 := K2.cell 4
  simp only [List.getElem?_toArray, List.getElem?_cons_zero, List.getElem?_cons_succ] at e0 e1 e2 e3 e4
  go_wp2_with fail
  refine (plain_any _ _ _ _ _ _).mono ?_
  rintro e w3 ⟨rfl, hb3⟩
  have K3 := K2.below hb3 K2.lt
  have HB3 := Lib.hid (HB2.out.trans (hb3.mono HB2.out.size))
  have hz3 := HB3.out.size
  clear hb3 e0 e1 e2 e3 e4 K2
  have e0 := K3.cell 0
  have e1 := K3.cell 1
  have e2 := K3.cell 2
  have e3 := K3.cell 3
  have e4 := K3.cell 4
  simp only [List.getElem?_toArray, List.getElem?_cons_zero, List.getElem?_cons_succ] at e0 e1 e2 e3 e4
  clear K3
  go_wp2_with fail
  refine (regs_any _ _).mono ?_
  rintro e w4 ⟨rfl, rfl⟩
  cases hp : plainB n a b c m
  · go_wp2
    go_ret
    exact ⟨rfl, HB3.out⟩
  · obtain ⟨q0, q1, q2⟩ := HT.out hp
    have Q0 := Lib.hid q0
    have Q1 := Lib.hid q1
    have Q2 := Lib.hid q2
    clear q0 q1 q2 hp
    generalize regsOf n = r at *
    obtain ⟨y, hyq⟩ : ∃ y, bits .and .i64 which 3 = y := ⟨_, rfl⟩
    rw [hyq] at y0 y1
    have hr : r = 0 ∨ r = 1 ∨ r = 2 ∨ r = 3 := by omega
    have hy : y = 0 ∨ y = 1 ∨ y = 2 ∨ y = 3 := by omega
    clear r3 y0 y1
    rcases hr with rfl | rfl | rfl | rfl
    · go_wp2
      go_ret
      exact ⟨rfl, HB3.out⟩
    rotate_left
    all_goals
      rcases hy with rfl | rfl | rfl | rfl
    all_goals clear HT
    all_goals
      go_wp2_with fail
      refine (plain_any _ _ _ _ _ _).mono ?_
      rintro e w5 ⟨rfl, hb5⟩
      first
        | rw [Q0.out (by decide)]
        | rw [Q1.out (by decide)]
        | rw [Q2.out (by decide)]
      have HB5 := Lib.hid ((HB3.out.alloc hz3 _).trans (hb5.mono (by simp; omega)))
      clear hb5
      go_wp2
      all_goals go_ret
      all_goals exact ⟨rfl, HB5.out⟩
theorem plains_walk_ (n a b c m reg which : Int) (w : World) (_ : Ins.Ok ⟨n, a, b, c, m⟩) (_ : -9223372036854775808 ≤ reg ∧ reg ≤ 9223372036854775807) (_ : -9223372036854775808 ≤ which ∧ which ≤ 9223372036854775807) :
    Calls Try.prog 6 #[.agg #[.int .i64 n, .int .i64 a, .int .i64 b, .int .i64 c, .int .u64 m], .int .i64 reg, .int .i64 which] w fun e w' => e = .returned (.bool true) ∧ Below w.heap.size w w' := plains_walk n a b c m reg which w
end Go.Proofs.Ytkkbgpfimapnoaa
