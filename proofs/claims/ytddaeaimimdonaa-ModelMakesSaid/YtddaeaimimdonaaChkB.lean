/-
  Chapter 5: contract of check.one.
-/
import Derived.Test.YtddaeaimimdonaaChkA
namespace Go.Proofs.Ytddaeaimimdonaa
open Go.RowKit
set_option linter.unusedVariables false

set_option maxHeartbeats 4000000 in
theorem one_any (l : List Ins) (A : Option Addr) (n c : Nat) (w : World) (hr : RdI w w.heap.size A n l) (k : Nat) (hk : k < n) (i : Ins) (hi : l[k]? = some i) (hok : i.Ok) :
    Calls Try.prog 49 #[.slice A n c, .int .i64 k] w fun e w' => e = .returned (.int .i64 (oneE n k i)) ∧ Below w.heap.size w w' := by
  have h63 := hr.le
  unfold maxLen at h63
  obtain ⟨b0, o0, i', rfl, hbB, hi', c0, c1, c2, c3, c4⟩ := hr.insAt hk
  rw [hi] at hi'
  obtain rfl : i = i' := by simpa using hi'
  obtain ⟨op, a, b, cc, m⟩ := i
  obtain ⟨m0, m1⟩ := hok.imm
  simp only at c0 c1 c2 c3 c4 m0 m1
  clear hr hi hi' hok
  go_enter Try.func49, Try.ntmps49
  go_wp2_with fail
  refine (plain_any _ _ _ _ _ _).mono ?_
  rintro e w1 ⟨rfl, hb1⟩
  have K1 := (Bk.new w 43 #[.int .i64 op, .int .i64 a, .int .i64 b, .int .i64 cc, .int .u64 m]).below hb1 (by simp)
  have HB := Lib.hid (((Below.refl w.heap.size w).alloc (Nat.le_refl _) _).trans (hb1.mono (by simp)))
  have e0 : w1.cell? ⟨w.heap.size, 0, none⟩ = some (.int .i64 op) := K1.cell 0
  have e4 : w1.cell? ⟨w.heap.size, 4, none⟩ = some (.int .u64 m) := K1.cell 4
  clear hb1 K1
  cases hp : plainB op a b cc m
  · have E : Hid (oneE n k ⟨op, a, b, cc, m⟩ = 30) := by show _ = _; simp [oneE, Ins.plain, hp]
    go_wp2
    go_ret
    exact ⟨ret_int E.out.symm, HB.out⟩
  · have H : (op = 8 ∧ (m < 4) ∧ (True) ∧ Hid (oneE n k ⟨op, a, b, cc, m⟩ = 0)) ∨
      (op = 8 ∧ (4 ≤ m) ∧ (True) ∧ Hid (oneE n k ⟨op, a, b, cc, m⟩ = 1)) ∨
      (op = 11 ∧ (m < 8) ∧ (True) ∧ Hid (oneE n k ⟨op, a, b, cc, m⟩ = 0)) ∨
      (op = 11 ∧ (8 ≤ m) ∧ (True) ∧ Hid (oneE n k ⟨op, a, b, cc, m⟩ = 1)) ∨
      (op = 13 ∧ (m < 8) ∧ (True) ∧ Hid (oneE n k ⟨op, a, b, cc, m⟩ = 0)) ∨
      (op = 13 ∧ (8 ≤ m) ∧ (True) ∧ Hid (oneE n k ⟨op, a, b, cc, m⟩ = 1)) ∨
      (op = 21 ∧ (m < 1) ∧ (True) ∧ Hid (oneE n k ⟨op, a, b, cc, m⟩ = 1)) ∨
      (op = 21 ∧ (1 ≤ m) ∧ (m ≤ 255) ∧ Hid (oneE n k ⟨op, a, b, cc, m⟩ = 0)) ∨
      (op = 21 ∧ (1 ≤ m) ∧ (255 < m) ∧ Hid (oneE n k ⟨op, a, b, cc, m⟩ = 1)) ∨
      (op = 17 ∧ (m ≤ k) ∧ (True) ∧ Hid (oneE n k ⟨op, a, b, cc, m⟩ = 24)) ∨
      (op = 17 ∧ ((k : Int) < m) ∧ ((n : Int) ≤ m) ∧ Hid (oneE n k ⟨op, a, b, cc, m⟩ = 24)) ∨
      (op = 17 ∧ ((k : Int) < m) ∧ (m < n) ∧ Hid (oneE n k ⟨op, a, b, cc, m⟩ = 0)) ∨
      (op = 18 ∧ (m ≤ k) ∧ (True) ∧ Hid (oneE n k ⟨op, a, b, cc, m⟩ = 24)) ∨
      (op = 18 ∧ ((k : Int) < m) ∧ ((n : Int) ≤ m) ∧ Hid (oneE n k ⟨op, a, b, cc, m⟩ = 24)) ∨
      (op = 18 ∧ ((k : Int) < m) ∧ (m < n) ∧ Hid (oneE n k ⟨op, a, b, cc, m⟩ = 0)) ∨
      (op = 19 ∧ ((k : Int) < m) ∧ ((n : Int) ≤ m) ∧ Hid (oneE n k ⟨op, a, b, cc, m⟩ = 24)) ∨
      (op = 19 ∧ ((k : Int) < m) ∧ (m < n) ∧ Hid (oneE n k ⟨op, a, b, cc, m⟩ = 24)) ∨
      (op = 19 ∧ (m ≤ k) ∧ (True) ∧ Hid (oneE n k ⟨op, a, b, cc, m⟩ = 0)) ∨
      (op ≠ 8 ∧ op ≠ 11 ∧ op ≠ 13 ∧ op ≠ 21 ∧ op ≠ 17 ∧ op ≠ 18 ∧ op ≠ 19 ∧ Hid (oneE n k ⟨op, a, b, cc, m⟩ = 0)) := by
      have e : oneE n k ⟨op, a, b, cc, m⟩ = (if op = 8 then (if 4 ≤ m then 1 else 0) else if op = 11 ∨ op = 13 then (if 8 ≤ m then 1 else 0) else if op = 21 then (if m < 1 ∨ 255 < m then 1 else 0)
          else if op = 17 ∨ op = 18 then (if m ≤ k ∨ n ≤ m then 24 else 0) else if op = 19 then (if (k : Int) < m then 24 else 0) else 0) := by simp [oneE, Ins.plain, hp]
      unfold Hid
      rw [e]
      clear e c0 c1 c2 c3 c4 e0 e4 hp HB
      by_cases q1 : op = 8
      · subst q1; simp; omega
      by_cases q2 : op = 11
      · subst q2; simp; omega
      by_cases q3 : op = 13
      · subst q3; simp; omega
      by_cases q4 : op = 21
      · subst q4; simp; omega
      by_cases q5 : op = 17
      · subst q5; simp; omega
      by_cases q6 : op = 18
      · subst q6; simp; omega
      by_cases q7 : op = 19
      · subst q7; simp; omega
      simp [q1, q2, q3, q4, q5, q6, q7]
    rcases H with ⟨rfl, h1, h2, E⟩ | ⟨rfl, h1, h2, E⟩ | ⟨rfl, h1, h2, E⟩ | ⟨rfl, h1, h2, E⟩ | ⟨rfl, h1, h2, E⟩ | ⟨rfl, h1, h2, E⟩ | ⟨rfl, h1, h2, E⟩ | ⟨rfl, h1, h2, E⟩ | ⟨rfl, h1, h2, E⟩ | ⟨rfl, h1, h2, E⟩ | ⟨rfl, h1, h2, E⟩ | ⟨rfl, h1, h2, E⟩ | ⟨rfl, h1, h2, E⟩ | ⟨rfl, h1, h2, E⟩ | ⟨rfl, h1, h2, E⟩ | ⟨rfl, h1, h2, E⟩ | ⟨rfl, h1, h2, E⟩ | ⟨rfl, h1, h2, E⟩ | ⟨o1, o2, o3, o4, o5, o6, o7, E⟩
    rotate_right
    · have f1 : (op == 8) = false := by simpa using o1
      have f2 : (op == 11) = false := by simpa using o2
      have f3 : (op == 13) = false := by simpa using o3
      have f4 : (op == 21) = false := by simpa using o4
      have f5 : (op == 17) = false := by simpa using o5
      have f6 : (op == 18) = false := by simpa using o6
      have f7 : (op == 19) = false := by simpa using o7
      clear o1 o2 o3 o4 o5 o6 o7
      go_wp2
      go_ret
      exact ⟨ret_int E.out.symm, HB.out⟩
    all_goals
      clear hp
      go_wp2
      go_ret
      exact ⟨ret_int E.out.symm, HB.out⟩
end Go.Proofs.Ytddaeaimimdonaa
