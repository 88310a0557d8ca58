/-
  Chapter 3, the document's answer: contract of tumblerref03.Plain. (Written by gen/rplain.py.)
-/
import Derived.Test.YtddaeaimimdonaaCtrD
namespace Go.Proofs.Ytddaeaimimdonaa
open Go.RowKit
set_option linter.unusedVariables false
set_option linter.unusedSimpArgs false

theorem rplain_at0 (n a b c m : Int) (w : World) (n0 : 0 ≤ n) (n1 : n ≤ 21) (a0 : 0 ≤ a) (a1 : a ≤ 15) (b0 : 0 ≤ b) (b1 : b ≤ 15) (c0 : 0 ≤ c) (c1 : c ≤ 15) (hr : regsOf n = 0) :
    Calls Try.prog 74 #[.agg #[.int .i64 n, .int .i64 a, .int .i64 b, .int .i64 c, .int .u64 m]] w fun e w' => e = .returned (.bool (plainB n a b c m)) ∧ Below w.heap.size w w' := by
  have HE : Hid (plainB n a b c m = ((decide (0 < (0 : Int)) || decide (a = 0)) && (decide (1 < (0 : Int)) || decide (b = 0)) && (decide (2 < (0 : Int)) || decide (c = 0)) && (immOf n || decide (m = 0)))) := by
    show _ = _
    rw [Bool.eq_iff_iff]; simp [plainB, fieldB, hr]
    omega
  go_enter Try.func74, Try.ntmps74
  go_wp2_with fail
  refine (regs_any _ _).mono ?_
  rintro e w1 ⟨rfl, rfl⟩
  rw [hr]
  clear hr
  by_cases ha : a = 0
  · subst ha
    by_cases hb : b = 0
    · subst hb
      by_cases hc : c = 0
      · subst hc
        cases hI : immOf n
        · by_cases hM : m = 0
          · subst hM
            go_wp2_with fail
            refine (imm_any _ _).mono ?_
            rintro e w1 ⟨rfl, rfl⟩
            go_wp2
            go_ret
            exact ⟨ret_bool (by rw [HE.out]; simp [*]), (Below.refl _ _).alloc (Nat.le_refl _) _⟩
          · have hM2 : (m == 0) = false := by simpa using hM
            go_wp2_with fail
            refine (imm_any _ _).mono ?_
            rintro e w1 ⟨rfl, rfl⟩
            go_wp2
            go_ret
            exact ⟨ret_bool (by rw [HE.out]; simp [*]), (Below.refl _ _).alloc (Nat.le_refl _) _⟩
        · skip
          go_wp2_with fail
          refine (imm_any _ _).mono ?_
          rintro e w1 ⟨rfl, rfl⟩
          go_wp2
          go_ret
          exact ⟨ret_bool (by rw [HE.out]; simp [*]), (Below.refl _ _).alloc (Nat.le_refl _) _⟩
      · have hc2 : (c == 0) = false := by simpa using hc
        go_wp2
        go_ret
        exact ⟨ret_bool (by rw [HE.out]; simp [*]), (Below.refl _ _).alloc (Nat.le_refl _) _⟩
    · have hb2 : (b == 0) = false := by simpa using hb
      go_wp2
      go_ret
      exact ⟨ret_bool (by rw [HE.out]; simp [*]), (Below.refl _ _).alloc (Nat.le_refl _) _⟩
  · have ha2 : (a == 0) = false := by simpa using ha
    go_wp2
    go_ret
    exact ⟨ret_bool (by rw [HE.out]; simp [*]), (Below.refl _ _).alloc (Nat.le_refl _) _⟩

theorem rplain_at1 (n a b c m : Int) (w : World) (n0 : 0 ≤ n) (n1 : n ≤ 21) (a0 : 0 ≤ a) (a1 : a ≤ 15) (b0 : 0 ≤ b) (b1 : b ≤ 15) (c0 : 0 ≤ c) (c1 : c ≤ 15) (hr : regsOf n = 1) :
    Calls Try.prog 74 #[.agg #[.int .i64 n, .int .i64 a, .int .i64 b, .int .i64 c, .int .u64 m]] w fun e w' => e = .returned (.bool (plainB n a b c m)) ∧ Below w.heap.size w w' := by
  have HE : Hid (plainB n a b c m = ((decide (0 < (1 : Int)) || decide (a = 0)) && (decide (1 < (1 : Int)) || decide (b = 0)) && (decide (2 < (1 : Int)) || decide (c = 0)) && (immOf n || decide (m = 0)))) := by
    show _ = _
    rw [Bool.eq_iff_iff]; simp [plainB, fieldB, hr]
    omega
  go_enter Try.func74, Try.ntmps74
  go_wp2_with fail
  refine (regs_any _ _).mono ?_
  rintro e w1 ⟨rfl, rfl⟩
  rw [hr]
  clear hr
  by_cases hb : b = 0
  · subst hb
    by_cases hc : c = 0
    · subst hc
      cases hI : immOf n
      · by_cases hM : m = 0
        · subst hM
          go_wp2_with fail
          refine (imm_any _ _).mono ?_
          rintro e w1 ⟨rfl, rfl⟩
          go_wp2
          go_ret
          exact ⟨ret_bool (by rw [HE.out]; simp [*]), (Below.refl _ _).alloc (Nat.le_refl _) _⟩
        · have hM2 : (m == 0) = false := by simpa using hM
          go_wp2_with fail
          refine (imm_any _ _).mono ?_
          rintro e w1 ⟨rfl, rfl⟩
          go_wp2
          go_ret
          exact ⟨ret_bool (by rw [HE.out]; simp [*]), (Below.refl _ _).alloc (Nat.le_refl _) _⟩
      · skip
        go_wp2_with fail
        refine (imm_any _ _).mono ?_
        rintro e w1 ⟨rfl, rfl⟩
        go_wp2
        go_ret
        exact ⟨ret_bool (by rw [HE.out]; simp [*]), (Below.refl _ _).alloc (Nat.le_refl _) _⟩
    · have hc2 : (c == 0) = false := by simpa using hc
      go_wp2
      go_ret
      exact ⟨ret_bool (by rw [HE.out]; simp [*]), (Below.refl _ _).alloc (Nat.le_refl _) _⟩
  · have hb2 : (b == 0) = false := by simpa using hb
    go_wp2
    go_ret
    exact ⟨ret_bool (by rw [HE.out]; simp [*]), (Below.refl _ _).alloc (Nat.le_refl _) _⟩

theorem rplain_at2 (n a b c m : Int) (w : World) (n0 : 0 ≤ n) (n1 : n ≤ 21) (a0 : 0 ≤ a) (a1 : a ≤ 15) (b0 : 0 ≤ b) (b1 : b ≤ 15) (c0 : 0 ≤ c) (c1 : c ≤ 15) (hr : regsOf n = 2) :
    Calls Try.prog 74 #[.agg #[.int .i64 n, .int .i64 a, .int .i64 b, .int .i64 c, .int .u64 m]] w fun e w' => e = .returned (.bool (plainB n a b c m)) ∧ Below w.heap.size w w' := by
  have HE : Hid (plainB n a b c m = ((decide (0 < (2 : Int)) || decide (a = 0)) && (decide (1 < (2 : Int)) || decide (b = 0)) && (decide (2 < (2 : Int)) || decide (c = 0)) && (immOf n || decide (m = 0)))) := by
    show _ = _
    rw [Bool.eq_iff_iff]; simp [plainB, fieldB, hr]
    omega
  go_enter Try.func74, Try.ntmps74
  go_wp2_with fail
  refine (regs_any _ _).mono ?_
  rintro e w1 ⟨rfl, rfl⟩
  rw [hr]
  clear hr
  by_cases hc : c = 0
  · subst hc
    cases hI : immOf n
    · by_cases hM : m = 0
      · subst hM
        go_wp2_with fail
        refine (imm_any _ _).mono ?_
        rintro e w1 ⟨rfl, rfl⟩
        go_wp2
        go_ret
        exact ⟨ret_bool (by rw [HE.out]; simp [*]), (Below.refl _ _).alloc (Nat.le_refl _) _⟩
      · have hM2 : (m == 0) = false := by simpa using hM
        go_wp2_with fail
        refine (imm_any _ _).mono ?_
        rintro e w1 ⟨rfl, rfl⟩
        go_wp2
        go_ret
        exact ⟨ret_bool (by rw [HE.out]; simp [*]), (Below.refl _ _).alloc (Nat.le_refl _) _⟩
    · skip
      go_wp2_with fail
      refine (imm_any _ _).mono ?_
      rintro e w1 ⟨rfl, rfl⟩
      go_wp2
      go_ret
      exact ⟨ret_bool (by rw [HE.out]; simp [*]), (Below.refl _ _).alloc (Nat.le_refl _) _⟩
  · have hc2 : (c == 0) = false := by simpa using hc
    go_wp2
    go_ret
    exact ⟨ret_bool (by rw [HE.out]; simp [*]), (Below.refl _ _).alloc (Nat.le_refl _) _⟩

theorem rplain_at3 (n a b c m : Int) (w : World) (n0 : 0 ≤ n) (n1 : n ≤ 21) (a0 : 0 ≤ a) (a1 : a ≤ 15) (b0 : 0 ≤ b) (b1 : b ≤ 15) (c0 : 0 ≤ c) (c1 : c ≤ 15) (hr : regsOf n = 3) :
    Calls Try.prog 74 #[.agg #[.int .i64 n, .int .i64 a, .int .i64 b, .int .i64 c, .int .u64 m]] w fun e w' => e = .returned (.bool (plainB n a b c m)) ∧ Below w.heap.size w w' := by
  have HE : Hid (plainB n a b c m = ((decide (0 < (3 : Int)) || decide (a = 0)) && (decide (1 < (3 : Int)) || decide (b = 0)) && (decide (2 < (3 : Int)) || decide (c = 0)) && (immOf n || decide (m = 0)))) := by
    show _ = _
    rw [Bool.eq_iff_iff]; simp [plainB, fieldB, hr]
    omega
  go_enter Try.func74, Try.ntmps74
  go_wp2_with fail
  refine (regs_any _ _).mono ?_
  rintro e w1 ⟨rfl, rfl⟩
  rw [hr]
  clear hr
  cases hI : immOf n
  · by_cases hM : m = 0
    · subst hM
      go_wp2_with fail
      refine (imm_any _ _).mono ?_
      rintro e w1 ⟨rfl, rfl⟩
      go_wp2
      go_ret
      exact ⟨ret_bool (by rw [HE.out]; simp [*]), (Below.refl _ _).alloc (Nat.le_refl _) _⟩
    · have hM2 : (m == 0) = false := by simpa using hM
      go_wp2_with fail
      refine (imm_any _ _).mono ?_
      rintro e w1 ⟨rfl, rfl⟩
      go_wp2
      go_ret
      exact ⟨ret_bool (by rw [HE.out]; simp [*]), (Below.refl _ _).alloc (Nat.le_refl _) _⟩
  · skip
    go_wp2_with fail
    refine (imm_any _ _).mono ?_
    rintro e w1 ⟨rfl, rfl⟩
    go_wp2
    go_ret
    exact ⟨ret_bool (by rw [HE.out]; simp [*]), (Below.refl _ _).alloc (Nat.le_refl _) _⟩

set_option maxHeartbeats 4000000 in
theorem rplain_any (n a b c m : Int) (w : World) :
    Calls Try.prog 74 #[.agg #[.int .i64 n, .int .i64 a, .int .i64 b, .int .i64 c, .int .u64 m]] w fun e w' => e = .returned (.bool (plainB n a b c m)) ∧ Below w.heap.size w w' := by
  by_cases h : n < 0
  · have E : Hid (plainB n a b c m = false) := by
      show _ = _
      rw [← Bool.not_eq_true]
      intro h
      simp [plainB, fieldB] at h
      omega
    go_enter Try.func74, Try.ntmps74
    go_wp2
    go_ret
    exact ⟨ret_bool E.out.symm, (Below.refl _ _).alloc (Nat.le_refl _) _⟩
  have gnlt0 : 0 ≤ n := by omega
  clear h
  by_cases h : 21 < n
  · have E : Hid (plainB n a b c m = false) := by
      show _ = _
      rw [← Bool.not_eq_true]
      intro h
      simp [plainB, fieldB] at h
      omega
    go_enter Try.func74, Try.ntmps74
    go_wp2
    go_ret
    exact ⟨ret_bool E.out.symm, (Below.refl _ _).alloc (Nat.le_refl _) _⟩
  have g21ltn : n ≤ 21 := by omega
  clear h
  by_cases h : a < 0
  · have E : Hid (plainB n a b c m = false) := by
      show _ = _
      rw [← Bool.not_eq_true]
      intro h
      simp [plainB, fieldB] at h
      omega
    go_enter Try.func74, Try.ntmps74
    go_wp2
    go_ret
    exact ⟨ret_bool E.out.symm, (Below.refl _ _).alloc (Nat.le_refl _) _⟩
  have galt0 : 0 ≤ a := by omega
  clear h
  by_cases h : 15 < a
  · have E : Hid (plainB n a b c m = false) := by
      show _ = _
      rw [← Bool.not_eq_true]
      intro h
      simp [plainB, fieldB] at h
      omega
    go_enter Try.func74, Try.ntmps74
    go_wp2
    go_ret
    exact ⟨ret_bool E.out.symm, (Below.refl _ _).alloc (Nat.le_refl _) _⟩
  have g15lta : a ≤ 15 := by omega
  clear h
  by_cases h : b < 0
  · have E : Hid (plainB n a b c m = false) := by
      show _ = _
      rw [← Bool.not_eq_true]
      intro h
      simp [plainB, fieldB] at h
      omega
    go_enter Try.func74, Try.ntmps74
    go_wp2
    go_ret
    exact ⟨ret_bool E.out.symm, (Below.refl _ _).alloc (Nat.le_refl _) _⟩
  have gblt0 : 0 ≤ b := by omega
  clear h
  by_cases h : 15 < b
  · have E : Hid (plainB n a b c m = false) := by
      show _ = _
      rw [← Bool.not_eq_true]
      intro h
      simp [plainB, fieldB] at h
      omega
    go_enter Try.func74, Try.ntmps74
    go_wp2
    go_ret
    exact ⟨ret_bool E.out.symm, (Below.refl _ _).alloc (Nat.le_refl _) _⟩
  have g15ltb : b ≤ 15 := by omega
  clear h
  by_cases h : c < 0
  · have E : Hid (plainB n a b c m = false) := by
      show _ = _
      rw [← Bool.not_eq_true]
      intro h
      simp [plainB, fieldB] at h
      omega
    go_enter Try.func74, Try.ntmps74
    go_wp2
    go_ret
    exact ⟨ret_bool E.out.symm, (Below.refl _ _).alloc (Nat.le_refl _) _⟩
  have gclt0 : 0 ≤ c := by omega
  clear h
  by_cases h : 15 < c
  · have E : Hid (plainB n a b c m = false) := by
      show _ = _
      rw [← Bool.not_eq_true]
      intro h
      simp [plainB, fieldB] at h
      omega
    go_enter Try.func74, Try.ntmps74
    go_wp2
    go_ret
    exact ⟨ret_bool E.out.symm, (Below.refl _ _).alloc (Nat.le_refl _) _⟩
  have g15ltc : c ≤ 15 := by omega
  clear h
  have r0 : regsOf n = 0 ∨ regsOf n = 1 ∨ regsOf n = 2 ∨ regsOf n = 3 := by unfold regsOf; (repeat' split) <;> omega
  rcases r0 with h | h | h | h
  · exact rplain_at0 n a b c m w (by omega) (by omega) (by omega) (by omega) (by omega) (by omega) (by omega) (by omega) h
  · exact rplain_at1 n a b c m w (by omega) (by omega) (by omega) (by omega) (by omega) (by omega) (by omega) (by omega) h
  · exact rplain_at2 n a b c m w (by omega) (by omega) (by omega) (by omega) (by omega) (by omega) (by omega) (by omega) h
  · exact rplain_at3 n a b c m w (by omega) (by omega) (by omega) (by omega) (by omega) (by omega) (by omega) (by omega) h
end Go.Proofs.Ytddaeaimimdonaa
