/-
  Chapter 3: contracts of instr.Plain, instr.Of.
-/
import Derived.Test.YtddaeaimimdonaaCtrB
namespace Go.Proofs.Ytddaeaimimdonaa
open Go.RowKit

theorem nameOf_ne (n : Int) (h : 0 ≤ n ∧ n ≤ 21) : (nameOf n).toList.isEmpty = false := by
  obtain ⟨h1, h2⟩ := h
  obtain rfl | rfl | rfl | rfl | rfl | rfl | rfl | rfl | rfl | rfl | rfl | rfl | rfl | rfl | rfl | rfl | rfl | rfl | rfl | rfl | rfl | rfl : n = 0 ∨ n = 1 ∨ n = 2 ∨ n = 3 ∨ n = 4 ∨ n = 5 ∨ n = 6 ∨ n = 7 ∨ n = 8 ∨ n = 9 ∨ n = 10 ∨ n = 11 ∨ n = 12 ∨ n = 13 ∨ n = 14 ∨ n = 15 ∨ n = 16 ∨ n = 17 ∨ n = 18 ∨ n = 19 ∨ n = 20 ∨ n = 21 := by omega
  all_goals decide +kernel

theorem plain_any (n a b c m : Int) (w : World) :
    Calls Try.prog 68 #[.agg #[.int .i64 n, .int .i64 a, .int .i64 b, .int .i64 c, .int .u64 m]] w fun e w' => e = .returned (.bool (plainB n a b c m)) ∧ Below w.heap.size w w' := by
  go_enter Try.func68, Try.ntmps68
  go_wp2_with fail
  refine (uses_any _ _).mono ?_
  rintro e w1 ⟨rfl, hb⟩
  obtain ⟨hc, hf⟩ := bcell hb
  have hz : w.heap.size < w1.heap.size := by have := hb.size; simp at this; omega
  have HB := Lib.hid hb
  clear hb
  go_wp2_with fail
  refine (name_any _ _).mono ?_
  rintro e w2 ⟨rfl, rfl⟩
  by_cases hn : 0 ≤ n ∧ n ≤ 21
  · have h1 := nameOf_ne n hn
    have h2 : ¬ (nameOf n).toList = [] := by intro h; rw [h] at h1; simp at h1
    cases hA : fieldB a (decide (0 < regsOf n))
    · have e1 : plainB n a b c m = false := by simp [plainB, hA]
      have E := Lib.hid e1
      clear e1
      go_wp2_with fail
      refine (field_any _ _ _).mono ?_
      rintro e w2 ⟨rfl, rfl⟩
      go_wp2
      go_ret
      exact ⟨ret_bool E.out.symm, ((Below.refl _ _).alloc (Nat.le_refl _) _).trans (HB.out.mono (by simp))⟩
    · cases hB : fieldB b (decide (1 < regsOf n))
      · have e1 : plainB n a b c m = false := by simp [plainB, hB]
        have E := Lib.hid e1
        clear e1
        go_wp2_with fail
        refine (field_any _ _ _).mono ?_
        rintro e w2 ⟨rfl, rfl⟩
        go_wp2_with fail
        refine (field_any _ _ _).mono ?_
        rintro e w2 ⟨rfl, rfl⟩
        go_wp2
        go_ret
        exact ⟨ret_bool E.out.symm, ((Below.refl _ _).alloc (Nat.le_refl _) _).trans (HB.out.mono (by simp))⟩
      · cases hC : fieldB c (decide (2 < regsOf n))
        · have e1 : plainB n a b c m = false := by simp [plainB, hC]
          have E := Lib.hid e1
          clear e1
          go_wp2_with fail
          refine (field_any _ _ _).mono ?_
          rintro e w2 ⟨rfl, rfl⟩
          go_wp2_with fail
          refine (field_any _ _ _).mono ?_
          rintro e w2 ⟨rfl, rfl⟩
          go_wp2_with fail
          refine (field_any _ _ _).mono ?_
          rintro e w2 ⟨rfl, rfl⟩
          go_wp2
          go_ret
          exact ⟨ret_bool E.out.symm, ((Below.refl _ _).alloc (Nat.le_refl _) _).trans (HB.out.mono (by simp))⟩
        · have e1 : plainB n a b c m = (immOf n || decide (m = 0)) := by simp [plainB, hA, hB, hC, hn]
          have E := Lib.hid e1
          clear e1
          cases hI : immOf n
          all_goals
            go_wp2_with fail
            refine (field_any _ _ _).mono ?_
            rintro e w2 ⟨rfl, rfl⟩
            go_wp2_with fail
            refine (field_any _ _ _).mono ?_
            rintro e w2 ⟨rfl, rfl⟩
            go_wp2_with fail
            refine (field_any _ _ _).mono ?_
            rintro e w2 ⟨rfl, rfl⟩
            go_wp2
            go_ret
          · exact ⟨ret_bool (by rw [E.out, hI]; rfl), ((Below.refl _ _).alloc (Nat.le_refl _) _).trans (HB.out.mono (by simp))⟩
          · exact ⟨ret_bool (by rw [E.out, hI]; rfl), ((Below.refl _ _).alloc (Nat.le_refl _) _).trans (HB.out.mono (by simp))⟩
  · rw [nameOf_out (by omega)]
    have e1 : plainB n a b c m = false := by simp [plainB]; omega
    have E := Lib.hid e1
    clear e1
    go_wp2
    go_ret
    exact ⟨ret_bool E.out.symm, ((Below.refl _ _).alloc (Nat.le_refl _) _).trans (HB.out.mono (by simp))⟩

/-- The first kind that bears a name. -/
def ofFind (s : ByteArray) : Option Nat := (List.range 22).find? fun k => (nameOf k).toList == s.toList
theorem ofFind_none {s : ByteArray} (h : ∀ j : Nat, j < 22 → ((nameOf j).toList == s.toList) = false) : ofFind s = none := by
  unfold ofFind
  rw [List.find?_eq_none]
  intro x hx
  have := h x (by simpa using hx)
  simp [this]
theorem ofFind_some {s : ByteArray} {k : Nat} (hk : k < 22) (h : ∀ j : Nat, j < k → ((nameOf j).toList == s.toList) = false) (ht : ((nameOf k).toList == s.toList) = true) : ofFind s = some k := by
  unfold ofFind
  rw [List.find?_range_eq_some]
  exact ⟨ht, by simpa using hk, fun j hj => by simp [h j hj]⟩

end Go.Proofs.Ytddaeaimimdonaa
