/-
  Chapter 25: the reference's numbers, words and answers as text: contracts of tumblerref25.Num, Int, Word, Result.
-/
import Derived.Test.YthklmcpjlpaklaaDoorRepL
import Derived.Test.YthklmcpjlpaklaaDoorRepD
namespace Go.Proofs.YthklmcpjlpaklaaDoor
open Go.RowKit
set_option linter.unusedVariables false

theorem rnum_any (u : Int) (h0 : 0 ≤ u) (h1 : u ≤ 18446744073709551615) (w : World) :
    Calls Tryd.prog 25 #[.int .u64 u] w fun e w' => e = .returned (.string (str (dec u))) ∧ Below w.heap.size w w' := by
  obtain ⟨n, rfl⟩ : ∃ n : Nat, u = (n : Int) := ⟨u.toNat, by omega⟩
  go_enter Tryd.func25, Tryd.ntmps25
  go_wp2_with (go_at_call 40; refine (rdigits_any n (by omega) _).mono ?_; rintro e w' ⟨rfl, hb⟩)
  go_ret
  exact ⟨rfl, hb⟩
theorem itoa_neg {n : Int} (h : n < 0) : Lib.itoa n = 45 :: Lib.decDigits n.natAbs := by rw [Lib.itoa, if_pos h]
theorem itoa_pos {n : Int} (h : ¬ n < 0) : Lib.itoa n = dec n := by rw [Lib.itoa, if_neg h]; rfl
set_option maxHeartbeats 1000000 in
theorem rint_any (n : Int) (h0 : -9223372036854775808 ≤ n) (h1 : n ≤ 9223372036854775807) (w : World) :
    Calls Tryd.prog 24 #[.int .i64 n] w fun e w' => e = .returned (.string (str (Lib.itoa n))) ∧ Below w.heap.size w w' := by
  by_cases hn : n < 0
  · obtain ⟨k, rfl⟩ : ∃ k : Nat, n = -(k : Int) := ⟨n.natAbs, by omega⟩
    have HI : Hid (str (Lib.itoa (-(k : Int))) = ⟨#[45]⟩ ++ str (dec k)) := by
      show _ = _
      rw [itoa_neg hn, show (⟨#[45]⟩ : ByteArray) = str [45] from rfl, str_app, show (-(k : Int)).natAbs = k by omega]
      rfl
    obtain ⟨D, hD⟩ : ∃ D, str (dec k) = D := ⟨_, rfl⟩
    have hDs : D.size ≤ 20 := by rw [← hD, str_size]; exact dec_len k (by omega)
    have HD := Lib.hid hD
    clear hD
    go_enter Tryd.func24, Tryd.ntmps24
    go_wp2_with fail
    have hw : IntKind.u64.wrap (-IntKind.u64.wrap (-(k : Int))) = (k : Int) := by rw [IntKind.wrap_u64, IntKind.wrap_u64]; omega
    rw [hw]
    refine (rnum_any k (by omega) (by omega) _).mono ?_
    rintro e w' ⟨rfl, hb⟩
    rw [HD.out]
    have HB := Lib.hid hb
    clear hb
    go_wp2
    go_ret
    refine ⟨?_, HB.out⟩
    rw [HI.out, HD.out]; rfl
  · have HI : Hid (Lib.itoa n = dec n) := itoa_pos hn
    have hn' : 0 ≤ n := by omega
    go_enter Tryd.func24, Tryd.ntmps24
    go_wp2_with fail
    refine (rnum_any n hn' (by omega) _).mono ?_
    rintro e w' ⟨rfl, hb⟩
    have HB := Lib.hid hb
    clear hb
    go_wp2
    go_ret
    exact ⟨by rw [HI.out]; rfl, HB.out⟩
set_option maxHeartbeats 2000000 in
theorem rword_any (e : Int) (h0 : -9223372036854775808 ≤ e) (h1 : e ≤ 9223372036854775807) (w : World) :
    Calls Tryd.prog 12 #[.int .i64 e] w fun x w' => x = .returned (.string (str (wordP e))) ∧ Below w.heap.size w w' := by
  by_cases c30 : e = 30
  · subst c30
    go_enter Tryd.func12, Tryd.ntmps12
    go_wp2
    go_ret
    exact ⟨rfl, (Below.refl _ _).alloc (Nat.le_refl _) _⟩
  by_cases c40 : e = 40
  · subst c40
    go_enter Tryd.func12, Tryd.ntmps12
    go_wp2
    go_ret
    exact ⟨rfl, (Below.refl _ _).alloc (Nat.le_refl _) _⟩
  by_cases c41 : e = 41
  · subst c41
    go_enter Tryd.func12, Tryd.ntmps12
    go_wp2
    go_ret
    exact ⟨rfl, (Below.refl _ _).alloc (Nat.le_refl _) _⟩
  by_cases c42 : e = 42
  · subst c42
    go_enter Tryd.func12, Tryd.ntmps12
    go_wp2
    go_ret
    exact ⟨rfl, (Below.refl _ _).alloc (Nat.le_refl _) _⟩
  by_cases c43 : e = 43
  · subst c43
    go_enter Tryd.func12, Tryd.ntmps12
    go_wp2
    go_ret
    exact ⟨rfl, (Below.refl _ _).alloc (Nat.le_refl _) _⟩
  by_cases c44 : e = 44
  · subst c44
    go_enter Tryd.func12, Tryd.ntmps12
    go_wp2
    go_ret
    exact ⟨rfl, (Below.refl _ _).alloc (Nat.le_refl _) _⟩
  by_cases c45 : e = 45
  · subst c45
    go_enter Tryd.func12, Tryd.ntmps12
    go_wp2
    go_ret
    exact ⟨rfl, (Below.refl _ _).alloc (Nat.le_refl _) _⟩
  have HW : Hid (wordP e = [101, 114, 114, 111, 114, 32] ++ Lib.itoa e) := by
    show _ = _
    rw [wordP, if_neg c30, if_neg c40, if_neg c41, if_neg c42, if_neg c43, if_neg c44, if_neg c45]
  have g30 : (e == 30) = false := by simpa using c30
  obtain ⟨I, hI⟩ : ∃ I, str (Lib.itoa e) = I := ⟨_, rfl⟩
  have hIs : I.size ≤ 21 := by rw [← hI, str_size]; exact itoa_len e h0 h1
  have HI := Lib.hid hI
  have hr : ¬ 40 ≤ e ∨ (40 ≤ e ∧ ¬ e ≤ 45) := by omega
  clear hI c30 c40 c41 c42 c43 c44 c45
  rcases hr with ha | ⟨ha, hb⟩
  all_goals
    go_enter Tryd.func12, Tryd.ntmps12
    go_wp2_with fail
    refine (rint_any e h0 h1 _).mono ?_
    rintro x w' ⟨rfl, hb2⟩
    rw [HI.out]
    have HB := Lib.hid (((Below.refl w.heap.size w).alloc (Nat.le_refl _) _).trans (hb2.mono (by simp)))
    clear hb2
    go_wp2
    go_ret
    refine ⟨?_, HB.out⟩
    rw [HW.out, ← str_app, HI.out]; rfl
set_option maxHeartbeats 1000000 in
theorem rresult_any (c v : Int) (h0 : -9223372036854775808 ≤ c) (h1 : c ≤ 9223372036854775807) (hv0 : 0 ≤ v) (hv1 : v ≤ 18446744073709551615) (w : World) :
    Calls Tryd.prog 10 #[.int .i64 c, .int .u64 v] w fun e w' => e = .returned (.string (str (resultP c v))) ∧ Below w.heap.size w w' := by
  by_cases c0 : c = 0
  · subst c0
    go_enter Tryd.func10, Tryd.ntmps10
    go_wp2_with fail
    refine (rnum_any v hv0 hv1 _).mono ?_
    rintro e w' ⟨rfl, hb⟩
    have HB := Lib.hid hb
    clear hb
    go_wp2
    go_ret
    exact ⟨rfl, HB.out⟩
  have g0 : (c == 0) = false := by simpa using c0
  by_cases c1 : c = 40
  · subst c1
    obtain ⟨D, hD⟩ : ∃ D, str (dec v) = D := ⟨_, rfl⟩
    have hDs : D.size ≤ 20 := by rw [← hD, str_size]; exact dec_len v hv1
    have HD := Lib.hid hD
    have HR : Hid (resultP 40 v = [97, 98, 111, 114, 116, 32] ++ dec v) := rfl
    clear hD c0
    go_enter Tryd.func10, Tryd.ntmps10
    go_wp2_with fail
    refine (rnum_any v hv0 hv1 _).mono ?_
    rintro e w' ⟨rfl, hb⟩
    rw [HD.out]
    have HB := Lib.hid hb
    clear hb
    go_wp2
    go_ret
    refine ⟨?_, HB.out⟩
    rw [HR.out, ← str_app, HD.out]; rfl
  have g1 : (c == 40) = false := by simpa using c1
  have HR : Hid (resultP c v = wordP c) := by show _ = _; rw [resultP, if_neg c0, if_neg c1]
  clear c0 c1
  go_enter Tryd.func10, Tryd.ntmps10
  go_wp2_with fail
  refine (rword_any c h0 h1 _).mono ?_
  rintro e w' ⟨rfl, hb⟩
  have HB := Lib.hid hb
  clear hb
  go_wp2
  go_ret
  exact ⟨by rw [HR.out]; rfl, HB.out⟩
end Go.Proofs.YthklmcpjlpaklaaDoor
