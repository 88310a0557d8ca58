import Derived.Test.YtjggmimaolddkaaRows
import Derived.Test.YtjggmimaolddkaaOrAB
import Derived.Test.YtjggmimaolddkaaOrAA
import Derived.WalkKit
import Derived.Handy
import Derived.WalkLawsBesides
import Derived.WalkSpells
import Derived.Outline
namespace Go.Proofs.Ytjggmimaolddkaa
open Go.RowKit
theorem other_any (n : Int) (w : World) (h : ¬ (0 ≤ n ∧ n ≤ 10)) :
 Calls Try.prog 106 #[.int .i64 n] w fun e w' => e = .returned (.tuple #[.string (nameOf n), .string (fieldsOf n)]) ∧ w = w' := by
 by_cases hn : 11 ≤ n ∧ n ≤ 21
 ·obtain ⟨h1, h2⟩ := hn
  obtain rfl | rfl | rfl | rfl | rfl | rfl | rfl | rfl | rfl | rfl | rfl : n = 11 ∨ n = 12 ∨ n = 13 ∨ n = 14 ∨ n = 15 ∨ n = 16 ∨ n = 17 ∨ n = 18 ∨ n = 19 ∨ n = 20 ∨ n = 21 := by omega
  all_goals
   clear h
   go_enter Try.func106, Try.ntmps106
   go_wp2
   go_ret2
   exact ⟨rfl, rfl⟩
 ·rw [nameOf_out (by omega), fieldsOf_out (by omega)]
  have e : ∀ k : Int, 11 ≤ k → k ≤ 21 → (n == k) = false := fun k h1 h2 => beq_eq_false_iff_ne.2 (by omega)
  have e11 := e 11 (by omega) (by omega)
  have e12 := e 12 (by omega) (by omega)
  have e13 := e 13 (by omega) (by omega)
  have e14 := e 14 (by omega) (by omega)
  have e15 := e 15 (by omega) (by omega)
  have e16 := e 16 (by omega) (by omega)
  have e17 := e 17 (by omega) (by omega)
  have e18 := e 18 (by omega) (by omega)
  have e19 := e 19 (by omega) (by omega)
  have e20 := e 20 (by omega) (by omega)
  have e21 := e 21 (by omega) (by omega)
  clear e hn h
  go_enter Try.func106, Try.ntmps106
  go_wp2
  go_ret2
  exact ⟨rfl, rfl⟩
theorem form_any (n : Int) (w : World) :
 Calls Try.prog 105 #[.int .i64 n] w fun e w' => e = .returned (.tuple #[.string (nameOf n), .string (fieldsOf n)]) ∧ w = w' := by
 by_cases hn : 0 ≤ n ∧ n ≤ 10
 ·obtain ⟨h1, h2⟩ := hn
  obtain rfl | rfl | rfl | rfl | rfl | rfl | rfl | rfl | rfl | rfl | rfl : n = 0 ∨ n = 1 ∨ n = 2 ∨ n = 3 ∨ n = 4 ∨ n = 5 ∨ n = 6 ∨ n = 7 ∨ n = 8 ∨ n = 9 ∨ n = 10 := by omega
  all_goals
   go_enter Try.func105, Try.ntmps105
   go_wp2
   go_ret2
   exact ⟨rfl, rfl⟩
 ·have e : ∀ k : Int, 0 ≤ k → k ≤ 10 → (n == k) = false := fun k h1 h2 => beq_eq_false_iff_ne.2 (by omega)
  have e0 := e 0 (by omega) (by omega)
  have e1 := e 1 (by omega) (by omega)
  have e2 := e 2 (by omega) (by omega)
  have e3 := e 3 (by omega) (by omega)
  have e4 := e 4 (by omega) (by omega)
  have e5 := e 5 (by omega) (by omega)
  have e6 := e 6 (by omega) (by omega)
  have e7 := e 7 (by omega) (by omega)
  have e8 := e 8 (by omega) (by omega)
  have e9 := e 9 (by omega) (by omega)
  have e10 := e 10 (by omega) (by omega)
  have H := other_any n w hn
  have H := Lib.hid H
  clear e hn
  go_enter Try.func105, Try.ntmps105
  go_wp2_with (go_at_call 106; refine H.out.mono ?_; rintro e w' ⟨rfl, rfl⟩)
  go_ret2
  exact ⟨rfl, rfl⟩
theorem name_any (n : Int) (w : World) :
 Calls Try.prog 100 #[.int .i64 n] w fun e w' => e = .returned (.string (nameOf n)) ∧ w = w' := by
 go_enter Try.func100, Try.ntmps100
 go_wp2_with (go_at_call 105; refine (form_any _ _).mono ?_; rintro e w' ⟨rfl, rfl⟩)
 go_ret
 exact ⟨rfl, rfl⟩
theorem field_any (r : Int) (u : Bool) (w : World) :
 Calls Try.prog 101 #[.int .i64 r, .bool u] w fun e w' => e = .returned (.bool (fieldB r u)) ∧ w = w' := by
 go_enter Try.func101, Try.ntmps101
 go_wp2
 all_goals go_ret
 all_goals refine ⟨ret_bool ?_, rfl⟩
 all_goals (cases u <;> rw [Bool.eq_iff_iff] <;> simp_all [fieldB] <;> omega)
end Go.Proofs.Ytjggmimaolddkaa
namespace Go.Proofs.Ytjggmimaolddkaa
open Go.RowKit
def hasL (l : List UInt8) (c : UInt8) : Bool := l.any (· == c)
def othL (l : List UInt8) : Bool := l.any fun c => !(c == 97) && !(c == 98) && !(c == 99)
theorem take_snoc (s : ByteArray) (k : Nat) (h : k < s.size) : s.data.toList.take (k + 1) = s.data.toList.take k ++ [s[k]] := by
 rw [List.take_succ_eq_append_getElem (by simpa using h)]; rfl
theorem hasL_snoc (l : List UInt8) (d c : UInt8) : hasL (l ++ [d]) c = (hasL l c || d == c) := by simp [hasL]
theorem othL_snoc (l : List UInt8) (d : UInt8) : othL (l ++ [d]) = (othL l || (!(d == 97) && !(d == 98) && !(d == 99))) := by simp [othL]
theorem byte_eq (d : UInt8) (k : Nat) (hk : k < 256) : (((d.toNat : Int)) == (k : Int)) = (d == UInt8.ofNat k) := by
 rw [Bool.eq_iff_iff]; simp only [beq_iff_eq]
 constructor
 ·intro h
  have h2 : d.toNat = k := by omega
  rw [← h2]; simp
 ·intro h
  rw [h]; simp; omega
theorem uses_str (n : Int) (w : World) (s : ByteArray) (hs : fieldsOf n = s) (ha : ∀ i, (h : i < s.size) → (s[i]'h).toNat < 128) :
 Calls Try.prog 99 #[.int .i64 n] w fun e w' => e = .returned (.tuple #[.bool (hasL s.data.toList 97), .bool (hasL s.data.toList 98), .bool (hasL s.data.toList 99), .bool (othL s.data.toList)]) ∧ Below w.heap.size w w' := by
 have H := form_any n w
 rw [hs] at H
 clear hs
 have H := Lib.hid H
 have HA := Lib.hid ha
 clear ha
 go_enter Try.func99, Try.ntmps99
 go_wp2_with (go_at_call 105; refine H.out.mono ?_; rintro e w' ⟨rfl, rfl⟩)
 go_loopw [2, 3, 4, 5] (fun a b c i wr => ∃ p : Nat, p ≤ s.size ∧ wr = w.iter s p ∧ a = .bool (hasL (s.data.toList.take p) 97) ∧ b = .bool (hasL (s.data.toList.take p) 98) ∧ c = .bool (hasL (s.data.toList.take p) 99) ∧ i = .bool (othL (s.data.toList.take p))) (fun _ _ _ _ wr => s.size - wr.iterPos w.heap.size)
 case atStart => exact ⟨0, Nat.zero_le _, rfl, rfl, rfl, rfl, rfl⟩
 case round =>
  obtain ⟨p, hp, rfl, rfl, rfl, rfl, rfl⟩ := hrel
  by_cases hlt : p < s.size
  ·have n0 := fun ty => run_next_ascii (P := Try.prog) w s p ty hlt (HA.out p hlt)
   have T := Lib.hid (take_snoc s p hlt)
   generalize hc : s[p]'hlt = c at n0 T
   clear hc
   have e97 := byte_eq c 97 (by omega)
   have e98 := byte_eq c 98 (by omega)
   have e99 := byte_eq c 99 (by omega)
   by_cases h97 : c = 97
   ·subst h97
    clear e97 e98 e99
    go_wp2
    go_roundw
    case rel => exact ⟨p + 1, by omega, rfl, by rw [T.out, hasL_snoc]; simp, by rw [T.out, hasL_snoc]; simp, by rw [T.out, hasL_snoc]; simp, by rw [T.out, othL_snoc]; simp⟩
    case measure => simp; omega
   ·by_cases h98 : c = 98
    ·subst h98
     clear e97 e98 e99 h97
     go_wp2
     go_roundw
     case rel => exact ⟨p + 1, by omega, rfl, by rw [T.out, hasL_snoc]; simp, by rw [T.out, hasL_snoc]; simp, by rw [T.out, hasL_snoc]; simp, by rw [T.out, othL_snoc]; simp⟩
     case measure => simp; omega
    ·by_cases h99 : c = 99
     ·subst h99
      clear e97 e98 e99 h97 h98
      go_wp2
      go_roundw
      case rel => exact ⟨p + 1, by omega, rfl, by rw [T.out, hasL_snoc]; simp, by rw [T.out, hasL_snoc]; simp, by rw [T.out, hasL_snoc]; simp, by rw [T.out, othL_snoc]; simp⟩
      case measure => simp; omega
     ·have f97 : ((c.toNat : Int) == 97) = false := e97.trans (beq_eq_false_iff_ne.2 h97)
      have f98 : ((c.toNat : Int) == 98) = false := e98.trans (beq_eq_false_iff_ne.2 h98)
      have f99 : ((c.toNat : Int) == 99) = false := e99.trans (beq_eq_false_iff_ne.2 h99)
      clear e97 e98 e99
      have H97 := Lib.hid h97
      have H98 := Lib.hid h98
      have H99 := Lib.hid h99
      clear h97 h98 h99
      go_wp2
      go_roundw
      case rel => exact ⟨p + 1, by omega, rfl, by rw [T.out, hasL_snoc]; simp [H97.out], by rw [T.out, hasL_snoc]; simp [H98.out], by rw [T.out, hasL_snoc]; simp [H99.out], by rw [T.out, othL_snoc]; simp [H97.out, H98.out, H99.out]⟩
      case measure => simp; omega
  ·have n0 := fun ty => run_next_end (P := Try.prog) w s p ty hlt
   go_wp2
   obtain rfl : p = s.size := by omega
   have ht : s.data.toList.take s.size = s.data.toList := List.take_of_length_le (by simp)
   refine bodyPost_ret (results_tmp4 rfl _ _ _) rfl ?_
   refine ⟨?_, (Below.refl _ _).alloc (Nat.le_refl _) _⟩
   simp [ht]
theorem uses_any (n : Int) (w : World) :
 Calls Try.prog 99 #[.int .i64 n] w fun e w' => e = .returned (.tuple #[.bool (decide (0 < regsOf n)), .bool (decide (1 < regsOf n)), .bool (decide (2 < regsOf n)), .bool (immOf n)]) ∧ Below w.heap.size w w' := by
 by_cases hn : 0 ≤ n ∧ n ≤ 21
 ·obtain ⟨h1, h2⟩ := hn
  obtain rfl | rfl | rfl | rfl | rfl | rfl | rfl | rfl | rfl | rfl | rfl | rfl | rfl | rfl | rfl | rfl | rfl | rfl | rfl | rfl | rfl | rfl : n = 0 ∨ n = 1 ∨ n = 2 ∨ n = 3 ∨ n = 4 ∨ n = 5 ∨ n = 6 ∨ n = 7 ∨ n = 8 ∨ n = 9 ∨ n = 10 ∨ n = 11 ∨ n = 12 ∨ n = 13 ∨ n = 14 ∨ n = 15 ∨ n = 16 ∨ n = 17 ∨ n = 18 ∨ n = 19 ∨ n = 20 ∨ n = 21 := by omega
  all_goals exact uses_str _ w _ rfl (by decide)
 ·have h := uses_str n w ⟨#[]⟩ (fieldsOf_out (by omega)) (by decide)
  have e1 : regsOf n = 0 := by unfold regsOf; rw [if_neg (by omega), if_neg (by omega), if_pos (by omega)]
  have e2 : immOf n = false := by unfold immOf; exact decide_eq_false (by omega)
  rw [e1, e2]
  exact h
end Go.Proofs.Ytjggmimaolddkaa
namespace Go.Proofs.Ytjggmimaolddkaa
open Go.RowKit
theorem nameOf_ne (n : Int) (h : 0 ≤ n ∧ n ≤ 21) : (nameOf n).toList.isEmpty = false := by
 obtain ⟨h1, h2⟩ := h
 obtain rfl | rfl | rfl | rfl | rfl | rfl | rfl | rfl | rfl | rfl | rfl | rfl | rfl | rfl | rfl | rfl | rfl | rfl | rfl | rfl | rfl | rfl : n = 0 ∨ n = 1 ∨ n = 2 ∨ n = 3 ∨ n = 4 ∨ n = 5 ∨ n = 6 ∨ n = 7 ∨ n = 8 ∨ n = 9 ∨ n = 10 ∨ n = 11 ∨ n = 12 ∨ n = 13 ∨ n = 14 ∨ n = 15 ∨ n = 16 ∨ n = 17 ∨ n = 18 ∨ n = 19 ∨ n = 20 ∨ n = 21 := by omega
 all_goals decide +kernel
theorem plain_any (n a b c m : Int) (w : World) :
 Calls Try.prog 88 #[.agg #[.int .i64 n, .int .i64 a, .int .i64 b, .int .i64 c, .int .u64 m]] w fun e w' => e = .returned (.bool (plainB n a b c m)) ∧ Below w.heap.size w w' := by
 go_enter Try.func88, Try.ntmps88
 go_wp2_with fail
 refine (uses_any _ _).mono ?_
 rintro e w1 ⟨rfl, hb⟩
 obtain ⟨hc, hf⟩ := bcell hb
 have hz : w.heap.size < w1.heap.size := by have := hb.size; simp at this; omega
 have HB := Lib.hid hb
 clear hb
 go_wp2_with fail
 refine (name_any _ _).mono ?_
 rintro e w2 ⟨rfl, rfl⟩
 by_cases hn : 0 ≤ n ∧ n ≤ 21
 ·have h1 := nameOf_ne n hn
  have h2 : ¬ (nameOf n).toList = [] := by intro h; rw [h] at h1; simp at h1
  cases hA : fieldB a (decide (0 < regsOf n))
  ·have e1 : plainB n a b c m = false := by simp [plainB, hA]
   have E := Lib.hid e1
   clear e1
   go_wp2_with fail
   refine (field_any _ _ _).mono ?_
   rintro e w2 ⟨rfl, rfl⟩
   go_wp2
   go_ret
   exact ⟨ret_bool E.out.symm, ((Below.refl _ _).alloc (Nat.le_refl _) _).trans (HB.out.mono (by simp))⟩
  ·cases hB : fieldB b (decide (1 < regsOf n))
   ·have e1 : plainB n a b c m = false := by simp [plainB, hB]
    have E := Lib.hid e1
    clear e1
    go_wp2_with fail
    refine (field_any _ _ _).mono ?_
    rintro e w2 ⟨rfl, rfl⟩
    go_wp2_with fail
    refine (field_any _ _ _).mono ?_
    rintro e w2 ⟨rfl, rfl⟩
    go_wp2
    go_ret
    exact ⟨ret_bool E.out.symm, ((Below.refl _ _).alloc (Nat.le_refl _) _).trans (HB.out.mono (by simp))⟩
   ·cases hC : fieldB c (decide (2 < regsOf n))
    ·have e1 : plainB n a b c m = false := by simp [plainB, hC]
     have E := Lib.hid e1
     clear e1
     go_wp2_with fail
     refine (field_any _ _ _).mono ?_
     rintro e w2 ⟨rfl, rfl⟩
     go_wp2_with fail
     refine (field_any _ _ _).mono ?_
     rintro e w2 ⟨rfl, rfl⟩
     go_wp2_with fail
     refine (field_any _ _ _).mono ?_
     rintro e w2 ⟨rfl, rfl⟩
     go_wp2
     go_ret
     exact ⟨ret_bool E.out.symm, ((Below.refl _ _).alloc (Nat.le_refl _) _).trans (HB.out.mono (by simp))⟩
    ·have e1 : plainB n a b c m = (immOf n || decide (m = 0)) := by simp [plainB, hA, hB, hC, hn]
     have E := Lib.hid e1
     clear e1
     cases hI : immOf n
     all_goals
      go_wp2_with fail
      refine (field_any _ _ _).mono ?_
      rintro e w2 ⟨rfl, rfl⟩
      go_wp2_with fail
      refine (field_any _ _ _).mono ?_
      rintro e w2 ⟨rfl, rfl⟩
      go_wp2_with fail
      refine (field_any _ _ _).mono ?_
      rintro e w2 ⟨rfl, rfl⟩
      go_wp2
      go_ret
     ·exact ⟨ret_bool (by rw [E.out, hI]; rfl), ((Below.refl _ _).alloc (Nat.le_refl _) _).trans (HB.out.mono (by simp))⟩
     ·exact ⟨ret_bool (by rw [E.out, hI]; rfl), ((Below.refl _ _).alloc (Nat.le_refl _) _).trans (HB.out.mono (by simp))⟩
 ·rw [nameOf_out (by omega)]
  have e1 : plainB n a b c m = false := by simp [plainB]; omega
  have E := Lib.hid e1
  clear e1
  go_wp2
  go_ret
  exact ⟨ret_bool E.out.symm, ((Below.refl _ _).alloc (Nat.le_refl _) _).trans (HB.out.mono (by simp))⟩
def ofFind (s : ByteArray) : Option Nat := (List.range 22).find? fun k => (nameOf k).toList == s.toList
end Go.Proofs.Ytjggmimaolddkaa
namespace Go.Proofs.Ytjggmimaolddkaa
open Go.RowKit
theorem regs_any (n : Int) (w : World) :
 Calls Try.prog 102 #[.int .i64 n] w fun e w' => e = .returned (.int .i64 (regsOf n)) ∧ w = w' := by
 go_enter Try.func102, Try.ntmps102
 go_wp2
 all_goals go_ret
 all_goals refine ⟨ret_int ?_, rfl⟩
 all_goals go_tidy
 all_goals (try simp only [beq_iff_eq, beq_eq_false_iff_ne, ne_eq] at *)
 all_goals unfold regsOf
 all_goals (repeat' split)
 all_goals omega
theorem imm_any (n : Int) (w : World) :
 Calls Try.prog 103 #[.int .i64 n] w fun e w' => e = .returned (.bool (immOf n)) ∧ w = w' := by
 go_enter Try.func103, Try.ntmps103
 go_wp2
 all_goals go_ret
 all_goals refine ⟨ret_bool ?_, rfl⟩
 all_goals go_tidy
 all_goals (try simp only [beq_iff_eq, beq_eq_false_iff_ne, ne_eq] at *)
 all_goals (unfold immOf; rw [Bool.eq_iff_iff]; simp)
 all_goals omega
end Go.Proofs.Ytjggmimaolddkaa
namespace Go.Proofs.Ytjggmimaolddkaa
open Go.RowKit
set_option linter.unusedVariables false
set_option linter.unusedSimpArgs false
theorem rplain_at0 (n a b c m : Int) (w : World) (n0 : 0 ≤ n) (n1 : n ≤ 21) (a0 : 0 ≤ a) (a1 : a ≤ 15) (b0 : 0 ≤ b) (b1 : b ≤ 15) (c0 : 0 ≤ c) (c1 : c ≤ 15) (hr : regsOf n = 0) :
 Calls Try.prog 90 #[.agg #[.int .i64 n, .int .i64 a, .int .i64 b, .int .i64 c, .int .u64 m]] w fun e w' => e = .returned (.bool (plainB n a b c m)) ∧ Below w.heap.size w w' := by
 have HE : Hid (plainB n a b c m = ((decide (0 < (0 : Int)) || decide (a = 0)) && (decide (1 < (0 : Int)) || decide (b = 0)) && (decide (2 < (0 : Int)) || decide (c = 0)) && (immOf n || decide (m = 0)))) := by
  show _ = _
  rw [Bool.eq_iff_iff]; simp [plainB, fieldB, hr]
  omega
 go_enter Try.func90, Try.ntmps90
 go_wp2_with fail
 refine (regs_any _ _).mono ?_
 rintro e w1 ⟨rfl, rfl⟩
 rw [hr]
 clear hr
 by_cases ha : a = 0
 ·subst ha
  by_cases hb : b = 0
  ·subst hb
   by_cases hc : c = 0
   ·subst hc
    cases hI : immOf n
    ·by_cases hM : m = 0
     ·subst hM
      go_wp2_with fail
      refine (imm_any _ _).mono ?_
      rintro e w1 ⟨rfl, rfl⟩
      go_wp2
      go_ret
      exact ⟨ret_bool (by rw [HE.out]; simp [*]), (Below.refl _ _).alloc (Nat.le_refl _) _⟩
     ·have hM2 : (m == 0) = false := by simpa using hM
      go_wp2_with fail
      refine (imm_any _ _).mono ?_
      rintro e w1 ⟨rfl, rfl⟩
      go_wp2
      go_ret
      exact ⟨ret_bool (by rw [HE.out]; simp [*]), (Below.refl _ _).alloc (Nat.le_refl _) _⟩
    ·skip
     go_wp2_with fail
     refine (imm_any _ _).mono ?_
     rintro e w1 ⟨rfl, rfl⟩
     go_wp2
     go_ret
     exact ⟨ret_bool (by rw [HE.out]; simp [*]), (Below.refl _ _).alloc (Nat.le_refl _) _⟩
   ·have hc2 : (c == 0) = false := by simpa using hc
    go_wp2
    go_ret
    exact ⟨ret_bool (by rw [HE.out]; simp [*]), (Below.refl _ _).alloc (Nat.le_refl _) _⟩
  ·have hb2 : (b == 0) = false := by simpa using hb
   go_wp2
   go_ret
   exact ⟨ret_bool (by rw [HE.out]; simp [*]), (Below.refl _ _).alloc (Nat.le_refl _) _⟩
 ·have ha2 : (a == 0) = false := by simpa using ha
  go_wp2
  go_ret
  exact ⟨ret_bool (by rw [HE.out]; simp [*]), (Below.refl _ _).alloc (Nat.le_refl _) _⟩
theorem rplain_at1 (n a b c m : Int) (w : World) (n0 : 0 ≤ n) (n1 : n ≤ 21) (a0 : 0 ≤ a) (a1 : a ≤ 15) (b0 : 0 ≤ b) (b1 : b ≤ 15) (c0 : 0 ≤ c) (c1 : c ≤ 15) (hr : regsOf n = 1) :
 Calls Try.prog 90 #[.agg #[.int .i64 n, .int .i64 a, .int .i64 b, .int .i64 c, .int .u64 m]] w fun e w' => e = .returned (.bool (plainB n a b c m)) ∧ Below w.heap.size w w' := by
 have HE : Hid (plainB n a b c m = ((decide (0 < (1 : Int)) || decide (a = 0)) && (decide (1 < (1 : Int)) || decide (b = 0)) && (decide (2 < (1 : Int)) || decide (c = 0)) && (immOf n || decide (m = 0)))) := by
  show _ = _
  rw [Bool.eq_iff_iff]; simp [plainB, fieldB, hr]
  omega
 go_enter Try.func90, Try.ntmps90
 go_wp2_with fail
 refine (regs_any _ _).mono ?_
 rintro e w1 ⟨rfl, rfl⟩
 rw [hr]
 clear hr
 by_cases hb : b = 0
 ·subst hb
  by_cases hc : c = 0
  ·subst hc
   cases hI : immOf n
   ·by_cases hM : m = 0
    ·subst hM
     go_wp2_with fail
     refine (imm_any _ _).mono ?_
     rintro e w1 ⟨rfl, rfl⟩
     go_wp2
     go_ret
     exact ⟨ret_bool (by rw [HE.out]; simp [*]), (Below.refl _ _).alloc (Nat.le_refl _) _⟩
    ·have hM2 : (m == 0) = false := by simpa using hM
     go_wp2_with fail
     refine (imm_any _ _).mono ?_
     rintro e w1 ⟨rfl, rfl⟩
     go_wp2
     go_ret
     exact ⟨ret_bool (by rw [HE.out]; simp [*]), (Below.refl _ _).alloc (Nat.le_refl _) _⟩
   ·skip
    go_wp2_with fail
    refine (imm_any _ _).mono ?_
    rintro e w1 ⟨rfl, rfl⟩
    go_wp2
    go_ret
    exact ⟨ret_bool (by rw [HE.out]; simp [*]), (Below.refl _ _).alloc (Nat.le_refl _) _⟩
  ·have hc2 : (c == 0) = false := by simpa using hc
   go_wp2
   go_ret
   exact ⟨ret_bool (by rw [HE.out]; simp [*]), (Below.refl _ _).alloc (Nat.le_refl _) _⟩
 ·have hb2 : (b == 0) = false := by simpa using hb
  go_wp2
  go_ret
  exact ⟨ret_bool (by rw [HE.out]; simp [*]), (Below.refl _ _).alloc (Nat.le_refl _) _⟩
theorem rplain_at2 (n a b c m : Int) (w : World) (n0 : 0 ≤ n) (n1 : n ≤ 21) (a0 : 0 ≤ a) (a1 : a ≤ 15) (b0 : 0 ≤ b) (b1 : b ≤ 15) (c0 : 0 ≤ c) (c1 : c ≤ 15) (hr : regsOf n = 2) :
 Calls Try.prog 90 #[.agg #[.int .i64 n, .int .i64 a, .int .i64 b, .int .i64 c, .int .u64 m]] w fun e w' => e = .returned (.bool (plainB n a b c m)) ∧ Below w.heap.size w w' := by
 have HE : Hid (plainB n a b c m = ((decide (0 < (2 : Int)) || decide (a = 0)) && (decide (1 < (2 : Int)) || decide (b = 0)) && (decide (2 < (2 : Int)) || decide (c = 0)) && (immOf n || decide (m = 0)))) := by
  show _ = _
  rw [Bool.eq_iff_iff]; simp [plainB, fieldB, hr]
  omega
 go_enter Try.func90, Try.ntmps90
 go_wp2_with fail
 refine (regs_any _ _).mono ?_
 rintro e w1 ⟨rfl, rfl⟩
 rw [hr]
 clear hr
 by_cases hc : c = 0
 ·subst hc
  cases hI : immOf n
  ·by_cases hM : m = 0
   ·subst hM
    go_wp2_with fail
    refine (imm_any _ _).mono ?_
    rintro e w1 ⟨rfl, rfl⟩
    go_wp2
    go_ret
    exact ⟨ret_bool (by rw [HE.out]; simp [*]), (Below.refl _ _).alloc (Nat.le_refl _) _⟩
   ·have hM2 : (m == 0) = false := by simpa using hM
    go_wp2_with fail
    refine (imm_any _ _).mono ?_
    rintro e w1 ⟨rfl, rfl⟩
    go_wp2
    go_ret
    exact ⟨ret_bool (by rw [HE.out]; simp [*]), (Below.refl _ _).alloc (Nat.le_refl _) _⟩
  ·skip
   go_wp2_with fail
   refine (imm_any _ _).mono ?_
   rintro e w1 ⟨rfl, rfl⟩
   go_wp2
   go_ret
   exact ⟨ret_bool (by rw [HE.out]; simp [*]), (Below.refl _ _).alloc (Nat.le_refl _) _⟩
 ·have hc2 : (c == 0) = false := by simpa using hc
  go_wp2
  go_ret
  exact ⟨ret_bool (by rw [HE.out]; simp [*]), (Below.refl _ _).alloc (Nat.le_refl _) _⟩
theorem rplain_at3 (n a b c m : Int) (w : World) (n0 : 0 ≤ n) (n1 : n ≤ 21) (a0 : 0 ≤ a) (a1 : a ≤ 15) (b0 : 0 ≤ b) (b1 : b ≤ 15) (c0 : 0 ≤ c) (c1 : c ≤ 15) (hr : regsOf n = 3) :
 Calls Try.prog 90 #[.agg #[.int .i64 n, .int .i64 a, .int .i64 b, .int .i64 c, .int .u64 m]] w fun e w' => e = .returned (.bool (plainB n a b c m)) ∧ Below w.heap.size w w' := by
 have HE : Hid (plainB n a b c m = ((decide (0 < (3 : Int)) || decide (a = 0)) && (decide (1 < (3 : Int)) || decide (b = 0)) && (decide (2 < (3 : Int)) || decide (c = 0)) && (immOf n || decide (m = 0)))) := by
  show _ = _
  rw [Bool.eq_iff_iff]; simp [plainB, fieldB, hr]
  omega
 go_enter Try.func90, Try.ntmps90
 go_wp2_with fail
 refine (regs_any _ _).mono ?_
 rintro e w1 ⟨rfl, rfl⟩
 rw [hr]
 clear hr
 cases hI : immOf n
 ·by_cases hM : m = 0
  ·subst hM
   go_wp2_with fail
   refine (imm_any _ _).mono ?_
   rintro e w1 ⟨rfl, rfl⟩
   go_wp2
   go_ret
   exact ⟨ret_bool (by rw [HE.out]; simp [*]), (Below.refl _ _).alloc (Nat.le_refl _) _⟩
  ·have hM2 : (m == 0) = false := by simpa using hM
   go_wp2_with fail
   refine (imm_any _ _).mono ?_
   rintro e w1 ⟨rfl, rfl⟩
   go_wp2
   go_ret
   exact ⟨ret_bool (by rw [HE.out]; simp [*]), (Below.refl _ _).alloc (Nat.le_refl _) _⟩
 ·skip
  go_wp2_with fail
  refine (imm_any _ _).mono ?_
  rintro e w1 ⟨rfl, rfl⟩
  go_wp2
  go_ret
  exact ⟨ret_bool (by rw [HE.out]; simp [*]), (Below.refl _ _).alloc (Nat.le_refl _) _⟩
set_option maxHeartbeats 4000000 in
theorem rplain_any (n a b c m : Int) (w : World) :
 Calls Try.prog 90 #[.agg #[.int .i64 n, .int .i64 a, .int .i64 b, .int .i64 c, .int .u64 m]] w fun e w' => e = .returned (.bool (plainB n a b c m)) ∧ Below w.heap.size w w' := by
 by_cases h : n < 0
 ·have E : Hid (plainB n a b c m = false) := by
   show _ = _
   rw [← Bool.not_eq_true]
   intro h
   simp [plainB, fieldB] at h
   omega
  go_enter Try.func90, Try.ntmps90
  go_wp2
  go_ret
  exact ⟨ret_bool E.out.symm, (Below.refl _ _).alloc (Nat.le_refl _) _⟩
 have gnlt0 : 0 ≤ n := by omega
 clear h
 by_cases h : 21 < n
 ·have E : Hid (plainB n a b c m = false) := by
   show _ = _
   rw [← Bool.not_eq_true]
   intro h
   simp [plainB, fieldB] at h
   omega
  go_enter Try.func90, Try.ntmps90
  go_wp2
  go_ret
  exact ⟨ret_bool E.out.symm, (Below.refl _ _).alloc (Nat.le_refl _) _⟩
 have g21ltn : n ≤ 21 := by omega
 clear h
 by_cases h : a < 0
 ·have E : Hid (plainB n a b c m = false) := by
   show _ = _
   rw [← Bool.not_eq_true]
   intro h
   simp [plainB, fieldB] at h
   omega
  go_enter Try.func90, Try.ntmps90
  go_wp2
  go_ret
  exact ⟨ret_bool E.out.symm, (Below.refl _ _).alloc (Nat.le_refl _) _⟩
 have galt0 : 0 ≤ a := by omega
 clear h
 by_cases h : 15 < a
 ·have E : Hid (plainB n a b c m = false) := by
   show _ = _
   rw [← Bool.not_eq_true]
   intro h
   simp [plainB, fieldB] at h
   omega
  go_enter Try.func90, Try.ntmps90
  go_wp2
  go_ret
  exact ⟨ret_bool E.out.symm, (Below.refl _ _).alloc (Nat.le_refl _) _⟩
 have g15lta : a ≤ 15 := by omega
 clear h
 by_cases h : b < 0
 ·have E : Hid (plainB n a b c m = false) := by
   show _ = _
   rw [← Bool.not_eq_true]
   intro h
   simp [plainB, fieldB] at h
   omega
  go_enter Try.func90, Try.ntmps90
  go_wp2
  go_ret
  exact ⟨ret_bool E.out.symm, (Below.refl _ _).alloc (Nat.le_refl _) _⟩
 have gblt0 : 0 ≤ b := by omega
 clear h
 by_cases h : 15 < b
 ·have E : Hid (plainB n a b c m = false) := by
   show _ = _
   rw [← Bool.not_eq_true]
   intro h
   simp [plainB, fieldB] at h
   omega
  go_enter Try.func90, Try.ntmps90
  go_wp2
  go_ret
  exact ⟨ret_bool E.out.symm, (Below.refl _ _).alloc (Nat.le_refl _) _⟩
 have g15ltb : b ≤ 15 := by omega
 clear h
 by_cases h : c < 0
 ·have E : Hid (plainB n a b c m = false) := by
   show _ = _
   rw [← Bool.not_eq_true]
   intro h
   simp [plainB, fieldB] at h
   omega
  go_enter Try.func90, Try.ntmps90
  go_wp2
  go_ret
  exact ⟨ret_bool E.out.symm, (Below.refl _ _).alloc (Nat.le_refl _) _⟩
 have gclt0 : 0 ≤ c := by omega
 clear h
 by_cases h : 15 < c
 ·have E : Hid (plainB n a b c m = false) := by
   show _ = _
   rw [← Bool.not_eq_true]
   intro h
   simp [plainB, fieldB] at h
   omega
  go_enter Try.func90, Try.ntmps90
  go_wp2
  go_ret
  exact ⟨ret_bool E.out.symm, (Below.refl _ _).alloc (Nat.le_refl _) _⟩
 have g15ltc : c ≤ 15 := by omega
 clear h
 have r0 : regsOf n = 0 ∨ regsOf n = 1 ∨ regsOf n = 2 ∨ regsOf n = 3 := by unfold regsOf; (repeat' split) <;> omega
 rcases r0 with h | h | h | h
 ·exact rplain_at0 n a b c m w (by omega) (by omega) (by omega) (by omega) (by omega) (by omega) (by omega) (by omega) h
 ·exact rplain_at1 n a b c m w (by omega) (by omega) (by omega) (by omega) (by omega) (by omega) (by omega) (by omega) h
 ·exact rplain_at2 n a b c m w (by omega) (by omega) (by omega) (by omega) (by omega) (by omega) (by omega) (by omega) h
 ·exact rplain_at3 n a b c m w (by omega) (by omega) (by omega) (by omega) (by omega) (by omega) (by omega) (by omega) h
end Go.Proofs.Ytjggmimaolddkaa
namespace Go.Proofs.Ytjggmimaolddkaa
open Go.RowKit
set_option linter.unusedVariables false
def Ins.plain (i : Ins) : Bool := plainB i.op i.a i.b i.c i.imm
end Go.Proofs.Ytjggmimaolddkaa
namespace Go.Proofs.Ytjggmimaolddkaa
open Go.RowKit
set_option linter.unusedVariables false
def oneE (N k : Nat) (i : Ins) : Int :=
 if i.plain = false then 30
 else if i.op = 8 then (if 4 ≤ i.imm then 1 else 0)
 else if i.op = 11 ∨ i.op = 13 then (if 8 ≤ i.imm then 1 else 0)
 else if i.op = 21 then (if i.imm < 1 ∨ 255 < i.imm then 1 else 0)
 else if i.op = 17 ∨ i.op = 18 then (if i.imm ≤ k ∨ N ≤ i.imm then 24 else 0)
 else if i.op = 19 then (if (k : Int) < i.imm then 24 else 0)
 else 0
def endsB (op : Int) : Bool := decide (op = 20 ∨ op = 21)
theorem ends_any (op : Int) (w : World) : Calls Try.prog 65 #[.int .i64 op] w fun e w' => e = .returned (.bool (endsB op)) ∧ w = w' := by
 go_enter Try.func65, Try.ntmps65
 go_wp2
 all_goals go_ret
 all_goals refine ⟨ret_bool ?_, rfl⟩
 all_goals (rw [Bool.eq_iff_iff]; simp_all [endsB])
theorem goes_any (op : Int) (w : World) : Calls Try.prog 91 #[.int .i64 op] w fun e w' => e = .returned (.bool (decide (17 ≤ op ∧ op ≤ 19))) ∧ w = w' := by
 go_enter Try.func91, Try.ntmps91
 go_wp2
 all_goals go_ret
 all_goals refine ⟨ret_bool ?_, rfl⟩
 all_goals (rw [Bool.eq_iff_iff]; simp <;> omega)
theorem forth_any (op x y : Int) (w : World) : Calls Try.prog 92 #[.int .i64 op, .int .i64 x, .int .i64 y] w fun e w' => e = .returned (.bool (decide (if op = 19 then y ≤ x else x < y))) ∧ w = w' := by
 by_cases h : op = 19
 ·subst h
  by_cases hxy : y ≤ x
  all_goals
   go_enter Try.func92, Try.ntmps92
   go_wp2
   go_ret
   refine ⟨ret_bool ?_, rfl⟩
   simp [hxy]
 ·have h1 : (op == 19) = false := by simpa using h
  have h2 : (op != 19) = true := by simpa using h
  have HH := Lib.hid h
  clear h
  go_enter Try.func92, Try.ntmps92
  go_wp2
  all_goals go_ret
  all_goals refine ⟨ret_bool ?_, rfl⟩
  all_goals (first | rfl | (rw [Bool.eq_iff_iff]; first | done | simp [HH.out]) | simp [HH.out])
end Go.Proofs.Ytjggmimaolddkaa
namespace Go.Proofs.Ytjggmimaolddkaa
open Go.RowKit
set_option linter.unusedVariables false
set_option maxHeartbeats 4000000 in
theorem one_any (l : List Ins) (A : Option Addr) (n c : Nat) (w : World) (hr : RdI w w.heap.size A n l) (k : Nat) (hk : k < n) (i : Ins) (hi : l[k]? = some i) (hok : i.Ok) :
 Calls Try.prog 64 #[.slice A n c, .int .i64 k] w fun e w' => e = .returned (.int .i64 (oneE n k i)) ∧ Below w.heap.size w w' := by
 have h63 := hr.le
 unfold maxLen at h63
 obtain ⟨b0, o0, i', rfl, hbB, hi', c0, c1, c2, c3, c4⟩ := hr.insAt hk
 rw [hi] at hi'
 obtain rfl : i = i' := by simpa using hi'
 obtain ⟨op, a, b, cc, m⟩ := i
 obtain ⟨m0, m1⟩ := hok.imm
 simp only at c0 c1 c2 c3 c4 m0 m1
 clear hr hi hi' hok
 go_enter Try.func64, Try.ntmps64
 go_wp2_with fail
 refine (plain_any _ _ _ _ _ _).mono ?_
 rintro e w1 ⟨rfl, hb1⟩
 have K1 := (Bk.new w 62 #[.int .i64 op, .int .i64 a, .int .i64 b, .int .i64 cc, .int .u64 m]).below hb1 (by simp)
 have HB := Lib.hid (((Below.refl w.heap.size w).alloc (Nat.le_refl _) _).trans (hb1.mono (by simp)))
 have e0 : w1.cell? ⟨w.heap.size, 0, none⟩ = some (.int .i64 op) := K1.cell 0
 have e4 : w1.cell? ⟨w.heap.size, 4, none⟩ = some (.int .u64 m) := K1.cell 4
 clear hb1 K1
 cases hp : plainB op a b cc m
 ·have E : Hid (oneE n k ⟨op, a, b, cc, m⟩ = 30) := by show _ = _; simp [oneE, Ins.plain, hp]
  go_wp2
  go_ret
  exact ⟨ret_int E.out.symm, HB.out⟩
 ·have H : (op = 8 ∧ (m < 4) ∧ (True) ∧ Hid (oneE n k ⟨op, a, b, cc, m⟩ = 0)) ∨
   (op = 8 ∧ (4 ≤ m) ∧ (True) ∧ Hid (oneE n k ⟨op, a, b, cc, m⟩ = 1)) ∨
   (op = 11 ∧ (m < 8) ∧ (True) ∧ Hid (oneE n k ⟨op, a, b, cc, m⟩ = 0)) ∨
   (op = 11 ∧ (8 ≤ m) ∧ (True) ∧ Hid (oneE n k ⟨op, a, b, cc, m⟩ = 1)) ∨
   (op = 13 ∧ (m < 8) ∧ (True) ∧ Hid (oneE n k ⟨op, a, b, cc, m⟩ = 0)) ∨
   (op = 13 ∧ (8 ≤ m) ∧ (True) ∧ Hid (oneE n k ⟨op, a, b, cc, m⟩ = 1)) ∨
   (op = 21 ∧ (m < 1) ∧ (True) ∧ Hid (oneE n k ⟨op, a, b, cc, m⟩ = 1)) ∨
   (op = 21 ∧ (1 ≤ m) ∧ (m ≤ 255) ∧ Hid (oneE n k ⟨op, a, b, cc, m⟩ = 0)) ∨
   (op = 21 ∧ (1 ≤ m) ∧ (255 < m) ∧ Hid (oneE n k ⟨op, a, b, cc, m⟩ = 1)) ∨
   (op = 17 ∧ (m ≤ k) ∧ (True) ∧ Hid (oneE n k ⟨op, a, b, cc, m⟩ = 24)) ∨
   (op = 17 ∧ ((k : Int) < m) ∧ ((n : Int) ≤ m) ∧ Hid (oneE n k ⟨op, a, b, cc, m⟩ = 24)) ∨
   (op = 17 ∧ ((k : Int) < m) ∧ (m < n) ∧ Hid (oneE n k ⟨op, a, b, cc, m⟩ = 0)) ∨
   (op = 18 ∧ (m ≤ k) ∧ (True) ∧ Hid (oneE n k ⟨op, a, b, cc, m⟩ = 24)) ∨
   (op = 18 ∧ ((k : Int) < m) ∧ ((n : Int) ≤ m) ∧ Hid (oneE n k ⟨op, a, b, cc, m⟩ = 24)) ∨
   (op = 18 ∧ ((k : Int) < m) ∧ (m < n) ∧ Hid (oneE n k ⟨op, a, b, cc, m⟩ = 0)) ∨
   (op = 19 ∧ ((k : Int) < m) ∧ ((n : Int) ≤ m) ∧ Hid (oneE n k ⟨op, a, b, cc, m⟩ = 24)) ∨
   (op = 19 ∧ ((k : Int) < m) ∧ (m < n) ∧ Hid (oneE n k ⟨op, a, b, cc, m⟩ = 24)) ∨
   (op = 19 ∧ (m ≤ k) ∧ (True) ∧ Hid (oneE n k ⟨op, a, b, cc, m⟩ = 0)) ∨
   (op ≠ 8 ∧ op ≠ 11 ∧ op ≠ 13 ∧ op ≠ 21 ∧ op ≠ 17 ∧ op ≠ 18 ∧ op ≠ 19 ∧ Hid (oneE n k ⟨op, a, b, cc, m⟩ = 0)) := by
   have e : oneE n k ⟨op, a, b, cc, m⟩ = (if op = 8 then (if 4 ≤ m then 1 else 0) else if op = 11 ∨ op = 13 then (if 8 ≤ m then 1 else 0) else if op = 21 then (if m < 1 ∨ 255 < m then 1 else 0)
    else if op = 17 ∨ op = 18 then (if m ≤ k ∨ n ≤ m then 24 else 0) else if op = 19 then (if (k : Int) < m then 24 else 0) else 0) := by simp [oneE, Ins.plain, hp]
   unfold Hid
   rw [e]
   clear e c0 c1 c2 c3 c4 e0 e4 hp HB
   by_cases q1 : op = 8
   ·subst q1; simp; omega
   by_cases q2 : op = 11
   ·subst q2; simp; omega
   by_cases q3 : op = 13
   ·subst q3; simp; omega
   by_cases q4 : op = 21
   ·subst q4; simp; omega
   by_cases q5 : op = 17
   ·subst q5; simp; omega
   by_cases q6 : op = 18
   ·subst q6; simp; omega
   by_cases q7 : op = 19
   ·subst q7; simp; omega
   simp [q1, q2, q3, q4, q5, q6, q7]
  rcases H with ⟨rfl, h1, h2, E⟩ | ⟨rfl, h1, h2, E⟩ | ⟨rfl, h1, h2, E⟩ | ⟨rfl, h1, h2, E⟩ | ⟨rfl, h1, h2, E⟩ | ⟨rfl, h1, h2, E⟩ | ⟨rfl, h1, h2, E⟩ | ⟨rfl, h1, h2, E⟩ | ⟨rfl, h1, h2, E⟩ | ⟨rfl, h1, h2, E⟩ | ⟨rfl, h1, h2, E⟩ | ⟨rfl, h1, h2, E⟩ | ⟨rfl, h1, h2, E⟩ | ⟨rfl, h1, h2, E⟩ | ⟨rfl, h1, h2, E⟩ | ⟨rfl, h1, h2, E⟩ | ⟨rfl, h1, h2, E⟩ | ⟨rfl, h1, h2, E⟩ | ⟨o1, o2, o3, o4, o5, o6, o7, E⟩
  rotate_right
  ·have f1 : (op == 8) = false := by simpa using o1
   have f2 : (op == 11) = false := by simpa using o2
   have f3 : (op == 13) = false := by simpa using o3
   have f4 : (op == 21) = false := by simpa using o4
   have f5 : (op == 17) = false := by simpa using o5
   have f6 : (op == 18) = false := by simpa using o6
   have f7 : (op == 19) = false := by simpa using o7
   clear o1 o2 o3 o4 o5 o6 o7
   go_wp2
   go_ret
   exact ⟨ret_int E.out.symm, HB.out⟩
  all_goals
   clear hp
   go_wp2
   go_ret
   exact ⟨ret_int E.out.symm, HB.out⟩
end Go.Proofs.Ytjggmimaolddkaa
