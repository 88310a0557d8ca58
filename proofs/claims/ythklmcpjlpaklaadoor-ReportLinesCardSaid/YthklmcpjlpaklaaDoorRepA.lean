/-
  Chapter 25: numbers, words and answers as text: contracts of report.num, line, Word, Result.
-/
import Derived.Test.YthklmcpjlpaklaaDoorRepP
import Derived.Test.YthklmcpjlpaklaaDoorGlyH
namespace Go.Proofs.YthklmcpjlpaklaaDoor
open Go.RowKit
set_option linter.unusedVariables false

/-- Bytes as a string. -/
def str (l : Bys) : ByteArray := ⟨l.toArray⟩
theorem str_list (l : Bys) : (str l).data.toList = l := by simp [str]
theorem str_size (l : Bys) : (str l).size = l.length := by show l.toArray.size = _; simp
theorem str_app (a b : Bys) : str a ++ str b = str (a ++ b) := ByteArray.ext (by rw [ByteArray.data_append]; simp [str])
theorem str_of (s : ByteArray) : str s.data.toList = s := by cases s; simp [str]
theorem dec_len (u : Int) (h : u ≤ 18446744073709551615) : (dec u).length ≤ 20 := by rw [dec, Lib.decDigits_length]; exact Lib.nDigits_le20 _ (by omega)
theorem itoa_len (n : Int) (h0 : -9223372036854775808 ≤ n) (h1 : n ≤ 9223372036854775807) : (Lib.itoa n).length ≤ 21 := by
  unfold Lib.itoa
  split
  · rw [List.length_cons, Lib.decDigits_length]; have := Lib.nDigits_le20 n.natAbs (by omega); omega
  · rw [Lib.decDigits_length]; have := Lib.nDigits_le20 n.toNat (by omega); omega
theorem wordP_len (e : Int) (h0 : -9223372036854775808 ≤ e) (h1 : e ≤ 9223372036854775807) : (wordP e).length ≤ 27 := by
  have := itoa_len e h0 h1
  unfold wordP
  repeat' split
  all_goals simp
  omega
theorem resultP_len (c v : Int) (h0 : -9223372036854775808 ≤ c) (h1 : c ≤ 9223372036854775807) (hv : v ≤ 18446744073709551615) : (resultP c v).length ≤ 27 := by
  have := wordP_len c h0 h1
  have := dec_len v hv
  unfold resultP
  repeat' split
  all_goals first | omega | (simp; omega)

theorem itoa_any (n : Int) (h0 : -9223372036854775808 ≤ n) (h1 : n ≤ 9223372036854775807) (w : World) (htab : PowTab w) :
    Calls Tryd.prog 21 #[.int .i64 n] w fun e w' => e = .returned (.string (str (Lib.itoa n))) ∧ Below w.heap.size w w' := by
  refine (Tryd.strconv_Itoa n h0 h1 w htab).mono ?_
  rintro e w' ⟨rfl, k, os, rfl⟩
  exact ⟨rfl, Lib.below_grow _ w (Nat.le_refl _) k os⟩
theorem num_any (u : Int) (h0 : 0 ≤ u) (h1 : u ≤ 18446744073709551615) (w : World) (htab : PowTab w) :
    Calls Tryd.prog 22 #[.int .u64 u] w fun e w' => e = .returned (.string (str (dec u))) ∧ Below w.heap.size w w' := by
  obtain ⟨n, rfl⟩ : ∃ n : Nat, u = (n : Int) := ⟨u.toNat, by omega⟩
  go_enter Tryd.func22, Tryd.ntmps22
  go_wp2_with (go_at_call 38; refine (fuint_any n (by omega) _ htab).mono ?_; rintro e w' ⟨rfl, hb⟩)
  go_ret
  exact ⟨rfl, hb⟩
set_option maxHeartbeats 2000000 in
theorem word_any (e : Int) (h0 : -9223372036854775808 ≤ e) (h1 : e ≤ 9223372036854775807) (w : World) (htab : PowTab w) :
    Calls Tryd.prog 11 #[.int .i64 e] w fun x w' => x = .returned (.string (str (wordP e))) ∧ Below w.heap.size w w' := by
  have HT := Lib.hid htab
  clear htab
  by_cases c0 : e = 30
  · subst c0
    go_enter Tryd.func11, Tryd.ntmps11
    go_wp2
    go_ret
    exact ⟨rfl, Below.refl _ _⟩
  by_cases c1 : e = 40
  · subst c1
    go_enter Tryd.func11, Tryd.ntmps11
    go_wp2
    go_ret
    exact ⟨rfl, Below.refl _ _⟩
  by_cases c2 : e = 41
  · subst c2
    go_enter Tryd.func11, Tryd.ntmps11
    go_wp2
    go_ret
    exact ⟨rfl, Below.refl _ _⟩
  by_cases c3 : e = 42
  · subst c3
    go_enter Tryd.func11, Tryd.ntmps11
    go_wp2
    go_ret
    exact ⟨rfl, Below.refl _ _⟩
  by_cases c4 : e = 43
  · subst c4
    go_enter Tryd.func11, Tryd.ntmps11
    go_wp2
    go_ret
    exact ⟨rfl, Below.refl _ _⟩
  by_cases c5 : e = 44
  · subst c5
    go_enter Tryd.func11, Tryd.ntmps11
    go_wp2
    go_ret
    exact ⟨rfl, Below.refl _ _⟩
  by_cases c6 : e = 45
  · subst c6
    go_enter Tryd.func11, Tryd.ntmps11
    go_wp2
    go_ret
    exact ⟨rfl, Below.refl _ _⟩
  have HW : Hid (wordP e = [101, 114, 114, 111, 114, 32] ++ Lib.itoa e) := by
    show _ = _
    rw [wordP, if_neg c0, if_neg c1, if_neg c2, if_neg c3, if_neg c4, if_neg c5, if_neg c6]
  have g0 : (e == 30) = false := by simpa using c0
  have g1 : (e == 40) = false := by simpa using c1
  have g2 : (e == 41) = false := by simpa using c2
  have g3 : (e == 42) = false := by simpa using c3
  have g4 : (e == 43) = false := by simpa using c4
  have g5 : (e == 44) = false := by simpa using c5
  have g6 : (e == 45) = false := by simpa using c6
  obtain ⟨I, hI⟩ : ∃ I, str (Lib.itoa e) = I := ⟨_, rfl⟩
  have hIs : I.size ≤ 21 := by rw [← hI, str_size]; exact itoa_len e h0 h1
  have HI := Lib.hid hI
  clear hI c0 c1 c2 c3 c4 c5 c6
  go_enter Tryd.func11, Tryd.ntmps11
  go_wp2_with fail
  refine (itoa_any e h0 h1 _ HT.out).mono ?_
  rintro x w' ⟨rfl, hb⟩
  rw [HI.out]
  have HB := Lib.hid hb
  clear hb
  go_wp2
  go_ret
  refine ⟨?_, HB.out⟩
  rw [HW.out, ← str_app, HI.out]; rfl
/-- A slice of strings that is read. -/
abbrev RdS (w : World) (B : Nat) (A : Option Addr) (n : Nat) (xs : List ByteArray) : Prop := Rd w B 1 A n (xs.map Value.string)
theorem Rd.strLen {w : World} {B n : Nat} {A : Option Addr} {xs : List ByteArray} (h : RdS w B A n xs) : xs.length = n := by
  have := h.len; rw [List.length_map] at this; omega
set_option maxHeartbeats 1000000 in
/-- Parts, as one line. -/
theorem line_any (xs : List ByteArray) (A : Option Addr) (n c : Nat) (w : World) (hr : RdS w w.heap.size A n xs) (h0 : 0 < n) (hn : n ≤ 100000) (hc : n ≤ c) (hlen : (Lib.join (xs.map (·.data.toList)) [32]).length ≤ 1000000) :
    Calls Tryd.prog 23 #[.slice A n c] w fun e w' => e = .returned (.string (str (lineP (xs.map (·.data.toList))))) ∧ Below w.heap.size w w' := by
  have hl := hr.strLen
  obtain ⟨b, o, rfl, hb, hcell⟩ := hr.at_ h0
  have hcells : ∀ (j : Nat) x, xs[j]? = some x → w.cell? ⟨b, o + j, none⟩ = some (.string x) := fun j x hx => hcell j _ (by rw [List.getElem?_map, hx]; rfl)
  have h32 : (⟨#[32]⟩ : ByteArray).data.toList = [32] := rfl
  have HJ : Hid (Calls Tryd.prog 39 #[.slice (some ⟨b, o, none⟩) n c, .string ⟨#[32]⟩] w fun e w' => e = .returned (.string (str (Lib.join (xs.map (·.data.toList)) [32]))) ∧ Below w.heap.size w w') := by
    have h := Tryd.strings_Join b o c xs ⟨#[32]⟩ w hcells hb (by omega) (by omega) (by rw [h32]; omega)
    rw [h32, hl] at h
    exact h
  obtain ⟨J, hJ⟩ : ∃ J, str (Lib.join (xs.map (·.data.toList)) [32]) = J := ⟨_, rfl⟩
  have hJs : J.size ≤ 1000000 := by rw [← hJ, str_size]; exact hlen
  have HJe := Lib.hid hJ
  clear hJ hcells hcell hr hlen
  go_enter Tryd.func23, Tryd.ntmps23
  go_wp2_with fail
  refine HJ.out.mono ?_
  rintro e w' ⟨rfl, hb2⟩
  rw [HJe.out]
  have HB := Lib.hid hb2
  clear hb2
  go_wp2
  go_ret
  refine ⟨?_, HB.out⟩
  rw [lineP, ← str_app, HJe.out]; rfl
set_option maxHeartbeats 1000000 in
/-- An answer as text. -/
theorem result_any (c v : Int) (h0 : -9223372036854775808 ≤ c) (h1 : c ≤ 9223372036854775807) (hv0 : 0 ≤ v) (hv1 : v ≤ 18446744073709551615) (w : World) (htab : PowTab w) :
    Calls Tryd.prog 9 #[.agg #[.int .i64 c, .int .u64 v]] w fun e w' => e = .returned (.string (str (resultP c v))) ∧ Below w.heap.size w w' := by
  have HT : Hid (PowTab (w.alloc (.cells #[.int .i64 c, .int .u64 v] 29))) := htab.below ((Below.refl _ _).alloc (Nat.le_refl _) _)
  have HBx : Hid (Below w.heap.size w (w.alloc (.cells #[.int .i64 c, .int .u64 v] 29))) := (Below.refl _ _).alloc (Nat.le_refl _) _
  clear htab
  by_cases c0 : c = 0
  · subst c0
    go_enter Tryd.func9, Tryd.ntmps9
    go_wp2_with fail
    refine (num_any v hv0 hv1 _ HT.out).mono ?_
    rintro e w' ⟨rfl, hb⟩
    have HB := Lib.hid (HBx.out.trans (hb.mono (by simp)))
    clear hb
    go_wp2
    go_ret
    exact ⟨rfl, HB.out⟩
  have g0 : (c == 0) = false := by simpa using c0
  by_cases c1 : c = 40
  · subst c1
    obtain ⟨D, hD⟩ : ∃ D, str (dec v) = D := ⟨_, rfl⟩
    have hDs : D.size ≤ 20 := by rw [← hD, str_size]; exact dec_len v hv1
    have HD := Lib.hid hD
    have HR : Hid (resultP 40 v = [97, 98, 111, 114, 116, 32] ++ dec v) := rfl
    clear hD c0
    go_enter Tryd.func9, Tryd.ntmps9
    go_wp2_with fail
    refine (num_any v hv0 hv1 _ HT.out).mono ?_
    rintro e w' ⟨rfl, hb⟩
    rw [HD.out]
    have HB := Lib.hid (HBx.out.trans (hb.mono (by simp)))
    clear hb
    go_wp2
    go_ret
    refine ⟨?_, HB.out⟩
    rw [HR.out, ← str_app, HD.out]; rfl
  have g1 : (c == 40) = false := by simpa using c1
  have HR : Hid (resultP c v = wordP c) := by show _ = _; rw [resultP, if_neg c0, if_neg c1]
  clear c0 c1
  go_enter Tryd.func9, Tryd.ntmps9
  go_wp2_with fail
  refine (word_any c h0 h1 _ HT.out).mono ?_
  rintro e w' ⟨rfl, hb⟩
  have HB := Lib.hid (HBx.out.trans (hb.mono (by simp)))
  clear hb
  go_wp2
  go_ret
  exact ⟨by rw [HR.out]; rfl, HB.out⟩
end Go.Proofs.YthklmcpjlpaklaaDoor
