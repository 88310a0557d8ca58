/-
  Chapter 3: the walk of InstrNames.
-/
import Derived.Test.YtkkbgpfimapnoaaLaw3A
namespace Go.Proofs.Ytkkbgpfimapnoaa
open Go.RowKit
set_option linter.unusedVariables false

theorem ofFind_name : ∀ k : Fin 22, ofFind (nameOf (k.val : Int)) = some k.val := by decide +kernel
theorem ofFind_empty : ofFind ⟨#[]⟩ = none := by decide +kernel
theorem ofFind_no {s : ByteArray} (h : ofFind s = none) : ∀ j : Nat, j < 22 → ((nameOf j).toList == s.toList) = false := by
  intro j hj
  unfold ofFind at h
  rw [List.find?_eq_none] at h
  have := h j (by simpa using hj)
  simpa using this
theorem ofFind_yes {s : ByteArray} {k : Nat} (h : ofFind s = some k) : k < 22 ∧ ((nameOf k).toList == s.toList) = true := by
  unfold ofFind at h
  rw [List.find?_range_eq_some] at h
  exact ⟨by simpa using h.2.1, h.1⟩

set_option maxHeartbeats 4000000 in
theorem names_walk (n : Int) (s : ByteArray) (w : World) :
    Calls Try.prog 5 #[.int .i64 n, .string s] w fun e w' => e = .returned (.bool true) ∧ Below w.heap.size w w' := by
  go_enter Try.func5, Try.ntmps5
  go_wp2_with fail
  refine (alive_any _).mono ?_
  rintro e w1 ⟨rfl, hb1⟩
  have HB1 := Lib.hid hb1
  clear hb1
  go_wp2_with fail
  refine (regs_any _ _).mono ?_
  rintro e w2 ⟨rfl, rfl⟩
  go_wp2_with fail
  refine (uses_any _ _).mono ?_
  rintro e w3 ⟨rfl, hb3⟩
  have HB3 := Lib.hid (HB1.out.trans (hb3.mono HB1.out.size))
  clear hb3
  go_wp2_with fail
  refine (name_any _ _).mono ?_
  rintro e w4 ⟨rfl, rfl⟩
  go_wp2_with fail
  refine (rname_any _ _).mono ?_
  rintro e w5 ⟨rfl, hb5⟩
  have HB5 := Lib.hid (HB3.out.trans (hb5.mono HB3.out.size))
  clear hb5
  by_cases hn : 0 ≤ n ∧ n < 22
  · obtain ⟨h0, h1⟩ := hn
    obtain ⟨q, rfl⟩ := Int.eq_ofNat_of_zero_le h0
    have hq : q < 22 := by omega
    have HF := Lib.hid (ofFind_name ⟨q, hq⟩)
    go_wp2_with fail
    refine (imm_any _ _).mono ?_
    rintro e w6 ⟨rfl, rfl⟩
    go_wp2_with fail
    refine (name_any _ _).mono ?_
    rintro e w6 ⟨rfl, rfl⟩
    go_wp2_with fail
    refine (of_any _ _).mono ?_
    rintro e w7 ⟨rfl, rfl⟩
    rw [HF.out]
    go_wp2_with fail
    refine (of_any _ _).mono ?_
    rintro e w8 ⟨rfl, rfl⟩
    cases hs : ofFind s with
    | some k =>
      obtain ⟨hk, heq⟩ := ofFind_yes hs
      have hne := nameOf_ne (k : Int) (by omega)
      have hse : s.toList.isEmpty = false := by rw [← beq_iff_eq.1 heq]; exact hne
      have hse2 : ¬ s.toList = [] := by intro h; rw [h] at hse; simp at hse
      clear hs
      go_wp2_with fail
      refine (rname_any _ _).mono ?_
      rintro e w9 ⟨rfl, hb9⟩
      have HB9 := Lib.hid (HB5.out.trans (hb9.mono HB5.out.size))
      clear hb9
      go_wp2
      go_ret
      exact ⟨rfl, HB9.out⟩
    | none =>
      have HN := Lib.hid (ofFind_no hs)
      clear hs
      go_wp2
      go_loopw [84] (fun i wr => ∃ k : Nat, k ≤ 22 ∧ i = .int .i64 k ∧ Below w.heap.size w wr) (fun i _ => 22 - (intOf i).toNat)
      case atStart => exact ⟨0, by omega, rfl, HB5.out⟩
      case round =>
        obtain ⟨k, hk, rfl, hb⟩ := hrel
        have HB := Lib.hid hb
        clear hb
        by_cases hlt : k < 22
        · have heq := HN.out k hlt
          go_wp2_with fail
          refine (rname_any _ _).mono ?_
          rintro e w9 ⟨rfl, hb9⟩
          have HB9 := Lib.hid (HB.out.trans (hb9.mono HB.out.size))
          clear hb9
          go_wp2
          go_roundw
          case rel => exact ⟨k + 1, by omega, by go_num, HB9.out⟩
          case measure => simp [intOf]; omega
        · obtain rfl : k = 22 := by omega
          go_wp2
          go_ret
          exact ⟨rfl, HB.out⟩
  · have h1 : n < 0 ∨ (0 ≤ n ∧ 22 ≤ n) := by omega
    rw [nameOf_out (by omega)] at *
    clear hn
    rcases h1 with h1 | ⟨h0, h1⟩
    · go_wp2_with fail
      refine (imm_any _ _).mono ?_
      rintro e w6 ⟨rfl, rfl⟩
      go_wp2_with fail
      refine (name_any _ _).mono ?_
      rintro e w6 ⟨rfl, rfl⟩
      rw [nameOf_out (by omega)]
      go_wp2_with fail
      refine (of_any _ _).mono ?_
      rintro e w7 ⟨rfl, rfl⟩
      rw [ofFind_empty]
      go_wp2_with fail
      refine (of_any _ _).mono ?_
      rintro e w8 ⟨rfl, rfl⟩
      cases hs : ofFind s with
      | some k =>
        obtain ⟨hk, heq⟩ := ofFind_yes hs
        have hne := nameOf_ne (k : Int) (by omega)
        have hse : s.toList.isEmpty = false := by rw [← beq_iff_eq.1 heq]; exact hne
        have hse2 : ¬ s.toList = [] := by intro h; rw [h] at hse; simp at hse
        clear hs
        go_wp2_with fail
        refine (rname_any _ _).mono ?_
        rintro e w9 ⟨rfl, hb9⟩
        have HB9 := Lib.hid (HB5.out.trans (hb9.mono HB5.out.size))
        clear hb9
        go_wp2
        go_ret
        exact ⟨rfl, HB9.out⟩
      | none =>
        have HN := Lib.hid (ofFind_no hs)
        clear hs
        go_wp2
        go_loopw [84] (fun i wr => ∃ k : Nat, k ≤ 22 ∧ i = .int .i64 k ∧ Below w.heap.size w wr) (fun i _ => 22 - (intOf i).toNat)
        case atStart => exact ⟨0, by omega, rfl, HB5.out⟩
        case round =>
          obtain ⟨k, hk, rfl, hb⟩ := hrel
          have HB := Lib.hid hb
          clear hb
          by_cases hlt : k < 22
          · have heq := HN.out k hlt
            go_wp2_with fail
            refine (rname_any _ _).mono ?_
            rintro e w9 ⟨rfl, hb9⟩
            have HB9 := Lib.hid (HB.out.trans (hb9.mono HB.out.size))
            clear hb9
            go_wp2
            go_roundw
            case rel => exact ⟨k + 1, by omega, by go_num, HB9.out⟩
            case measure => simp [intOf]; omega
          · obtain rfl : k = 22 := by omega
            go_wp2
            go_ret
            exact ⟨rfl, HB.out⟩
    · go_wp2_with fail
      refine (imm_any _ _).mono ?_
      rintro e w6 ⟨rfl, rfl⟩
      go_wp2_with fail
      refine (name_any _ _).mono ?_
      rintro e w6 ⟨rfl, rfl⟩
      rw [nameOf_out (by omega)]
      go_wp2_with fail
      refine (of_any _ _).mono ?_
      rintro e w7 ⟨rfl, rfl⟩
      rw [ofFind_empty]
      go_wp2_with fail
      refine (of_any _ _).mono ?_
      rintro e w8 ⟨rfl, rfl⟩
      cases hs : ofFind s with
      | some k =>
        obtain ⟨hk, heq⟩ := ofFind_yes hs
        have hne := nameOf_ne (k : Int) (by omega)
        have hse : s.toList.isEmpty = false := by rw [← beq_iff_eq.1 heq]; exact hne
        have hse2 : ¬ s.toList = [] := by intro h; rw [h] at hse; simp at hse
        clear hs
        go_wp2_with fail
        refine (rname_any _ _).mono ?_
        rintro e w9 ⟨rfl, hb9⟩
        have HB9 := Lib.hid (HB5.out.trans (hb9.mono HB5.out.size))
        clear hb9
        go_wp2
        go_ret
        exact ⟨rfl, HB9.out⟩
      | none =>
        have HN := Lib.hid (ofFind_no hs)
        clear hs
        go_wp2
        go_loopw [84] (fun i wr => ∃ k : Nat, k ≤ 22 ∧ i = .int .i64 k ∧ Below w.heap.size w wr) (fun i _ => 22 - (intOf i).toNat)
        case atStart => exact ⟨0, by omega, rfl, HB5.out⟩
        case round =>
          obtain ⟨k, hk, rfl, hb⟩ := hrel
          have HB := Lib.hid hb
          clear hb
          by_cases hlt : k < 22
          · have heq := HN.out k hlt
            go_wp2_with fail
            refine (rname_any _ _).mono ?_
            rintro e w9 ⟨rfl, hb9⟩
            have HB9 := Lib.hid (HB.out.trans (hb9.mono HB.out.size))
            clear hb9
            go_wp2
            go_roundw
            case rel => exact ⟨k + 1, by omega, by go_num, HB9.out⟩
            case measure => simp [intOf]; omega
          · obtain rfl : k = 22 := by omega
            go_wp2
            go_ret
            exact ⟨rfl, HB.out⟩
theorem names_walk_ (n : Int) (s : ByteArray) (w : World) (_ : -9223372036854775808 ≤ n ∧ n ≤ 9223372036854775807) (_ : s.size ≤ maxLen) :
    Calls Try.prog 5 #[.int .i64 n, .string s] w fun e w' => e = .returned (.bool true) ∧ Below w.heap.size w w' := names_walk n s w
end Go.Proofs.Ytkkbgpfimapnoaa
