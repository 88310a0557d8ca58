/-
  Chapter 2: the reference's runs, numbers and signs: contracts of tumblerref02.digit, begins, Run, Number, Sign.
-/
import Derived.Test.YthfienjmajllpaaDoorRefP
import Derived.Test.YthfienjmajllpaaDoorGlyB
namespace Go.Proofs.YthfienjmajllpaaDoor
open Go.RowKit
set_option linter.unusedVariables false

theorem rdig_any (c : Nat) (w : World) : Calls Tryd.prog 46 #[.int .u8 c] w fun e w' => e = .returned (.bool (isDigit c)) ∧ w = w' := by
  go_enter Tryd.func46, Tryd.ntmps46
  go_wp2
  all_goals go_ret
  all_goals refine ⟨ret_bool ?_, rfl⟩
  all_goals (rw [Bool.eq_iff_iff]; simp_all [isDigit]; try omega)
theorem rdig_is {c : Nat} {b : Bool} (w : World) (h : isDigit c = b) : Calls Tryd.prog 46 #[.int .u8 c] w fun e w' => e = .returned (.bool b) ∧ w = w' := by
  subst h; exact rdig_any c w
set_option maxHeartbeats 1000000 in
theorem begins_any (c : Nat) (w : World) : Calls Tryd.prog 45 #[.int .u8 c] w fun e w' => e = .returned (.bool (isLetter c || isDigit c)) ∧ w = w' := by
  go_enter Tryd.func45, Tryd.ntmps45
  cases hd : isDigit c
  · go_wp2_with (go_at_call 46; refine (rdig_is _ hd).mono ?_; rintro e w1 ⟨rfl, rfl⟩)
    all_goals go_ret
    all_goals refine ⟨ret_bool ?_, rfl⟩
    all_goals (rw [Bool.eq_iff_iff]; simp_all [isLetter]; try omega)
  · go_wp2_with (go_at_call 46; refine (rdig_is _ hd).mono ?_; rintro e w1 ⟨rfl, rfl⟩)
    all_goals go_ret
    all_goals refine ⟨ret_bool ?_, rfl⟩
    all_goals simp
theorem begins_is {c : Nat} {b : Bool} (w : World) (h : (isLetter c || isDigit c) = b) : Calls Tryd.prog 45 #[.int .u8 c] w fun e w' => e = .returned (.bool b) ∧ w = w' := by
  subst h; exact begins_any c w

set_option maxHeartbeats 4000000 in
theorem run_any (s : ByteArray) (hs : s.size ≤ maxLen) (p : Nat) (w : World) : Calls Tryd.prog 35 #[.string s, .int .i64 p] w fun e w' => e = .returned (.int .i64 (runLen (s.data.toList.drop p) : Nat)) ∧ w = w' := by
  unfold maxLen at hs
  by_cases hp : p < s.size
  · have hq : decide (s.size ≤ p) = false := by simp; omega
    have hd := drop_cons s p hp
    rw [hd]
    cases hb : runByte s[p]
    · have HR : Hid (runLen (s[p] :: s.data.toList.drop (p + 1)) = 0) := by show _ = _; rw [runLen, hb]; rfl
      have hb' : (isLetter (s[p]'hp).toNat || isDigit (s[p]'hp).toNat) = false := hb
      clear hd hb
      go_enter Tryd.func35, Tryd.ntmps35
      go_wp2_with (go_at_call 45; refine (begins_is _ hb').mono ?_; rintro e w1 ⟨rfl, rfl⟩)
      go_ret
      exact ⟨by rw [HR.out]; rfl, rfl⟩
    · have HR : Hid (runLen (s[p] :: s.data.toList.drop (p + 1)) = 1 + ((s.data.toList.drop (p + 1)).takeWhile moreByte).length) := by show _ = _; rw [runLen, hb]; rfl
      have hb' : (isLetter (s[p]'hp).toNat || isDigit (s[p]'hp).toNat) = true := hb
      obtain ⟨R, hR⟩ : ∃ R, runLen (s[p] :: s.data.toList.drop (p + 1)) = R := ⟨_, rfl⟩
      rw [hR] at HR ⊢
      clear hd hb hR
      go_enter Tryd.func35, Tryd.ntmps35
      go_wp2_with (go_at_call 45; refine (begins_is _ hb').mono ?_; rintro e w1 ⟨rfl, rfl⟩)
      clear hb'
      go_loopw [5] (fun t wr => ∃ k : Nat, (t = .int .i64 k ∧ 1 ≤ k ∧ p + k ≤ s.size) ∧ Hid (R = k + ((s.data.toList.drop (p + k)).takeWhile moreByte).length) ∧ wr = w) (fun t _ => s.size - p - (intOf t).toNat)
      case atStart => exact ⟨1, ⟨rfl, by omega, by omega⟩, HR, rfl⟩
      case round =>
        obtain ⟨k, ⟨rfl, hk1, hk⟩, HK, rfl⟩ := hrel
        obtain ⟨j, hj⟩ : ∃ j, p + k = j := ⟨_, rfl⟩
        have hji : (p : Int) + (k : Int) = (j : Int) := by omega
        rw [hj] at HK hk
        by_cases hlt : j < s.size
        · have hd := drop_cons s j hlt
          have HC := HK.out
          rw [hd] at HC
          have hcase : ((isLetter (s[j]'hlt).toNat || isDigit (s[j]'hlt).toNat) = true ∧ moreByte s[j] = true) ∨ ((isLetter (s[j]'hlt).toNat || isDigit (s[j]'hlt).toNat) = false ∧ (((s[j]'hlt).toNat : Int) == 46) = true ∧ moreByte s[j] = true) ∨
              ((isLetter (s[j]'hlt).toNat || isDigit (s[j]'hlt).toNat) = false ∧ (((s[j]'hlt).toNat : Int) == 46) = false ∧ moreByte s[j] = false) := by
            cases hb : runByte s[j]
            · by_cases h46 : s[j] = 46
              · refine .inr (.inl ⟨hb, by rw [h46]; rfl, ?_⟩)
                rw [moreByte, h46]; simp
              · refine .inr (.inr ⟨hb, ?_, ?_⟩)
                · rw [beq_eq_false_iff_ne]
                  intro e
                  exact h46 (UInt8.toNat_inj.1 (show (s[j]'hlt).toNat = (46 : UInt8).toNat by have : (46 : UInt8).toNat = 46 := rfl; omega))
                · rw [moreByte, hb]; simp [h46]
            · exact .inl ⟨hb, by rw [moreByte, hb]; rfl⟩
          rcases hcase with ⟨hb, hm⟩ | ⟨hb, h46, hm⟩ | ⟨hb, h46, hm⟩
          · rw [List.takeWhile_cons_of_pos hm, List.length_cons] at HC
            have HC2 : Hid (R = k + 1 + ((s.data.toList.drop (j + 1)).takeWhile moreByte).length) := by show _ = _; omega
            clear hd HC hm
            go_wp2_with (go_at_call 45; refine (begins_is _ hb).mono ?_; rintro e w1 ⟨rfl, rfl⟩)
            go_roundw
            case rel => exact ⟨k + 1, ⟨by go_num, by omega, by omega⟩, by rw [show p + (k + 1) = j + 1 by omega]; exact HC2, by first | rfl | trivial⟩
            case measure => simp [intOf]; omega
          · rw [List.takeWhile_cons_of_pos hm, List.length_cons] at HC
            have HC2 : Hid (R = k + 1 + ((s.data.toList.drop (j + 1)).takeWhile moreByte).length) := by show _ = _; omega
            clear hd HC hm
            go_wp2_with (go_at_call 45; refine (begins_is _ hb).mono ?_; rintro e w1 ⟨rfl, rfl⟩)
            go_roundw
            case rel => exact ⟨k + 1, ⟨by go_num, by omega, by omega⟩, by rw [show p + (k + 1) = j + 1 by omega]; exact HC2, by first | rfl | trivial⟩
            case measure => simp [intOf]; omega
          · rw [List.takeWhile_cons_of_neg (by rw [hm]; simp)] at HC
            have HC2 : Hid (R = k) := by show _ = _; simpa using HC
            clear hd HC hm
            go_wp2_with (go_at_call 45; refine (begins_is _ hb).mono ?_; rintro e w1 ⟨rfl, rfl⟩)
            go_ret
            exact ⟨by rw [HC2.out]; rfl, rfl⟩
        · have HC2 : Hid (R = k) := by
            show _ = _
            have := HK.out
            rw [List.drop_eq_nil_of_le (by show s.size ≤ j; omega)] at this
            simpa using this
          go_wp2
          go_ret
          exact ⟨by rw [HC2.out]; rfl, rfl⟩
  · have HR : Hid (runLen (s.data.toList.drop p) = 0) := by
      show _ = _
      rw [List.drop_eq_nil_of_le (by show s.size ≤ p; omega)]; rfl
    go_enter Tryd.func35, Tryd.ntmps35
    go_wp2
    go_ret
    exact ⟨by rw [HR.out]; rfl, rfl⟩
set_option maxHeartbeats 4000000 in
theorem rnumber_any (s : ByteArray) (hs : s.size ≤ maxLen) (w : World) : Calls Tryd.prog 47 #[.string s] w fun e w' => e = .returned (.tuple #[.int .u64 ((numP s.data.toList).getD 0 : Nat), .bool (numP s.data.toList).isSome]) ∧ w = w' := by
  unfold maxLen at hs
  obtain ⟨l, hl⟩ : ∃ l, s.data.toList = l := ⟨_, rfl⟩
  have hll : l.length = s.size := by rw [← hl]; simp
  have h48 : ∀ h : 0 < s.size, l[0]? = some (s[0]'h) := fun h => by rw [← hl, Array.getElem?_toList]; exact Array.getElem?_eq_getElem (xs := s.data) h
  obtain ⟨C, hC⟩ : ∃ C : Prop, (1 < l.length ∧ l[0]? = some 48) = C := ⟨_, rfl⟩
  have hN0 : C ∧ numP l = none ∨ ¬ C ∧ numP l = numGo l 0 := by
    rw [← hC]
    by_cases h : 1 < l.length ∧ l[0]? = some 48
    · exact .inl ⟨h, by rw [numP, if_pos h]⟩
    · exact .inr ⟨h, by rw [numP, if_neg h]⟩
  have HL := Lib.hid hl
  have HZ : Hid (∀ (h0 : 0 < s.size), 1 < s.size → ((s[0]'h0).toNat = 48 ↔ C)) := fun h0 h => by
    rw [← hC, h48 (by omega)]
    constructor
    · intro e
      exact ⟨by omega, by rw [UInt8.toNat_inj.1 (show (s[0]'h0).toNat = (48 : UInt8).toNat by rw [e]; rfl)]⟩
    · rintro ⟨_, e⟩
      injection e with e
      rw [e]; rfl
  have HC : Hid (C → 1 < s.size) := fun h => by
    rw [← hC] at h
    have := h.1
    omega
  clear hl h48 hll hC
  go_enter Tryd.func47, Tryd.ntmps47
  go_wp2
  go_loopw [4, 5, 6] (fun t i _d wr => ∃ k n : Nat, (k ≤ s.size ∧ i = .int .i64 k ∧ t = .int .u64 n ∧ n ≤ 18446744073709551615) ∧ Hid (C ∧ numP l = none ∨ ¬ C ∧ numP l = numGo (l.drop k) n) ∧ Hid (2 ≤ k → ¬ C) ∧ wr = w) (fun _ i _ _ => s.size - (intOf i).toNat)
  case atStart => exact ⟨0, 0, ⟨by omega, rfl, rfl, by omega⟩, hN0, fun h => by omega, rfl⟩
  case round =>
    obtain ⟨k, n, ⟨hk, rfl, rfl, hn⟩, HN, H2, rfl⟩ := hrel
    by_cases hlt : k < s.size
    · have hdrop : l.drop k = s[k] :: l.drop (k + 1) := by rw [← HL.out]; exact drop_cons s k hlt
      have hN := HN.out
      rw [hdrop] at hN
      obtain ⟨c, hc⟩ : ∃ c, (s[k]'hlt).toNat = c := ⟨_, rfl⟩
      rw [numGo, hc] at hN
      cases hd : isDigit c
      · have HNone : Hid (numP l = none) := by
          show numP l = none
          rw [hd] at hN
          rcases hN with h | h
          · exact h.2
          · simpa using h.2
        have HDg := Lib.hid hd
        clear hN hdrop hd
        go_wp2_with (go_at_call 46; refine (rdig_is _ HDg.out).mono ?_; rintro e w1 ⟨rfl, rfl⟩)
        go_ret2
        exact ⟨(NumPost.none (w := wr) (w' := wr) (by rw [HL.out]; exact HNone.out) (Below.refl _ _)).1, rfl⟩
      · have hd' : 48 ≤ c ∧ c ≤ 57 := by simpa [isDigit] using hd
        have HDg := Lib.hid hd
        obtain ⟨d, hcd⟩ : ∃ d : Nat, c - 48 = d := ⟨_, rfl⟩
        have hd9 : d ≤ 9 := by omega
        have hcd' : (c : Int) - 48 = (d : Int) := by omega
        obtain ⟨hc1, hc2⟩ := hd'
        rw [hd, if_pos rfl, hcd] at hN
        have hcase : (k = 1 ∧ C) ∨ (∃ h0 : 0 < s.size, k = 1 ∧ ¬ C ∧ (((s[0]'h0).toNat : Int) == 48) = false) ∨ (((k : Int) == 1) = false) := by
          by_cases h1 : k = 1
          · have hz := HZ.out (by omega) (by omega)
            by_cases hC : C
            · exact .inl ⟨h1, hC⟩
            · refine .inr (.inl ⟨by omega, h1, hC, ?_⟩)
              rw [beq_eq_false_iff_ne]
              intro e
              exact hC (hz.1 (by omega))
          · refine .inr (.inr ?_)
            rw [beq_eq_false_iff_ne]; omega
        clear hdrop hd
        rcases hcase with ⟨rfl, hC⟩ | ⟨h0, rfl, hC, hz⟩ | h1
        · have hz : (s[0]'(by omega)).toNat = 48 := (HZ.out (by omega) (by omega)).2 hC
          have HNone : Hid (numP l = none) := by
            rcases hN with h | h
            · exact h.2
            · exact absurd hC h.1
          clear hN
          go_wp2_with (go_at_call 46; refine (rdig_is _ HDg.out).mono ?_; rintro e w1 ⟨rfl, rfl⟩)
          go_ret2
          exact ⟨(NumPost.none (w := wr) (w' := wr) (by rw [HL.out]; exact HNone.out) (Below.refl _ _)).1, rfl⟩
        case' inr.inl => have HnC : Hid (2 ≤ 1 + 1 → ¬ C) := fun _ => hC
        case' inr.inr =>
          have HnC : Hid (2 ≤ k + 1 → ¬ C) := fun h => by
            by_cases hk0 : k = 0
            · omega
            · have : k ≠ 1 := by
                intro e
                rw [e] at h1; simp at h1
              exact H2.out (by omega)
        all_goals
          by_cases hof : (18446744073709551615 - d) / 10 < n
          · have HNone : Hid (numP l = none) := by
              rcases hN with h | h
              · exact h.2
              · rw [if_pos hof] at h
                exact h.2
            have hof' : 1844674407370955161 < n ∨ (n = 1844674407370955161 ∧ 5 < d) := by omega
            clear hN hof
            rcases hof' with hof | ⟨rfl, hof⟩
            · go_wp2_with (go_at_call 46; refine (rdig_is _ HDg.out).mono ?_; rintro e w1 ⟨rfl, rfl⟩)
              go_ret2
              exact ⟨(NumPost.none (w := wr) (w' := wr) (by rw [HL.out]; exact HNone.out) (Below.refl _ _)).1, rfl⟩
            · go_wp2_with (go_at_call 46; refine (rdig_is _ HDg.out).mono ?_; rintro e w1 ⟨rfl, rfl⟩)
              go_ret2
              exact ⟨(NumPost.none (w := wr) (w' := wr) (by rw [HL.out]; exact HNone.out) (Below.refl _ _)).1, rfl⟩
          · rw [if_neg hof] at hN
            have HN2 := Lib.hid hN
            have hof' : n < 1844674407370955161 ∨ (n = 1844674407370955161 ∧ d ≤ 5) := by omega
            clear hN hof
            rcases hof' with hof | ⟨rfl, hof⟩
            · go_wp2_with (go_at_call 46; refine (rdig_is _ HDg.out).mono ?_; rintro e w1 ⟨rfl, rfl⟩)
              go_roundw
              case rel => exact ⟨_, 10 * n + d, ⟨hlt, by go_num, by go_num, by omega⟩, HN2, HnC, by first | rfl | trivial⟩
              case measure => simp [intOf]; omega
            · go_wp2_with (go_at_call 46; refine (rdig_is _ HDg.out).mono ?_; rintro e w1 ⟨rfl, rfl⟩)
              go_roundw
              case rel => exact ⟨_, 10 * 1844674407370955161 + d, ⟨hlt, by go_num, by go_num, by omega⟩, HN2, HnC, by first | rfl | trivial⟩
              case measure => simp [intOf]; omega
    · have HNx : Hid (numP l = some n) := by
        show _ = _
        rcases HN.out with ⟨h1, _⟩ | ⟨_, h⟩
        · exact absurd h1 (H2.out (by have := HC.out h1; omega))
        · rw [h, List.drop_eq_nil_of_le (by rw [← HL.out]; show s.size ≤ k; omega)]; rfl
      go_wp2
      go_ret2
      exact ⟨(NumPost.some (w := wr) (w' := wr) (by rw [HL.out]; exact HNx.out) (Below.refl _ _)).1, rfl⟩
theorem bytes_eq {s : ByteArray} {t : List UInt8} (h : s.data.toList = t) : s = ⟨t.toArray⟩ := ByteArray.ext (Array.toList_inj.1 (by rw [h]))
theorem bytes_ne {s : ByteArray} {t : List UInt8} (h : s.data.toList ≠ t) : (s.toList == t) = false := by
  rw [ByteArray.toList_eq, beq_eq_false_iff_ne]
  exact h
set_option maxHeartbeats 4000000 in
theorem rsign_any (s : ByteArray) (w : World) : Calls Tryd.prog 38 #[.string s] w fun e w' => e = .returned (.bool (signB s.data.toList)) ∧ w = w' := by
  by_cases h0 : s.data.toList = [226, 134, 144]
  · obtain rfl := bytes_eq h0
    clear h0
    go_enter Tryd.func38, Tryd.ntmps38
    go_wp2
    go_ret
    exact ⟨ret_bool (by decide), rfl⟩
  by_cases h1 : s.data.toList = [43]
  · obtain rfl := bytes_eq h1
    clear h0 h1
    go_enter Tryd.func38, Tryd.ntmps38
    go_wp2
    go_ret
    exact ⟨ret_bool (by decide), rfl⟩
  by_cases h2 : s.data.toList = [45]
  · obtain rfl := bytes_eq h2
    clear h0 h1 h2
    go_enter Tryd.func38, Tryd.ntmps38
    go_wp2
    go_ret
    exact ⟨ret_bool (by decide), rfl⟩
  by_cases h3 : s.data.toList = [195, 151]
  · obtain rfl := bytes_eq h3
    clear h0 h1 h2 h3
    go_enter Tryd.func38, Tryd.ntmps38
    go_wp2
    go_ret
    exact ⟨ret_bool (by decide), rfl⟩
  by_cases h4 : s.data.toList = [37]
  · obtain rfl := bytes_eq h4
    clear h0 h1 h2 h3 h4
    go_enter Tryd.func38, Tryd.ntmps38
    go_wp2
    go_ret
    exact ⟨ret_bool (by decide), rfl⟩
  by_cases h5 : s.data.toList = [61]
  · obtain rfl := bytes_eq h5
    clear h0 h1 h2 h3 h4 h5
    go_enter Tryd.func38, Tryd.ntmps38
    go_wp2
    go_ret
    exact ⟨ret_bool (by decide), rfl⟩
  by_cases h6 : s.data.toList = [60]
  · obtain rfl := bytes_eq h6
    clear h0 h1 h2 h3 h4 h5 h6
    go_enter Tryd.func38, Tryd.ntmps38
    go_wp2
    go_ret
    exact ⟨ret_bool (by decide), rfl⟩
  by_cases h7 : s.data.toList = [91]
  · obtain rfl := bytes_eq h7
    clear h0 h1 h2 h3 h4 h5 h6 h7
    go_enter Tryd.func38, Tryd.ntmps38
    go_wp2
    go_ret
    exact ⟨ret_bool (by decide), rfl⟩
  by_cases h8 : s.data.toList = [93]
  · obtain rfl := bytes_eq h8
    clear h0 h1 h2 h3 h4 h5 h6 h7 h8
    go_enter Tryd.func38, Tryd.ntmps38
    go_wp2
    go_ret
    exact ⟨ret_bool (by decide), rfl⟩
  by_cases h9 : s.data.toList = [58]
  · obtain rfl := bytes_eq h9
    clear h0 h1 h2 h3 h4 h5 h6 h7 h8 h9
    go_enter Tryd.func38, Tryd.ntmps38
    go_wp2
    go_ret
    exact ⟨ret_bool (by decide), rfl⟩
  by_cases h10 : s.data.toList = [36]
  · obtain rfl := bytes_eq h10
    clear h0 h1 h2 h3 h4 h5 h6 h7 h8 h9 h10
    go_enter Tryd.func38, Tryd.ntmps38
    go_wp2
    go_ret
    exact ⟨ret_bool (by decide), rfl⟩
  by_cases h11 : s.data.toList = [44]
  · obtain rfl := bytes_eq h11
    clear h0 h1 h2 h3 h4 h5 h6 h7 h8 h9 h10 h11
    go_enter Tryd.func38, Tryd.ntmps38
    go_wp2
    go_ret
    exact ⟨ret_bool (by decide), rfl⟩
  have HS : Hid (signB s.data.toList = false) := by
    show _ = _
    simp only [signB, signTexts, List.contains_eq_mem, List.mem_cons, List.not_mem_nil, or_false, decide_eq_false_iff_not]
    simp only [h0, h1, h2, h3, h4, h5, h6, h7, h8, h9, h10, h11, or_self, not_false_eq_true]
  have g0 := bytes_ne h0
  have g1 := bytes_ne h1
  have g2 := bytes_ne h2
  have g3 := bytes_ne h3
  have g4 := bytes_ne h4
  have g5 := bytes_ne h5
  have g6 := bytes_ne h6
  have g7 := bytes_ne h7
  have g8 := bytes_ne h8
  have g9 := bytes_ne h9
  have g10 := bytes_ne h10
  have g11 := bytes_ne h11
  clear h0 h1 h2 h3 h4 h5 h6 h7 h8 h9 h10 h11
  go_enter Tryd.func38, Tryd.ntmps38
  go_wp2
  go_ret
  exact ⟨ret_bool HS.out.symm, rfl⟩
end Go.Proofs.YthfienjmajllpaaDoor
