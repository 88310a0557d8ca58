/-
  Texts of one proof, joined (wip/gen/pack.py): RefA, RefB, GlyJ, RefC, RefD, RdsC.
-/
import Derived.Test.YthdlihiehfkceaaDoorPtGAC
import Derived.Test.YthdlihiehfkceaaDoorPtAA
import Derived.Test.YthdlihiehfkceaaDoorShelf
import Derived.Test.YthdlihiehfkceaaDoorPtAB
import Derived.Test.YthdlihiehfkceaaDoorPtAG
import Derived.Deep.QuietTactic
import Derived.BigQuiet
import Derived.Test.YthdlihiehfkceaaDoorPtAD
import Derived.Test.YthdlihiehfkceaaDoorPtGAB
import Derived.Test.YthdlihiehfkceaaDoorPtAI
namespace Go.Proofs.YthdlihiehfkceaaDoor
open Go.RowKit
set_option linter.unusedVariables false

theorem rdig_any (c : Nat) (w : World) : Calls Tryd.prog 88 #[.int .u8 c] w fun e w' => e = .returned (.bool (isDigit c)) ∧ w = w' := by
  go_enter Tryd.func88, Tryd.ntmps88
  go_wp2
  all_goals go_ret
  all_goals refine ⟨ret_bool ?_, rfl⟩
  all_goals (rw [Bool.eq_iff_iff]; simp_all [isDigit]; try omega)
theorem rdig_is {c : Nat} {b : Bool} (w : World) (h : isDigit c = b) : Calls Tryd.prog 88 #[.int .u8 c] w fun e w' => e = .returned (.bool b) ∧ w = w' := by
  subst h; exact rdig_any c w
set_option maxHeartbeats 1000000 in
theorem begins_any (c : Nat) (w : World) : Calls Tryd.prog 87 #[.int .u8 c] w fun e w' => e = .returned (.bool (isLetter c || isDigit c)) ∧ w = w' := by
  go_enter Tryd.func87, Tryd.ntmps87
  cases hd : isDigit c
  · go_wp2_with (go_at_call 88; refine (rdig_is _ hd).mono ?_; rintro e w1 ⟨rfl, rfl⟩)
    all_goals go_ret
    all_goals refine ⟨ret_bool ?_, rfl⟩
    all_goals (rw [Bool.eq_iff_iff]; simp_all [isLetter]; try omega)
  · go_wp2_with (go_at_call 88; refine (rdig_is _ hd).mono ?_; rintro e w1 ⟨rfl, rfl⟩)
    all_goals go_ret
    all_goals refine ⟨ret_bool ?_, rfl⟩
    all_goals simp
theorem begins_is {c : Nat} {b : Bool} (w : World) (h : (isLetter c || isDigit c) = b) : Calls Tryd.prog 87 #[.int .u8 c] w fun e w' => e = .returned (.bool b) ∧ w = w' := by
  subst h; exact begins_any c w

set_option maxHeartbeats 4000000 in
theorem run_any (s : ByteArray) (hs : s.size ≤ maxLen) (p : Nat) (w : World) : Calls Tryd.prog 77 #[.string s, .int .i64 p] w fun e w' => e = .returned (.int .i64 (runLen (s.data.toList.drop p) : Nat)) ∧ w = w' := by
  unfold maxLen at hs
  by_cases hp : p < s.size
  · have hq : decide (s.size ≤ p) = false := by simp; omega
    have hd := drop_cons s p hp
    rw [hd]
    cases hb : runByte s[p]
    · have HR : Hid (runLen (s[p] :: s.data.toList.drop (p + 1)) = 0) := by show _ = _; rw [runLen, hb]; rfl
      have hb' : (isLetter (s[p]'hp).toNat || isDigit (s[p]'hp).toNat) = false := hb
      clear hd hb
      go_enter Tryd.func77, Tryd.ntmps77
      go_wp2_with (go_at_call 87; refine (begins_is _ hb').mono ?_; rintro e w1 ⟨rfl, rfl⟩)
      go_ret
      exact ⟨by rw [HR.out]; rfl, rfl⟩
    · have HR : Hid (runLen (s[p] :: s.data.toList.drop (p + 1)) = 1 + ((s.data.toList.drop (p + 1)).takeWhile moreByte).length) := by show _ = _; rw [runLen, hb]; rfl
      have hb' : (isLetter (s[p]'hp).toNat || isDigit (s[p]'hp).toNat) = true := hb
      obtain ⟨R, hR⟩ : ∃ R, runLen (s[p] :: s.data.toList.drop (p + 1)) = R := ⟨_, rfl⟩
      rw [hR] at HR ⊢
      clear hd hb hR
      go_enter Tryd.func77, Tryd.ntmps77
      go_wp2_with (go_at_call 87; refine (begins_is _ hb').mono ?_; rintro e w1 ⟨rfl, rfl⟩)
      clear hb'
      go_loopw [5] (fun t wr => ∃ k : Nat, (t = .int .i64 k ∧ 1 ≤ k ∧ p + k ≤ s.size) ∧ Hid (R = k + ((s.data.toList.drop (p + k)).takeWhile moreByte).length) ∧ wr = w) (fun t _ => s.size - p - (intOf t).toNat)
      case atStart => exact ⟨1, ⟨rfl, by omega, by omega⟩, HR, rfl⟩
      case round =>
        obtain ⟨k, ⟨rfl, hk1, hk⟩, HK, rfl⟩ := hrel
        obtain ⟨j, hj⟩ : ∃ j, p + k = j := ⟨_, rfl⟩
        have hji : (p : Int) + (k : Int) = (j : Int) := by omega
        rw [hj] at HK hk
        by_cases hlt : j < s.size
        · have hd := drop_cons s j hlt
          have HC := HK.out
          rw [hd] at HC
          have hcase : ((isLetter (s[j]'hlt).toNat || isDigit (s[j]'hlt).toNat) = true ∧ moreByte s[j] = true) ∨ ((isLetter (s[j]'hlt).toNat || isDigit (s[j]'hlt).toNat) = false ∧ (((s[j]'hlt).toNat : Int) == 46) = true ∧ moreByte s[j] = true) ∨
              ((isLetter (s[j]'hlt).toNat || isDigit (s[j]'hlt).toNat) = false ∧ (((s[j]'hlt).toNat : Int) == 46) = false ∧ moreByte s[j] = false) := by
            cases hb : runByte s[j]
            · by_cases h46 : s[j] = 46
              · refine .inr (.inl ⟨hb, by rw [h46]; rfl, ?_⟩)
                rw [moreByte, h46]; simp
              · refine .inr (.inr ⟨hb, ?_, ?_⟩)
                · rw [beq_eq_false_iff_ne]
                  intro e
                  exact h46 (UInt8.toNat_inj.1 (show (s[j]'hlt).toNat = (46 : UInt8).toNat by have : (46 : UInt8).toNat = 46 := rfl; omega))
                · rw [moreByte, hb]; simp [h46]
            · exact .inl ⟨hb, by rw [moreByte, hb]; rfl⟩
          rcases hcase with ⟨hb, hm⟩ | ⟨hb, h46, hm⟩ | ⟨hb, h46, hm⟩
          · rw [List.takeWhile_cons_of_pos hm, List.length_cons] at HC
            have HC2 : Hid (R = k + 1 + ((s.data.toList.drop (j + 1)).takeWhile moreByte).length) := by show _ = _; omega
            clear hd HC hm
            go_wp2_with (go_at_call 87; refine (begins_is _ hb).mono ?_; rintro e w1 ⟨rfl, rfl⟩)
            go_roundw
            case rel => exact ⟨k + 1, ⟨by go_num, by omega, by omega⟩, by rw [show p + (k + 1) = j + 1 by omega]; exact HC2, by first | rfl | trivial⟩
            case measure => simp [intOf]; omega
          · rw [List.takeWhile_cons_of_pos hm, List.length_cons] at HC
            have HC2 : Hid (R = k + 1 + ((s.data.toList.drop (j + 1)).takeWhile moreByte).length) := by show _ = _; omega
            clear hd HC hm
            go_wp2_with (go_at_call 87; refine (begins_is _ hb).mono ?_; rintro e w1 ⟨rfl, rfl⟩)
            go_roundw
            case rel => exact ⟨k + 1, ⟨by go_num, by omega, by omega⟩, by rw [show p + (k + 1) = j + 1 by omega]; exact HC2, by first | rfl | trivial⟩
            case measure => simp [intOf]; omega
          · rw [List.takeWhile_cons_of_neg (by rw [hm]; simp)] at HC
            have HC2 : Hid (R = k) := by show _ = _; simpa using HC
            clear hd HC hm
            go_wp2_with (go_at_call 87; refine (begins_is _ hb).mono ?_; rintro e w1 ⟨rfl, rfl⟩)
            go_ret
            exact ⟨by rw [HC2.out]; rfl, rfl⟩
        · have HC2 : Hid (R = k) := by
            show _ = _
            have := HK.out
            rw [List.drop_eq_nil_of_le (by show s.size ≤ j; omega)] at this
            simpa using this
          go_wp2
          go_ret
          exact ⟨by rw [HC2.out]; rfl, rfl⟩
  · have HR : Hid (runLen (s.data.toList.drop p) = 0) := by
      show _ = _
      rw [List.drop_eq_nil_of_le (by show s.size ≤ p; omega)]; rfl
    go_enter Tryd.func77, Tryd.ntmps77
    go_wp2
    go_ret
    exact ⟨by rw [HR.out]; rfl, rfl⟩
set_option maxHeartbeats 4000000 in
theorem rnumber_any (s : ByteArray) (hs : s.size ≤ maxLen) (w : World) : Calls Tryd.prog 89 #[.string s] w fun e w' => e = .returned (.tuple #[.int .u64 ((numP s.data.toList).getD 0 : Nat), .bool (numP s.data.toList).isSome]) ∧ w = w' := by
  unfold maxLen at hs
  obtain ⟨l, hl⟩ : ∃ l, s.data.toList = l := ⟨_, rfl⟩
  have hll : l.length = s.size := by rw [← hl]; simp
  have h48 : ∀ h : 0 < s.size, l[0]? = some (s[0]'h) := fun h => by rw [← hl, Array.getElem?_toList]; exact Array.getElem?_eq_getElem (xs := s.data) h
  obtain ⟨C, hC⟩ : ∃ C : Prop, (1 < l.length ∧ l[0]? = some 48) = C := ⟨_, rfl⟩
  have hN0 : C ∧ numP l = none ∨ ¬ C ∧ numP l = numGo l 0 := by
    rw [← hC]
    by_cases h : 1 < l.length ∧ l[0]? = some 48
    · exact .inl ⟨h, by rw [numP, if_pos h]⟩
    · exact .inr ⟨h, by rw [numP, if_neg h]⟩
  have HL := Lib.hid hl
  have HZ : Hid (∀ (h0 : 0 < s.size), 1 < s.size → ((s[0]'h0).toNat = 48 ↔ C)) := fun h0 h => by
    rw [← hC, h48 (by omega)]
    constructor
    · intro e
      exact ⟨by omega, by rw [UInt8.toNat_inj.1 (show (s[0]'h0).toNat = (48 : UInt8).toNat by rw [e]; rfl)]⟩
    · rintro ⟨_, e⟩
      injection e with e
      rw [e]; rfl
  have HC : Hid (C → 1 < s.size) := fun h => by
    rw [← hC] at h
    have := h.1
    omega
  clear hl h48 hll hC
  go_enter Tryd.func89, Tryd.ntmps89
  go_wp2
  go_loopw [4, 5, 6] (fun t i _d wr => ∃ k n : Nat, (k ≤ s.size ∧ i = .int .i64 k ∧ t = .int .u64 n ∧ n ≤ 18446744073709551615) ∧ Hid (C ∧ numP l = none ∨ ¬ C ∧ numP l = numGo (l.drop k) n) ∧ Hid (2 ≤ k → ¬ C) ∧ wr = w) (fun _ i _ _ => s.size - (intOf i).toNat)
  case atStart => exact ⟨0, 0, ⟨by omega, rfl, rfl, by omega⟩, hN0, fun h => by omega, rfl⟩
  case round =>
    obtain ⟨k, n, ⟨hk, rfl, rfl, hn⟩, HN, H2, rfl⟩ := hrel
    by_cases hlt : k < s.size
    · have hdrop : l.drop k = s[k] :: l.drop (k + 1) := by rw [← HL.out]; exact drop_cons s k hlt
      have hN := HN.out
      rw [hdrop] at hN
      obtain ⟨c, hc⟩ : ∃ c, (s[k]'hlt).toNat = c := ⟨_, rfl⟩
      rw [numGo, hc] at hN
      cases hd : isDigit c
      · have HNone : Hid (numP l = none) := by
          show numP l = none
          rw [hd] at hN
          rcases hN with h | h
          · exact h.2
          · simpa using h.2
        have HDg := Lib.hid hd
        clear hN hdrop hd
        go_wp2_with (go_at_call 88; refine (rdig_is _ HDg.out).mono ?_; rintro e w1 ⟨rfl, rfl⟩)
        go_ret2
        exact ⟨(NumPost.none (w := wr) (w' := wr) (by rw [HL.out]; exact HNone.out) (Below.refl _ _)).1, rfl⟩
      · have hd' : 48 ≤ c ∧ c ≤ 57 := by simpa [isDigit] using hd
        have HDg := Lib.hid hd
        obtain ⟨d, hcd⟩ : ∃ d : Nat, c - 48 = d := ⟨_, rfl⟩
        have hd9 : d ≤ 9 := by omega
        have hcd' : (c : Int) - 48 = (d : Int) := by omega
        obtain ⟨hc1, hc2⟩ := hd'
        rw [hd, if_pos rfl, hcd] at hN
        have hcase : (k = 1 ∧ C) ∨ (∃ h0 : 0 < s.size, k = 1 ∧ ¬ C ∧ (((s[0]'h0).toNat : Int) == 48) = false) ∨ (((k : Int) == 1) = false) := by
          by_cases h1 : k = 1
          · have hz := HZ.out (by omega) (by omega)
            by_cases hC : C
            · exact .inl ⟨h1, hC⟩
            · refine .inr (.inl ⟨by omega, h1, hC, ?_⟩)
              rw [beq_eq_false_iff_ne]
              intro e
              exact hC (hz.1 (by omega))
          · refine .inr (.inr ?_)
            rw [beq_eq_false_iff_ne]; omega
        clear hdrop hd
        rcases hcase with ⟨rfl, hC⟩ | ⟨h0, rfl, hC, hz⟩ | h1
        · have hz : (s[0]'(by omega)).toNat = 48 := (HZ.out (by omega) (by omega)).2 hC
          have HNone : Hid (numP l = none) := by
            rcases hN with h | h
            · exact h.2
            · exact absurd hC h.1
          clear hN
          go_wp2_with (go_at_call 88; refine (rdig_is _ HDg.out).mono ?_; rintro e w1 ⟨rfl, rfl⟩)
          go_ret2
          exact ⟨(NumPost.none (w := wr) (w' := wr) (by rw [HL.out]; exact HNone.out) (Below.refl _ _)).1, rfl⟩
        case' inr.inl => have HnC : Hid (2 ≤ 1 + 1 → ¬ C) := fun _ => hC
        case' inr.inr =>
          have HnC : Hid (2 ≤ k + 1 → ¬ C) := fun h => by
            by_cases hk0 : k = 0
            · omega
            · have : k ≠ 1 := by
                intro e
                rw [e] at h1; simp at h1
              exact H2.out (by omega)
        all_goals
          by_cases hof : (18446744073709551615 - d) / 10 < n
          · have HNone : Hid (numP l = none) := by
              rcases hN with h | h
              · exact h.2
              · rw [if_pos hof] at h
                exact h.2
            have hof' : 1844674407370955161 < n ∨ (n = 1844674407370955161 ∧ 5 < d) := by omega
            clear hN hof
            rcases hof' with hof | ⟨rfl, hof⟩
            · go_wp2_with (go_at_call 88; refine (rdig_is _ HDg.out).mono ?_; rintro e w1 ⟨rfl, rfl⟩)
              go_ret2
              exact ⟨(NumPost.none (w := wr) (w' := wr) (by rw [HL.out]; exact HNone.out) (Below.refl _ _)).1, rfl⟩
            · go_wp2_with (go_at_call 88; refine (rdig_is _ HDg.out).mono ?_; rintro e w1 ⟨rfl, rfl⟩)
              go_ret2
              exact ⟨(NumPost.none (w := wr) (w' := wr) (by rw [HL.out]; exact HNone.out) (Below.refl _ _)).1, rfl⟩
          · rw [if_neg hof] at hN
            have HN2 := Lib.hid hN
            have hof' : n < 1844674407370955161 ∨ (n = 1844674407370955161 ∧ d ≤ 5) := by omega
            clear hN hof
            rcases hof' with hof | ⟨rfl, hof⟩
            · go_wp2_with (go_at_call 88; refine (rdig_is _ HDg.out).mono ?_; rintro e w1 ⟨rfl, rfl⟩)
              go_roundw
              case rel => exact ⟨_, 10 * n + d, ⟨hlt, by go_num, by go_num, by omega⟩, HN2, HnC, by first | rfl | trivial⟩
              case measure => simp [intOf]; omega
            · go_wp2_with (go_at_call 88; refine (rdig_is _ HDg.out).mono ?_; rintro e w1 ⟨rfl, rfl⟩)
              go_roundw
              case rel => exact ⟨_, 10 * 1844674407370955161 + d, ⟨hlt, by go_num, by go_num, by omega⟩, HN2, HnC, by first | rfl | trivial⟩
              case measure => simp [intOf]; omega
    · have HNx : Hid (numP l = some n) := by
        show _ = _
        rcases HN.out with ⟨h1, _⟩ | ⟨_, h⟩
        · exact absurd h1 (H2.out (by have := HC.out h1; omega))
        · rw [h, List.drop_eq_nil_of_le (by rw [← HL.out]; show s.size ≤ k; omega)]; rfl
      go_wp2
      go_ret2
      exact ⟨(NumPost.some (w := wr) (w' := wr) (by rw [HL.out]; exact HNx.out) (Below.refl _ _)).1, rfl⟩
theorem rbytes_eq {s : ByteArray} {t : List UInt8} (h : s.data.toList = t) : s = ⟨t.toArray⟩ := ByteArray.ext (Array.toList_inj.1 (by rw [h]))
theorem bytes_ne {s : ByteArray} {t : List UInt8} (h : s.data.toList ≠ t) : (s.toList == t) = false := by
  rw [ByteArray.toList_eq, beq_eq_false_iff_ne]
  exact h
set_option maxHeartbeats 4000000 in
theorem rsign_any (s : ByteArray) (w : World) : Calls Tryd.prog 80 #[.string s] w fun e w' => e = .returned (.bool (signB s.data.toList)) ∧ w = w' := by
  by_cases h0 : s.data.toList = [226, 134, 144]
  · obtain rfl := rbytes_eq h0
    clear h0
    go_enter Tryd.func80, Tryd.ntmps80
    go_wp2
    go_ret
    exact ⟨ret_bool (by decide), rfl⟩
  by_cases h1 : s.data.toList = [43]
  · obtain rfl := rbytes_eq h1
    clear h0 h1
    go_enter Tryd.func80, Tryd.ntmps80
    go_wp2
    go_ret
    exact ⟨ret_bool (by decide), rfl⟩
  by_cases h2 : s.data.toList = [45]
  · obtain rfl := rbytes_eq h2
    clear h0 h1 h2
    go_enter Tryd.func80, Tryd.ntmps80
    go_wp2
    go_ret
    exact ⟨ret_bool (by decide), rfl⟩
  by_cases h3 : s.data.toList = [195, 151]
  · obtain rfl := rbytes_eq h3
    clear h0 h1 h2 h3
    go_enter Tryd.func80, Tryd.ntmps80
    go_wp2
    go_ret
    exact ⟨ret_bool (by decide), rfl⟩
  by_cases h4 : s.data.toList = [37]
  · obtain rfl := rbytes_eq h4
    clear h0 h1 h2 h3 h4
    go_enter Tryd.func80, Tryd.ntmps80
    go_wp2
    go_ret
    exact ⟨ret_bool (by decide), rfl⟩
  by_cases h5 : s.data.toList = [61]
  · obtain rfl := rbytes_eq h5
    clear h0 h1 h2 h3 h4 h5
    go_enter Tryd.func80, Tryd.ntmps80
    go_wp2
    go_ret
    exact ⟨ret_bool (by decide), rfl⟩
  by_cases h6 : s.data.toList = [60]
  · obtain rfl := rbytes_eq h6
    clear h0 h1 h2 h3 h4 h5 h6
    go_enter Tryd.func80, Tryd.ntmps80
    go_wp2
    go_ret
    exact ⟨ret_bool (by decide), rfl⟩
  by_cases h7 : s.data.toList = [91]
  · obtain rfl := rbytes_eq h7
    clear h0 h1 h2 h3 h4 h5 h6 h7
    go_enter Tryd.func80, Tryd.ntmps80
    go_wp2
    go_ret
    exact ⟨ret_bool (by decide), rfl⟩
  by_cases h8 : s.data.toList = [93]
  · obtain rfl := rbytes_eq h8
    clear h0 h1 h2 h3 h4 h5 h6 h7 h8
    go_enter Tryd.func80, Tryd.ntmps80
    go_wp2
    go_ret
    exact ⟨ret_bool (by decide), rfl⟩
  by_cases h9 : s.data.toList = [58]
  · obtain rfl := rbytes_eq h9
    clear h0 h1 h2 h3 h4 h5 h6 h7 h8 h9
    go_enter Tryd.func80, Tryd.ntmps80
    go_wp2
    go_ret
    exact ⟨ret_bool (by decide), rfl⟩
  by_cases h10 : s.data.toList = [36]
  · obtain rfl := rbytes_eq h10
    clear h0 h1 h2 h3 h4 h5 h6 h7 h8 h9 h10
    go_enter Tryd.func80, Tryd.ntmps80
    go_wp2
    go_ret
    exact ⟨ret_bool (by decide), rfl⟩
  by_cases h11 : s.data.toList = [44]
  · obtain rfl := rbytes_eq h11
    clear h0 h1 h2 h3 h4 h5 h6 h7 h8 h9 h10 h11
    go_enter Tryd.func80, Tryd.ntmps80
    go_wp2
    go_ret
    exact ⟨ret_bool (by decide), rfl⟩
  have HS : Hid (signB s.data.toList = false) := by
    show _ = _
    simp only [signB, signTexts, List.contains_eq_mem, List.mem_cons, List.not_mem_nil, or_false, decide_eq_false_iff_not]
    simp only [h0, h1, h2, h3, h4, h5, h6, h7, h8, h9, h10, h11, or_self, not_false_eq_true]
  have g0 := bytes_ne h0
  have g1 := bytes_ne h1
  have g2 := bytes_ne h2
  have g3 := bytes_ne h3
  have g4 := bytes_ne h4
  have g5 := bytes_ne h5
  have g6 := bytes_ne h6
  have g7 := bytes_ne h7
  have g8 := bytes_ne h8
  have g9 := bytes_ne h9
  have g10 := bytes_ne h10
  have g11 := bytes_ne h11
  clear h0 h1 h2 h3 h4 h5 h6 h7 h8 h9 h10 h11
  go_enter Tryd.func80, Tryd.ntmps80
  go_wp2
  go_ret
  exact ⟨ret_bool HS.out.symm, rfl⟩
end Go.Proofs.YthdlihiehfkceaaDoor

namespace Go.Proofs.YthdlihiehfkceaaDoor
open Go.RowKit
set_option linter.unusedVariables false

def tokV (t : Tok) : Value := .agg #[.int .i64 t.kind, .string t.text, .int .u64 t.num, .int .i64 t.at_, .int .i64 t.line]
def OnePost (r : Tok × Int) (w : World) (e : Ending) (w' : World) : Prop := e = .returned (.tuple #[tokV r.1, .int .i64 r.2]) ∧ w' = w.alloc (.cells #[.int .i64 r.1.kind, .string r.1.text, .int .u64 r.1.num, .int .i64 r.1.at_, .int .i64 r.1.line] 93)
set_option maxHeartbeats 4000000 in
theorem one_any (s : ByteArray) (h0 : 0 < s.size) (hs : s.size ≤ maxLen) (at_ line : Int) (w : World) : Calls Tryd.prog 78 #[.string s, .int .i64 at_, .int .i64 line] w (OnePost (oneP s.data.toList at_ line) w) := by
  have HS := Lib.hid hs
  unfold maxLen at hs
  have hhead : headR s.data.toList = isDigit (s[0]'h0).toNat := by
    have := drop_cons s 0 h0
    rw [List.drop_zero] at this
    rw [this]; rfl
  obtain ⟨R, hR⟩ : ∃ R, oneP s.data.toList at_ line = R := ⟨_, rfl⟩
  rw [hR]
  unfold oneP at hR
  rw [hhead] at hR
  have hlen : s.data.toList.length = s.size := rfl
  rw [hlen] at hR
  go_enter Tryd.func78, Tryd.ntmps78
  cases hd : isDigit (s[0]'h0).toNat
  · rw [hd, if_neg (by simp)] at hR
    by_cases h24 : 24 < s.size
    · rw [if_pos h24] at hR
      have HR := Lib.hid hR
      clear hR
      go_wp2_with (go_at_call 88; refine (rdig_is _ hd).mono ?_; rintro e w1 ⟨rfl, rfl⟩)
      refine ⟨rfl, .tuple #[tokV R.1, .int .i64 R.2], ?_, rfl, ?_⟩
      · rw [← HR.out]; simp [results, Tryd.results78, go_sem, tokV, tok0]
      · rw [← HR.out]; rfl
    · rw [if_neg h24] at hR
      have hR2 : ((⟨0, s, 0, at_, line⟩ : Tok), (0 : Int)) = R := by rw [← hR, mk_toList]
      have HR := Lib.hid hR2
      clear hR hR2
      go_wp2_with (go_at_call 88; refine (rdig_is _ hd).mono ?_; rintro e w1 ⟨rfl, rfl⟩)
      refine ⟨rfl, .tuple #[tokV R.1, .int .i64 R.2], ?_, rfl, ?_⟩
      · rw [← HR.out]; simp [results, Tryd.results78, go_sem, tokV]
      · rw [← HR.out]
  · rw [hd, if_pos rfl] at hR
    cases hn : numP s.data.toList with
    | none =>
      have HN : Hid (∀ W, Calls Tryd.prog 89 #[.string s] W fun e w' => e = .returned (.tuple #[.int .u64 0, .bool false]) ∧ W = w') := fun W => by
        have h := rnumber_any s HS.out W
        rw [hn] at h
        exact h
      rw [hn] at hR
      have HR := Lib.hid hR
      clear hR hn
      go_wp2_with (first | (go_at_call 88; refine (rdig_is _ hd).mono ?_; rintro e w1 ⟨rfl, rfl⟩) | (go_at_call 89; refine (HN.out _).mono ?_; rintro e w1 ⟨rfl, rfl⟩))
      refine ⟨rfl, .tuple #[tokV R.1, .int .i64 R.2], ?_, rfl, ?_⟩
      · rw [← HR.out]; simp [results, Tryd.results78, go_sem, tokV, tok0]
      · rw [← HR.out]; rfl
    | some u =>
      have HN : Hid (∀ W, Calls Tryd.prog 89 #[.string s] W fun e w' => e = .returned (.tuple #[.int .u64 u, .bool true]) ∧ W = w') := fun W => by
        have h := rnumber_any s HS.out W
        rw [hn] at h
        exact h
      rw [hn] at hR
      have HR := Lib.hid hR
      clear hR hn
      go_wp2_with (first | (go_at_call 88; refine (rdig_is _ hd).mono ?_; rintro e w1 ⟨rfl, rfl⟩) | (go_at_call 89; refine (HN.out _).mono ?_; rintro e w1 ⟨rfl, rfl⟩))
      refine ⟨rfl, .tuple #[tokV R.1, .int .i64 R.2], ?_, rfl, ?_⟩
      · rw [← HR.out]; simp [results, Tryd.results78, go_sem, tokV]
      · rw [← HR.out]
theorem utf8_below {g3 g4 : Nat} {w w' : World} (h : Lib.Utf8Tabs g3 g4 w) (hb : Below w.heap.size w w') : Lib.Utf8Tabs g3 g4 w' := by
  have key : ∀ g i v, w.cell? ⟨g, i, none⟩ = some v → w'.cell? ⟨g, i, none⟩ = some v := fun g i v hc =>
    (hb.cell (p := ⟨g, i, none⟩) (World.block_lt_of_cell? w _ hc)).trans hc
  exact ⟨fun c hc => key _ _ _ (h.1 c hc), fun i hi => ⟨key _ _ _ (h.2 i hi).1, key _ _ _ (h.2 i hi).2⟩⟩
def NextPost (r : Tok × Bool × Nat × Int) (w : World) (e : Ending) (w' : World) : Prop :=
  e = .returned (.tuple #[tokV r.1, .bool r.2.1, .int .i64 (r.2.2.1 : Nat), .int .i64 r.2.2.2]) ∧ Below w.heap.size w w'
theorem str_from {P : Program} {t : TypeId} (ht : P.underlying t = some .string) {s X : ByteArray} {a : Nat} (h2 : a ≤ s.size) (hX : s.extract a s.size = X) (w : World) :
    (Instr.slice t (.string s) (some (.int .i64 a)) none none).run P w = .ok (.string X) w := by
  rw [run_slice_string_l w t s ht .i64 a (by omega) (by omega), Int.toNat_natCast, hX]
theorem extract_from (s : ByteArray) (a : Nat) : (s.extract a s.size).data.toList = s.data.toList.drop a := by
  rw [extract_list, List.take_of_length_le]
  rw [List.length_drop]
  exact Nat.le_refl _
theorem runLen_le : ∀ l : List UInt8, runLen l ≤ l.length
  | [] => Nat.le_refl _
  | x :: r => by
    rw [runLen]
    split
    · have := congrArg List.length (List.takeWhile_append_dropWhile (p := moreByte) (l := r))
      rw [List.length_append] at this
      rw [List.length_cons]; omega
    · exact Nat.zero_le _
set_option maxRecDepth 100000 in
set_option maxHeartbeats 4000000 in
theorem next_any (s : ByteArray) (hs : s.size ≤ maxLen) (p : Nat) (hp : p < s.size) (line : Int) (w : World) (hU : Lib.Utf8Tabs 1 2 w) : Calls Tryd.prog 60 #[.string s, .int .i64 p, .int .i64 line] w (NextPost (nextP (s.data.toList.drop p) p line) w) := by
  have HS := Lib.hid hs
  have HU := Lib.hid hU
  unfold maxLen at hs
  obtain ⟨rest, hrest⟩ : ∃ rest, s.data.toList.drop p = rest := ⟨_, rfl⟩
  have hcons := drop_cons s p hp
  rw [hrest] at hcons
  have hlen : rest.length = s.size - p := by rw [← hrest, List.length_drop]; rfl
  have HRun : Hid (∀ W, Calls Tryd.prog 77 #[.string s, .int .i64 p] W fun e w' => e = .returned (.int .i64 (runLen rest : Nat)) ∧ W = w') := fun W => by rw [← hrest]; exact run_any s HS.out p W
  have HRest := Lib.hid hrest
  rw [hrest]
  clear hrest hU
  obtain ⟨R, hR⟩ : ∃ R, nextP rest p line = R := ⟨_, rfl⟩
  rw [hR]
  unfold nextP at hR
  obtain ⟨n, hn⟩ : ∃ n, runLen rest = n := ⟨_, rfl⟩
  rw [hn] at hR HRun
  go_enter Tryd.func60, Tryd.ntmps60
  by_cases h0 : 0 < n
  · rw [if_pos h0] at hR
    have hnl : n ≤ s.size - p := by rw [← hn, ← hlen]; exact runLen_le rest
    obtain ⟨X, hX⟩ : ∃ X, s.extract p (p + n) = X := ⟨_, rfl⟩
    have hXl : X.data.toList = rest.take n := by rw [← hX, extract_list, HRest.out, Nat.add_sub_cancel_left]
    have hXs : X.size = n := by
      have : X.data.toList.length = X.size := rfl
      rw [← this, hXl, List.length_take]; omega
    have hsl := fun W => str_cut (P := Tryd.prog) Tryd.underlying9 (by omega) (by omega) hX W
    rw [Int.natCast_add] at hsl
    obtain ⟨⟨⟨tk, tt, tn, ta, tl⟩, er⟩, hone⟩ : ∃ r, oneP X.data.toList p line = r := ⟨_, rfl⟩
    rw [← hXl, hone] at hR
    have HOne : Hid (∀ W, Calls Tryd.prog 78 #[.string X, .int .i64 p, .int .i64 line] W (fun e w' => e = .returned (.tuple #[.agg #[.int .i64 tk, .string tt, .int .u64 tn, .int .i64 ta, .int .i64 tl], .int .i64 er]) ∧ w' = W.alloc (.cells #[.int .i64 tk, .string tt, .int .u64 tn, .int .i64 ta, .int .i64 tl] 93))) := fun W => by
      show Calls _ _ _ _ (OnePost (⟨tk, tt, tn, ta, tl⟩, er) W)
      rw [← hone]; exact one_any X (by omega) (by unfold maxLen; omega) p line W
    have HR := Lib.hid hR
    clear hR hX hXl hone hcons
    go_wp2_with (first | (go_at_call 77; refine (HRun.out _).mono ?_; rintro e w1 ⟨rfl, rfl⟩) | (go_at_call 78; refine (HOne.out _).mono ?_; rintro e w1 ⟨rfl, rfl⟩))
    refine ⟨rfl, .tuple #[tokV R.1, .bool R.2.1, .int .i64 (R.2.2.1 : Nat), .int .i64 R.2.2.2], ?_, rfl, ?_⟩
    · rw [← HR.out]; simp [results, Tryd.results60, go_sem, tokV]
    · exact (((Below.refl _ _).alloc (Nat.le_refl _) _).alloc (by simp) _).alloc (by simp; omega) _
  · obtain rfl : n = 0 := by omega
    rw [if_neg (by omega), hcons] at hR
    simp only at hR
    obtain ⟨r, hr⟩ : ∃ r, s.data.toList.drop (p + 1) = r := ⟨_, rfl⟩
    rw [hr] at hR hcons
    have hbyte : ∀ m : UInt8, s[p] = m ↔ (s[p]'hp).toNat = m.toNat := fun m => ⟨fun h => by rw [h], fun h => UInt8.toNat_inj.1 h⟩
    unfold restP at hR
    by_cases h10 : s[p] = 10
    · rw [if_pos h10] at hR
      have HR := Lib.hid hR
      have hb : (s[p]'hp).toNat = 10 := (hbyte 10).1 h10
      clear hR hcons h10 hbyte
      go_wp2_with (go_at_call 77; refine (HRun.out _).mono ?_; rintro e w1 ⟨rfl, rfl⟩)
      refine ⟨rfl, .tuple #[tokV R.1, .bool R.2.1, .int .i64 (R.2.2.1 : Nat), .int .i64 R.2.2.2], ?_, rfl, ?_⟩
      · rw [← HR.out]; simp [results, Tryd.results60, go_sem, tokV]
      · exact (Below.refl _ _).alloc (Nat.le_refl _) _
    rw [if_neg h10] at hR
    have b10 : (((s[p]'hp).toNat : Int) == 10) = false := by rw [beq_eq_false_iff_ne]; intro e; exact h10 ((hbyte 10).2 (show _ = 10 by omega))
    by_cases hbl : s[p] = 32 ∨ s[p] = 9 ∨ s[p] = 13
    · rw [if_pos hbl] at hR
      have HR := Lib.hid hR
      have hb : (s[p]'hp).toNat = 32 ∨ ((((s[p]'hp).toNat : Int) == 32) = false ∧ (s[p]'hp).toNat = 9) ∨ ((((s[p]'hp).toNat : Int) == 32) = false ∧ (((s[p]'hp).toNat : Int) == 9) = false ∧ (s[p]'hp).toNat = 13) := by
        rcases hbl with h | h | h
        · exact .inl ((hbyte 32).1 h)
        · exact .inr (.inl ⟨by rw [h]; rfl, (hbyte 9).1 h⟩)
        · exact .inr (.inr ⟨by rw [h]; rfl, by rw [h]; rfl, (hbyte 13).1 h⟩)
      clear hR hcons h10 hbyte hbl
      rcases hb with hb | ⟨g1, hb⟩ | ⟨g1, g2, hb⟩
      all_goals
        go_wp2_with (go_at_call 77; refine (HRun.out _).mono ?_; rintro e w1 ⟨rfl, rfl⟩)
        refine ⟨rfl, .tuple #[tokV R.1, .bool R.2.1, .int .i64 (R.2.2.1 : Nat), .int .i64 R.2.2.2], ?_, rfl, ?_⟩
        · rw [← HR.out]; simp [results, Tryd.results60, go_sem, tokV, tok0]
        · exact (Below.refl _ _).alloc (Nat.le_refl _) _
    rw [if_neg hbl] at hR
    have b32 : (((s[p]'hp).toNat : Int) == 32) = false := by rw [beq_eq_false_iff_ne]; intro e; exact hbl (.inl ((hbyte 32).2 (show _ = 32 by omega)))
    have b9 : (((s[p]'hp).toNat : Int) == 9) = false := by rw [beq_eq_false_iff_ne]; intro e; exact hbl (.inr (.inl ((hbyte 9).2 (show _ = 9 by omega))))
    have b13 : (((s[p]'hp).toNat : Int) == 13) = false := by rw [beq_eq_false_iff_ne]; intro e; exact hbl (.inr (.inr ((hbyte 13).2 (show _ = 13 by omega))))
    clear hbl h10
    by_cases h35 : s[p] = 35
    · rw [if_pos h35] at hR
      obtain ⟨N, hN⟩ : ∃ N, 1 + (r.takeWhile (fun x => x != 10)).length = N := ⟨_, rfl⟩
      rw [hN] at hR
      have HR := Lib.hid hR
      have HN0 : Hid (N = 1 + ((s.data.toList.drop (p + 1)).takeWhile (fun x => x != 10)).length) := by show _ = _; rw [hr, hN]
      have hb : (s[p]'hp).toNat = 35 := (hbyte 35).1 h35
      clear hR hcons h35 hbyte hN hr
      go_wp2_with (go_at_call 77; refine (HRun.out _).mono ?_; rintro e w1 ⟨rfl, rfl⟩)
      go_loopw [14] (fun t wr => ∃ k : Nat, (t = .int .i64 k ∧ 1 ≤ k ∧ p + k ≤ s.size) ∧ Hid (N = k + ((s.data.toList.drop (p + k)).takeWhile (fun x => x != 10)).length) ∧ wr = w.alloc (.cells #[.int .i64 0, .string ⟨#[]⟩, .int .u64 0, .int .i64 0, .int .i64 0] 93)) (fun t _ => s.size - p - (intOf t).toNat)
      case atStart => exact ⟨1, ⟨rfl, by omega, by omega⟩, HN0, rfl⟩
      case round =>
        obtain ⟨k, ⟨rfl, hk1, hk⟩, HK, rfl⟩ := hrel
        obtain ⟨j, hj⟩ : ∃ j, p + k = j := ⟨_, rfl⟩
        have hji : (p : Int) + (k : Int) = (j : Int) := by omega
        rw [hj] at HK hk
        by_cases hlt : j < s.size
        · have hd := drop_cons s j hlt
          have HC := HK.out
          rw [hd] at HC
          by_cases hc : (s[j]'hlt).toNat = 10
          · have hm : ((s[j]'hlt) != 10) = false := by
              rw [UInt8.toNat_inj.1 (show (s[j]'hlt).toNat = (10 : UInt8).toNat from hc)]; rfl
            rw [List.takeWhile_cons_of_neg (p := fun x : UInt8 => x != 10) (by rw [hm]; simp)] at HC
            obtain rfl : N = k := by simpa using HC
            clear hd HC hm
            go_wp2
            refine ⟨rfl, .tuple #[tokV R.1, .bool R.2.1, .int .i64 (R.2.2.1 : Nat), .int .i64 R.2.2.2], ?_, rfl, ?_⟩
            · rw [← HR.out]; simp [results, Tryd.results60, go_sem, tokV, tok0]
            · exact (Below.refl _ _).alloc (Nat.le_refl _) _
          · have hm : ((s[j]'hlt) != 10) = true := by
              rw [bne_iff_ne]
              intro e
              rw [e] at hc
              exact hc rfl
            rw [List.takeWhile_cons_of_pos (p := fun x : UInt8 => x != 10) hm, List.length_cons] at HC
            have HC2 : Hid (N = k + 1 + ((s.data.toList.drop (j + 1)).takeWhile (fun x => x != 10)).length) := by show _ = _; omega
            have hc' : (((s[j]'hlt).toNat : Int) != 10) = true := by rw [bne_iff_ne]; omega
            clear hd HC hm
            go_wp2
            go_roundw
            case rel => exact ⟨k + 1, ⟨by go_num, by omega, by omega⟩, by rw [show p + (k + 1) = j + 1 by omega]; exact HC2, by first | rfl | trivial⟩
            case measure => simp [intOf]; omega
        · have HC2 : Hid (N = k) := by
            show _ = _
            have := HK.out
            rw [List.drop_eq_nil_of_le (by show s.size ≤ j; omega)] at this
            simpa using this
          obtain rfl := HC2.out
          go_wp2
          refine ⟨rfl, .tuple #[tokV R.1, .bool R.2.1, .int .i64 (R.2.2.1 : Nat), .int .i64 R.2.2.2], ?_, rfl, ?_⟩
          · rw [← HR.out]; simp [results, Tryd.results60, go_sem, tokV, tok0]
          · exact (Below.refl _ _).alloc (Nat.le_refl _) _
    · rw [if_neg h35] at hR
      have b35 : (((s[p]'hp).toNat : Int) == 35) = false := by rw [beq_eq_false_iff_ne]; intro e; exact h35 ((hbyte 35).2 (show _ = 35 by omega))
      rw [← hcons] at hR
      have hne : rest ≠ [] := by rw [hcons]; simp
      obtain ⟨cc, K, hcK⟩ : ∃ cc K, Go.Lib.decodeL rest = (cc, K) := ⟨_, _, rfl⟩
      have hK1 := decodeL_pos hne
      have hK2 := Lib.decodeL_le rest hne
      rw [hcK] at hR hK1 hK2
      simp only at hR hK1 hK2
      obtain ⟨X, hX⟩ : ∃ X, s.extract p s.size = X := ⟨_, rfl⟩
      have hXl : X.data.toList = rest := by rw [← hX, extract_from, HRest.out]
      have hfrom := fun W => str_from (P := Tryd.prog) Tryd.underlying9 (by omega) hX W
      have hdec : Lib.decodeGo X = (cc, K) := by
        have h0 : X.size ≠ 0 := by
          have h1 : X.data.toList.length = X.size := rfl
          rw [← h1, hXl]; omega
        have h2 := Lib.decodeL_drop X 0
        rw [List.drop_zero, hXl, hcK] at h2
        rw [Lib.decodeGo, if_neg h0, ← h2]
      have HDec : Hid (Calls Tryd.prog 79 #[.string X] (w.alloc (.cells #[.int .i64 0, .string ⟨#[]⟩, .int .u64 0, .int .i64 0, .int .i64 0] 93)) fun e w' => e = .returned (.tuple #[.int .i32 cc, .int .i64 K]) ∧ Below (w.alloc (.cells #[.int .i64 0, .string ⟨#[]⟩, .int .u64 0, .int .i64 0, .int .i64 0] 93)).heap.size (w.alloc (.cells #[.int .i64 0, .string ⟨#[]⟩, .int .u64 0, .int .i64 0, .int .i64 0] 93)) w') := by
        have h := Tryd.utf8_DecodeRuneInString X (w.alloc (.cells #[.int .i64 0, .string ⟨#[]⟩, .int .u64 0, .int .i64 0, .int .i64 0] 93)) (utf8_below HU.out ((Below.refl _ _).alloc (Nat.le_refl _) _))
        rw [hdec] at h
        exact h
      obtain ⟨Y, hY⟩ : ∃ Y, s.extract p (p + K) = Y := ⟨_, rfl⟩
      have hYl : Y.data.toList = rest.take K := by rw [← hY, extract_list, HRest.out, Nat.add_sub_cancel_left]
      have hcut := fun W => str_cut (P := Tryd.prog) Tryd.underlying9 (by omega) (by omega) hY W
      rw [Int.natCast_add] at hcut
      have HSg : Hid (∀ W, Calls Tryd.prog 80 #[.string Y] W fun e w' => e = .returned (.bool (signB (rest.take K))) ∧ W = w') := fun W => by rw [← hYl]; exact rsign_any Y W
      have hYb : (⟨(rest.take K).toArray⟩ : ByteArray) = Y := by rw [← hYl]
      rw [hYb] at hR
      clear hcons h35 hbyte hr hX hXl hdec hY hYl hYb hcK hne
      cases hsg : signB (rest.take K)
      all_goals
        rw [hsg] at hR HSg
        simp only [Bool.false_eq_true, if_false, if_true] at hR
        have HR := Lib.hid hR
        clear hR hsg
        go_wp2_with (go_at_call 77; refine (HRun.out _).mono ?_; rintro e w1 ⟨rfl, rfl⟩)
        refine HDec.out.mono ?_
        rintro e w2 ⟨rfl, hb2⟩
        have HB2 := Lib.hid (((Below.refl w.heap.size w).alloc (Nat.le_refl _) (.cells #[.int .i64 0, .string ⟨#[]⟩, .int .u64 0, .int .i64 0, .int .i64 0] 93)).trans (hb2.mono (by simp)))
        have BK := Lib.hid ((Bk.new w 93 #[.int .i64 0, .string ⟨#[]⟩, .int .u64 0, .int .i64 0, .int .i64 0]).below hb2 (by simp))
        have k0 := BK.out.cell 0
        have k1 := BK.out.cell 1
        have k2 := BK.out.cell 2
        have k3 := BK.out.cell 3
        have k4 := BK.out.cell 4
        have f0 := BK.out.frozen 0
        have f1 := BK.out.frozen 1
        have f2 := BK.out.frozen 2
        have f3 := BK.out.frozen 3
        have f4 := BK.out.frozen 4
        simp at k0 k1 k2 k3 k4
        have hz2 := BK.out.lt
        clear hb2 hfrom
        go_wp2_with (go_at_call 80; refine (HSg.out _).mono ?_; rintro e w1 ⟨rfl, rfl⟩)
        first
        | skip
          have BL := ((((BK.out.set_ 0 (.int .i64 0)).set_ 1 (.string ⟨#[]⟩)).set_ 2 (.int .u64 0)).set_ 3 (.int .i64 0)).set_ 4 (.int .i64 0)
          have r0 := BL.cell 0
          have r1 := BL.cell 1
          have r2 := BL.cell 2
          have r3 := BL.cell 3
          have r4 := BL.cell 4
          simp at r0 r1 r2 r3 r4
          refine ⟨rfl, .tuple #[tokV R.1, .bool R.2.1, .int .i64 (R.2.2.1 : Nat), .int .i64 R.2.2.2], ?_, rfl, ?_⟩
          · rw [← HR.out]; simp [results, Tryd.results60, go_sem, tokV, tok0, r0, r1, r2, r3, r4]
          · exact ((((HB2.out.setCell (p := ⟨w.heap.size, 0, none⟩) (Nat.le_refl _) _).setCell (p := ⟨w.heap.size, 1, none⟩) (Nat.le_refl _) _).setCell (p := ⟨w.heap.size, 2, none⟩) (Nat.le_refl _) _).setCell (p := ⟨w.heap.size, 3, none⟩) (Nat.le_refl _) _).setCell (p := ⟨w.heap.size, 4, none⟩) (Nat.le_refl _) _
        | skip
          have BL := ((((BK.out.set_ 0 (.int .i64 2)).set_ 1 (.string Y)).set_ 2 (.int .u64 0)).set_ 3 (.int .i64 (p : Int))).set_ 4 (.int .i64 line)
          have r0 := BL.cell 0
          have r1 := BL.cell 1
          have r2 := BL.cell 2
          have r3 := BL.cell 3
          have r4 := BL.cell 4
          simp at r0 r1 r2 r3 r4
          refine ⟨rfl, .tuple #[tokV R.1, .bool R.2.1, .int .i64 (R.2.2.1 : Nat), .int .i64 R.2.2.2], ?_, rfl, ?_⟩
          · rw [← HR.out]; simp [results, Tryd.results60, go_sem, tokV, r0, r1, r2, r3, r4]
          · exact ((((HB2.out.setCell (p := ⟨w.heap.size, 0, none⟩) (Nat.le_refl _) _).setCell (p := ⟨w.heap.size, 1, none⟩) (Nat.le_refl _) _).setCell (p := ⟨w.heap.size, 2, none⟩) (Nat.le_refl _) _).setCell (p := ⟨w.heap.size, 3, none⟩) (Nat.le_refl _) _).setCell (p := ⟨w.heap.size, 4, none⟩) (Nat.le_refl _) _
end Go.Proofs.YthdlihiehfkceaaDoor

namespace Go.Proofs.YthdlihiehfkceaaDoor
open Go.RowKit
set_option linter.unusedVariables false

theorem info_rtok : (Tryd.prog.info? 93).map (fun i => (i.zero, i.size, i.bytes)) = some (some (.agg #[.int .i64 0, .string ⟨#[]⟩, .int .u64 0, .int .i64 0, .int .i64 0]), 5, 48) := by kernel_rfl
/-- A slice of the reference's tokens, made here. -/
def AsPost (l : List Tok) (w : World) (e : Ending) (w' : World) : Prop :=
  ∃ A c, e = .returned (.slice A l.length c) ∧ w'.ownsRow w.heap.size 93 5 (.slice A l.length c) l.length (tokCells l) ∧ Below w.heap.size w w'

end Go.Proofs.YthdlihiehfkceaaDoor

namespace Go.Proofs.YthdlihiehfkceaaDoor
open Go.RowKit
set_option linter.unusedVariables false

theorem stepQ_mk (L : List Tok) (line : Nat) (t : Tok) (is : Bool) : stepQ ⟨L, line, none, false⟩ t is = if is then ⟨L ++ [t], if t.kind = 3 then line + 1 else line, none, false⟩ else ⟨L, line, none, false⟩ := rfl
set_option maxRecDepth 100000 in
set_option maxHeartbeats 8000000 in
theorem rlex_to {s : ByteArray} {L : List Tok} {p ec : Int} (hL : lexP s = (L, p, ec)) (hs : s.size ≤ 600) (w : World) (hU : Lib.Utf8Tabs 1 2 w) :
    Calls Tryd.prog 37 #[.string s] w fun e w' => ∃ v, e = .returned (.tuple #[v, .int .i64 p, .int .i64 ec]) ∧ w'.ownsRow w.heap.size 93 5 v L.length (tokCells L) ∧ Below w.heap.size w w' := by
  obtain ⟨i0, hi0, hz0', hz1', hz2'⟩ := info_parts info_rtok
  have HU := Lib.hid hU
  have HE : Hid (lexR (runesOf (s.data.toList.drop 0)) 0 ⟨[], 0, none, false⟩ = (L, p, ec)) := by
    show _ = _
    rw [← hL, lexP_R s (by omega), List.drop_zero]; rfl
  clear hU hL
  have hq : decide ((65536 : Int) < (s.size : Int)) = false := by simp; omega
  go_enter Tryd.func37, Tryd.ntmps37
  go_wp2
  go_loopw [5, 6, 7, 8, 9, 10, 11] (fun out li at_ _t _is _n _e wr => ∃ (pos line : Nat) (T : List Tok), (pos ≤ s.size ∧ at_ = .int .i64 pos ∧ li = .int .i64 line ∧ T.length ≤ pos ∧ line ≤ pos) ∧ wr.ownsRow w.heap.size 93 5 out T.length (tokCells T) ∧ Hid (lexR (runesOf (s.data.toList.drop pos)) pos ⟨T, line, none, false⟩ = (L, p, ec)) ∧ Below w.heap.size w wr) (fun _ _ at_ _ _ _ _ _ => s.size - (intOf at_).toNat)
  case atStart => exact ⟨0, 0, [], ⟨by omega, rfl, rfl, by simp, by omega⟩, World.ownsRow_made w #[] 0 (Nat.le_refl _) (by simp [maxLen]) rfl, HE, (Below.refl _ _).alloc (Nat.le_refl _) _⟩
  case round =>
    obtain ⟨pos, line, T, ⟨hpos, rfl, rfl, hT, hli⟩, hown, HE, hb⟩ := hrel
    have HO := Lib.hid hown
    have HB := Lib.hid hb
    have hsz := hb.size
    obtain ⟨Ao, co, rfl, hco, _⟩ := Rd.of_own_cap hown
    obtain ⟨m, hm⟩ : ∃ m, T.length = m := ⟨_, rfl⟩
    rw [hm] at HO hT
    rw [hm]
    have HM := Lib.hid hm
    clear hown hb hm
    by_cases hlt : pos < s.size
    · have hne : s.data.toList.drop pos ≠ [] := by
        rw [drop_cons s pos hlt]; simp
      obtain ⟨⟨tk, tt, tn, ta, tl⟩, is, n, e, hN⟩ : ∃ t is n e, nextP (s.data.toList.drop pos) pos line = (t, is, n, e) := ⟨_, _, _, _, rfl⟩
      have hst := next_step (q := ⟨T, line, none, false⟩) hne rfl rfl (by have := HM.out; show T.length < _; omega) hN
      obtain ⟨hn1, hn2, he1, he2, his⟩ := hst
      rw [List.length_drop] at hn2
      have hn2' : pos + n ≤ s.size := by have : s.data.toList.length = s.size := rfl; omega
      rw [HE.out] at he1 he2
      rw [List.drop_drop, stepQ_mk] at he2
      have HNx : Hid (Calls Tryd.prog 60 #[.string s, .int .i64 pos, .int .i64 line] wr fun ev w' => ev = .returned (.tuple #[.agg #[.int .i64 tk, .string tt, .int .u64 tn, .int .i64 ta, .int .i64 tl], .bool is, .int .i64 (n : Nat), .int .i64 e]) ∧ Below wr.heap.size wr w') := by
        have h := next_any s (by unfold maxLen; omega) pos hlt line wr (utf8_below HU.out (HB.out))
        rw [hN] at h
        exact h
      have HE1 := Lib.hid he1
      have HE2 := Lib.hid he2
      clear he1 he2 hN hne hn2
      go_wp2_with fail
      refine HNx.out.mono ?_
      rintro ev w1 ⟨rfl, hb1⟩
      have HB1 := Lib.hid (HB.out.trans (hb1.mono hsz))
      have HO1 := Lib.hid (own_below HO.out hb1)
      have hz1 := HB1.out.size
      clear hb1 HNx HO
      by_cases he : e = 0
      · subst he
        have HS := Lib.hid (HE2.out rfl).symm
        clear HE1 HE2 his
        have hl16 : ((m : Int) == 16384) = false := by rw [beq_eq_false_iff_ne]; omega
        obtain ⟨q, hqn⟩ : ∃ q, pos + n = q := ⟨_, rfl⟩
        have hpn : (pos : Int) + (n : Int) = (q : Int) := by omega
        rw [hqn] at HS hn2'
        cases is
        · rw [if_neg (by simp)] at HS
          go_wp2
          go_roundw
          case rel => exact ⟨q, line, T, ⟨hn2', rfl, rfl, by rw [HM.out]; omega, by omega⟩, by rw [HM.out]; exact HO1.out.alloc _, HS, HB1.out.alloc hz1 _⟩
          case measure => simp [intOf]; omega
        · rw [if_pos rfl] at HS
          have RM : Hid (RdT ((w1.alloc (.cells #[.int .i64 tk, .string tt, .int .u64 tn, .int .i64 ta, .int .i64 tl] 93)).alloc (.cells #[.int .i64 tk, .string tt, .int .u64 tn, .int .i64 ta, .int .i64 tl] 93)) (w1.heap.size + 1 + 1) (some ⟨w1.heap.size + 1, 0, none⟩) 1 [⟨tk, tt, tn, ta, tl⟩]) := Rd.newAt (w1.alloc _) _ _ _ (by simp) (size := 5) (m := 1) rfl (by simp [maxLen])
          go_wp2_with (at_builtin; refine wpList_app _ (by rfl) (.tmp 44) (.tmp 46) 83 (by rfl) w.heap.size 93 i0 _ 5 48 Tryd.underlying83 hi0 hz0' hz1' hz2' rfl (by decide) (.slice Ao m co) m (tokCells T) (by rfl) ((HO1.out.alloc _).alloc _) (w1.heap.size + 1 + 1) (some ⟨w1.heap.size + 1, 0, none⟩) 1 1 (tokCells [⟨tk, tt, tn, ta, tl⟩]) (by rfl) RM.out (tokCells_one _) ?c4 ?c5 ?c6 ?_)
          case c4 => simp only [maxLen]; omega
          case c5 => omega
          case c6 => simp; omega
          intro v5 w5 hown5 hg5 _
          obtain ⟨A5, c5, hv5, _, _⟩ := Rd.of_own_cap hown5
          subst hv5
          rw [← tokCells_append] at hown5
          have HO5 : Hid (w5.ownsRow w.heap.size 93 5 (.slice A5 (m + 1) c5) (T ++ [(⟨tk, tt, tn, ta, tl⟩ : Tok)]).length (tokCells (T ++ [(⟨tk, tt, tn, ta, tl⟩ : Tok)]))) := by
            show World.ownsRow _ _ _ _ _ _ _
            rw [List.length_append, HM.out]; exact hown5
          have HB5 := Lib.hid (below_own ((HB1.out.alloc hz1 _).alloc (by simp; omega) _) ((HO1.out.alloc _).alloc _) hg5 (Nat.le_refl _) (by simp; omega))
          have BK := Lib.hid (((Bk.new w1 93 #[.int .i64 tk, .string tt, .int .u64 tn, .int .i64 ta, .int .i64 tl]).alloc (.cells #[.int .i64 tk, .string tt, .int .u64 tn, .int .i64 ta, .int .i64 tl] 93)).grown hg5 (fun ee => by have := (HO1.out.lt _ ee).2; omega))
          have k0 := BK.out.cell 0
          simp at k0
          have hlen5 : Hid ((T ++ [(⟨tk, tt, tn, ta, tl⟩ : Tok)]).length ≤ q) := by show _ ≤ _; rw [List.length_append, HM.out]; simp; omega
          clear hown5 hg5 RM
          by_cases h3 : tk = 3
          · subst h3
            simp only [if_true] at HS
            go_wp2
            go_roundw
            case rel => exact ⟨q, line + 1, _, ⟨hn2', rfl, by go_num, hlen5.out, by omega⟩, HO5.out, HS, HB5.out⟩
            case measure => simp [intOf]; omega
          · have h3' : (tk == 3) = false := by simpa using h3
            simp only [if_neg h3] at HS
            go_wp2
            go_roundw
            case rel => exact ⟨q, line, _, ⟨hn2', rfl, rfl, hlen5.out, by omega⟩, HO5.out, HS, HB5.out⟩
            case measure => simp [intOf]; omega
      · have hF := HE1.out he
        have hne : (e == 0) = false := by simpa using he
        have hne' : (e != 0) = true := by rw [bne_iff_ne]; exact he
        have his2 : is = false := by
          cases is
          · rfl
          · exact absurd (his rfl) he
        subst his2
        injection hF with g1 g2
        injection g2 with g2 g3
        subst g1; subst g2; subst g3
        clear HE1 HE2 his
        go_wp2
        go_ret3
        exact ⟨_, rfl, World.ownsRow_nil _ _ _ _, HB1.out.alloc hz1 _⟩
    · have hend := HE.out
      rw [List.drop_eq_nil_of_le (by show s.size ≤ pos; omega)] at hend
      have hF : (T, (0 : Int), (0 : Int)) = (L, p, ec) := hend
      injection hF with g1 g2
      injection g2 with g2 g3
      subst g1; subst g2; subst g3
      clear hend
      go_wp2
      go_ret3
      exact ⟨_, rfl, by rw [HM.out]; exact HO.out, HB.out⟩
end Go.Proofs.YthdlihiehfkceaaDoor

namespace Go.Proofs.YthdlihiehfkceaaDoor
open Go.RowKit
set_option linter.unusedVariables false

def LnsR (l : List Tok) (n₀ : Nat) (pre : List SlV) (W : World) : Prop := ∀ (i : Nat) (x : SlV), pre[i]? = some x → ∃ ln, (linesP l)[i]? = some ln ∧ W.ownsRow n₀ 93 5 x.1 ln.length (tokCells ln)
theorem LnsR.kept {l : List Tok} {n₀ : Nat} {pre : List SlV} {W W' : World} {row : Option Nat} (h : LnsR l n₀ pre W) (hg : W.grownBy W' row) (hr : ∀ g cs fz, row = some g → W.heap[g]? = some (.cells cs 93 fz) → False) : LnsR l n₀ pre W' := fun i x hx => by
  obtain ⟨ln, h1, h2⟩ := h i x hx
  refine ⟨ln, h1, h2.kept hg ?_⟩
  cases hv : x.1.ownBlock with
  | none => exact .inl rfl
  | some b =>
    refine .inr fun e2 => ?_
    obtain ⟨c, fz, hb⟩ := own_row h2 hv
    exact hr b c fz e2.symm hb
theorem LnsR.below {l : List Tok} {n₀ : Nat} {pre : List SlV} {W W' : World} (h : LnsR l n₀ pre W) (hb : Below W.heap.size W W') : LnsR l n₀ pre W' := fun i x hx => by
  obtain ⟨ln, h1, h2⟩ := h i x hx
  exact ⟨ln, h1, own_below h2 hb⟩
theorem LnsR.snoc {l : List Tok} {n₀ : Nat} {pre : List SlV} {x : SlV} {W : World} {ln : List Tok} (h : LnsR l n₀ pre W) (h1 : (linesP l)[pre.length]? = some ln) (h2 : W.ownsRow n₀ 93 5 x.1 ln.length (tokCells ln)) : LnsR l n₀ (pre ++ [x]) W := fun i y hy => by
  by_cases hi : i < pre.length
  · rw [List.getElem?_append_left hi] at hy
    exact h i y hy
  · rw [List.getElem?_append_right (by omega)] at hy
    have hi0 : i - pre.length = 0 := by
      by_cases h0 : i - pre.length = 0
      · exact h0
      · rw [List.getElem?_eq_none (by simp; omega)] at hy; cases hy
    rw [hi0] at hy
    obtain rfl : x = y := by simpa using hy
    obtain rfl : i = pre.length := by omega
    exact ⟨ln, h1, h2⟩
theorem info_slR : (Tryd.prog.info? 83).map (fun i => (i.zero, i.size, i.bytes)) = some (some (.slice none 0 0), 1, 24) := by kernel_rfl
def RLinesPost (l : List Tok) (w : World) (e : Ending) (w' : World) : Prop :=
  ∃ A' c' xs, e = .returned (.slice A' xs.length c') ∧ xs.length = (linesP l).length ∧ Rd w' w'.heap.size 1 A' xs.length (xs.map (·.1)) ∧ LnsR l w.heap.size xs w' ∧ Below w.heap.size w w'

set_option maxRecDepth 100000 in
set_option maxHeartbeats 8000000 in
theorem rlines_any (l : List Tok) (A : Option Addr) (n c : Nat) (w : World) (hL : RdT w w.heap.size A n l) (h48 : n ≤ 100000) :
    Calls Tryd.prog 38 #[.slice A n c] w (RLinesPost l w) := by
  obtain ⟨i0, hi0, hz0, hz1, hz2⟩ := info_parts info_rtok
  obtain ⟨i1, hi1, hy0, hy1, hy2⟩ := info_parts info_slR
  have HLl := Lib.hid hL.tokLen
  have HL := Lib.hid hL
  clear hL
  go_enter Tryd.func38, Tryd.ntmps38
  go_wp2
  go_loopw [3, 4, 5] (fun out lv i wr => ∃ (k : Nat) (pre : List SlV) (cur : List Tok) (W0 : World), (k ≤ n ∧ i = .int .i64 k) ∧ (cur.length ≤ k ∧ pre.length ≤ k) ∧ W0.ownsRow w.heap.size 83 1 out pre.length (pre.map (·.1)) ∧ Below W0.heap.size W0 wr ∧ wr.ownsRow W0.heap.size 93 5 lv cur.length (tokCells cur) ∧
    Hid (LnsR l w.heap.size pre W0) ∧ Below w.heap.size w W0 ∧ Hid ((linesP l).drop pre.length = linesGo (l.drop k) cur ∧ pre.length ≤ (linesP l).length)) (fun _ _ i _ => n - (intOf i).toNat)
  case atStart =>
    refine ⟨0, [], [], w.alloc (.cells #[] 83), ⟨by omega, rfl⟩, ⟨by simp, by simp⟩, World.ownsRow_made w #[] 0 (Nat.le_refl _) (by simp [maxLen]) rfl, (Below.refl _ _).alloc (Nat.le_refl _) _, ?_, fun i x hx => by simp at hx, (Below.refl _ _).alloc (Nat.le_refl _) _, by show _ ∧ _; simp [linesP]⟩
    have := World.ownsRow_made (e := 93) (size := 5) (w.alloc (.cells #[] 83)) #[] (base := (w.alloc (.cells #[] 83)).heap.size) 0 (Nat.le_refl _) (by simp [maxLen]) (by simp)
    simpa [tokCells] using this
  case round =>
    obtain ⟨k, pre, cur, W0, ⟨hk, rfl⟩, ⟨hck, hpk⟩, hout, hb0, hown, HLn, hbw, HS⟩ := hrel
    have HB0 := Lib.hid hb0
    have HBw := Lib.hid (hbw.trans (hb0.mono hbw.size))
    have hsz0 := hb0.size
    have hszw := HBw.out.size
    have hwW := hbw.size
    have HO := Lib.hid hown
    have HOut := Lib.hid (own_below hout hb0)
    have HLr := Lib.hid (HLn.out.below hb0)
    have HOut0 := Lib.hid hout
    have HBW0 := Lib.hid hbw
    obtain ⟨Al, cl, rfl, hcl, _⟩ := Rd.of_own_cap hown
    obtain ⟨Ao, co, rfl, hco, _⟩ := Rd.of_own_cap hout
    clear hout hb0 hown hbw
    by_cases hlt : k < n
    · obtain ⟨b0, o0, t, hA, hbB, ht, c0, c1, c2, c3, c4⟩ := (HL.out.below HBw.out).tokAt hlt
      subst hA
      have HD := Lib.hid (tdrop_at ht)
      rw [HD.out, linesGo_cons] at HS
      clear ht
      obtain ⟨kind, text, num, at_, line⟩ := t
      simp only at c0 c1 c2 c3 c4
      by_cases h3 : kind = 3
      · subst h3
        rw [if_pos rfl] at HS
        obtain ⟨x, hx⟩ : ∃ x : SlV, x.1 = .slice Al cur.length cl := ⟨⟨.slice Al cur.length cl, _, _, _, rfl⟩, rfl⟩
        obtain ⟨hd1, hd2⟩ := drop_head HS.out.1
        have HS3 : Hid ((linesP l).drop (pre ++ [x]).length = linesGo (l.drop (k + 1)) [] ∧ (pre ++ [x]).length ≤ (linesP l).length) := by
          show _ ∧ _
          rw [List.length_append]
          exact ⟨hd2, (List.getElem?_eq_some_iff.1 hd1).1⟩
        have HL3 : Hid (LnsR l w.heap.size (pre ++ [x]) wr) := HLr.out.snoc hd1 (by rw [hx]; exact own_base HO.out hwW)
        have HXv : Hid ((pre ++ [x]).map (·.1) = pre.map (·.1) ++ [.slice Al cur.length cl]) := by show _ = _; rw [List.map_append, List.map_cons, hx]; rfl
        have RN : Hid (Rd (wr.alloc (.cells #[.slice Al cur.length cl] 83)) (wr.heap.size + 1) 1 (some ⟨wr.heap.size, 0, none⟩) 1 [.slice Al cur.length cl]) := Rd.newAt wr _ _ _ rfl (size := 1) (m := 1) rfl (by simp [maxLen])
        clear hd1 hd2 hx
        go_wp2_with (at_builtin; refine wpList_app _ (by rfl) (.tmp 20) (.tmp 22) 86 (by rfl) w.heap.size 83 i1 _ 1 24 Tryd.underlying86 hi1 hy0 hy1 hy2 rfl (by decide) (.slice Ao pre.length co) pre.length (pre.map (·.1)) (by rfl) (HOut.out.alloc _) (wr.heap.size + 1) (some ⟨wr.heap.size, 0, none⟩) 1 1 [.slice Al cur.length cl] (by rfl) RN.out (by intro u hu; simp at hu; subst hu; rfl) ?c4 ?c5 ?c6 ?_)
        case c4 => unfold maxLen; omega
        case c5 => omega
        case c6 => first | omega | (simp; omega) | (rw [World.size_alloc]; omega)
        intro v5 w5 hown5 hg5 _
        obtain ⟨A5, c5, hv5, _, _⟩ := Rd.of_own_cap hown5
        subst hv5
        rw [← HXv.out] at hown5
        have HO5 : Hid (w5.ownsRow w.heap.size 83 1 (.slice A5 (pre.length + 1) c5) (pre ++ [x]).length ((pre ++ [x]).map (·.1))) := by
          show World.ownsRow _ _ _ _ _ _ _
          rw [List.length_append]; exact hown5
        have HL5 : Hid (LnsR l w.heap.size (pre ++ [x]) w5) := (HL3.out.kept (World.grownBy_alloc wr _ none) (fun _ _ _ e => by cases e)).kept hg5 (fun g cs fz e hc => by
          obtain ⟨c2, fz2, h2⟩ := own_row (HOut.out.alloc _) e
          rw [h2] at hc; cases hc)
        have HB5 := Lib.hid (below_own (HBw.out.alloc hszw _) (HOut.out.alloc _) hg5 (Nat.le_refl _) (by simp; omega))
        clear hown5 hg5 RN
        go_wp2
        go_roundw
        case rel =>
          refine ⟨k + 1, pre ++ [x], [], w5, ⟨by omega, by go_num⟩, ⟨by simp, by simp; omega⟩, HO5.out, (Below.refl _ _).alloc (Nat.le_refl _) _, ?_, HL5, HB5.out, HS3⟩
          exact World.ownsRow_made w5 #[] 0 (Nat.le_refl _) (by simp [maxLen]) rfl
        case measure => simp [intOf]; omega
      · have hb3 : (kind == 3) = false := by simpa using h3
        rw [if_neg h3] at HS
        have RN : Hid (RdT (wr.alloc (.cells #[.int .i64 kind, .string text, .int .u64 num, .int .i64 at_, .int .i64 line] 93)) (wr.heap.size + 1) (some ⟨wr.heap.size, 0, none⟩) 1 [⟨kind, text, num, at_, line⟩]) := Rd.newAt wr _ _ _ rfl (size := 5) (m := 1) rfl (by simp [maxLen])
        go_wp2_with (at_builtin; refine wpList_app _ (by rfl) (.tmp 25) (.tmp 30) 83 (by rfl) W0.heap.size 93 i0 _ 5 48 Tryd.underlying83 hi0 hz0 hz1 hz2 rfl (by decide) (.slice Al cur.length cl) cur.length (tokCells cur) (by rfl) (HO.out.alloc _) (wr.heap.size + 1) (some ⟨wr.heap.size, 0, none⟩) 1 1 (tokCells [⟨kind, text, num, at_, line⟩]) (by rfl) RN.out (tokCells_one _) ?d4 ?d5 ?d6 ?_)
        case d4 => unfold maxLen; omega
        case d5 => omega
        case d6 => simp; omega
        intro v5 w5 hown5 hg5 _
        obtain ⟨A5, c5, hv5, _, _⟩ := Rd.of_own_cap hown5
        subst hv5
        rw [← tokCells_append] at hown5
        have HO5 : Hid (w5.ownsRow W0.heap.size 93 5 (.slice A5 (cur.length + 1) c5) (cur ++ [(⟨kind, text, num, at_, line⟩ : Tok)]).length (tokCells (cur ++ [(⟨kind, text, num, at_, line⟩ : Tok)]))) := by
          show World.ownsRow _ _ _ _ _ _ _
          rw [List.length_append]; exact hown5
        have HB5 := Lib.hid (below_own (HB0.out.alloc hsz0 _) (HO.out.alloc _) hg5 (Nat.le_refl _) (by simp; omega))
        clear hown5 hg5 RN
        go_wp2
        go_roundw
        case rel => exact ⟨k + 1, pre, _, W0, ⟨by omega, by go_num⟩, ⟨by simp; omega, by omega⟩, HOut0.out, HB5.out, HO5.out, HLn, HBW0.out, HS⟩
        case measure => simp [intOf]; omega
    · obtain rfl : n = k := by omega
      have hdd := HS.out
      rw [List.drop_of_length_le (l := l) (by rw [HLl.out]; exact Nat.le_refl _)] at hdd
      by_cases hc0 : 0 < cur.length
      · have hne : cur ≠ [] := by intro e; rw [e] at hc0; simp at hc0
        rw [linesGo, if_neg hne] at hdd
        obtain ⟨x, hx⟩ : ∃ x : SlV, x.1 = .slice Al cur.length cl := ⟨⟨.slice Al cur.length cl, _, _, _, rfl⟩, rfl⟩
        obtain ⟨hd1, hd2⟩ := drop_head hdd.1
        have HLe : Hid ((pre ++ [x]).length = (linesP l).length) := by
          show _ = _
          have h1 := (List.getElem?_eq_some_iff.1 hd1).1
          have h2 := congrArg List.length hd2
          rw [List.length_drop] at h2
          simp at h2 ⊢
          omega
        have HL3 : Hid (LnsR l w.heap.size (pre ++ [x]) wr) := HLr.out.snoc hd1 (by rw [hx]; exact own_base HO.out hwW)
        have HXv : Hid ((pre ++ [x]).map (·.1) = pre.map (·.1) ++ [.slice Al cur.length cl]) := by show _ = _; rw [List.map_append, List.map_cons, hx]; rfl
        have RN : Hid (Rd (wr.alloc (.cells #[.slice Al cur.length cl] 83)) (wr.heap.size + 1) 1 (some ⟨wr.heap.size, 0, none⟩) 1 [.slice Al cur.length cl]) := Rd.newAt wr _ _ _ rfl (size := 1) (m := 1) rfl (by simp [maxLen])
        clear hd1 hd2 hx hdd hne
        go_wp2_with (at_builtin; refine wpList_app _ (by rfl) (.tmp 35) (.tmp 37) 86 (by rfl) w.heap.size 83 i1 _ 1 24 Tryd.underlying86 hi1 hy0 hy1 hy2 rfl (by decide) (.slice Ao pre.length co) pre.length (pre.map (·.1)) (by rfl) (HOut.out.alloc _) (wr.heap.size + 1) (some ⟨wr.heap.size, 0, none⟩) 1 1 [.slice Al cur.length cl] (by rfl) RN.out (by intro u hu; simp at hu; subst hu; rfl) ?e4 ?e5 ?e6 ?_)
        case e4 => unfold maxLen; omega
        case e5 => omega
        case e6 => first | omega | (simp; omega) | (rw [World.size_alloc]; omega)
        intro v5 w5 hown5 hg5 _
        rw [← HXv.out] at hown5
        obtain ⟨A5, c5, hv5, _, hr5⟩ := Rd.of_own_cap hown5
        subst hv5
        have HR5 : Hid (Rd w5 w5.heap.size 1 A5 (pre ++ [x]).length ((pre ++ [x]).map (·.1))) := by
          show Rd _ _ _ _ _ _
          rw [List.length_append]; exact hr5
        have HL5 : Hid (LnsR l w.heap.size (pre ++ [x]) w5) := (HL3.out.kept (World.grownBy_alloc wr _ none) (fun _ _ _ e => by cases e)).kept hg5 (fun g cs fz e hc => by
          obtain ⟨c2, fz2, h2⟩ := own_row (HOut.out.alloc _) e
          rw [h2] at hc; cases hc)
        have HB5 := Lib.hid (below_own (HBw.out.alloc hszw _) (HOut.out.alloc _) hg5 (Nat.le_refl _) (by simp; omega))
        clear hown5 hg5 RN hr5
        go_wp2
        go_ret
        exact ⟨A5, c5, pre ++ [x], by rw [List.length_append]; rfl, HLe.out, HR5.out, HL5.out, HB5.out⟩
      · obtain rfl : cur = [] := by
          rcases cur with _ | ⟨a, r⟩
          · rfl
          · simp at hc0
        have HLe : Hid (pre.length = (linesP l).length) := by
          show _ = _
          have h1 := congrArg List.length hdd.1
          rw [linesGo, if_pos rfl, List.length_drop] at h1
          have h2 := hdd.2
          simp at h1
          omega
        obtain ⟨_, _, he9, _, hr9⟩ := Rd.of_own_cap HOut.out
        cases he9
        have HR9 := Lib.hid hr9
        clear hdd hr9
        go_wp2
        go_ret
        exact ⟨Ao, co, pre, rfl, HLe.out, HR9.out, HLr.out, HBw.out⟩
end Go.Proofs.YthdlihiehfkceaaDoor

namespace Go.Proofs.YthdlihiehfkceaaDoor
open Go.RowKit
set_option linter.unusedVariables false

theorem own_set {w : World} {base size n c g : Nat} {e : TypeId} {xs : List Value} (h : w.ownsRow base e size (.slice (some ⟨g, 0, none⟩) n c) n xs) {j : Nat} (u : Value) : (w.setCell ⟨g, j, none⟩ u).ownsRow base e size (.slice (some ⟨g, 0, none⟩) n c) n (xs.set j u) := by
  rcases h.2 with ⟨hv, _⟩ | ⟨g', cap, cur, hv, hb, hg, hnc, hcm, hcs, hx⟩
  · cases hv
  · cases hv
    refine ⟨by rw [List.length_set]; exact h.1, .inr ⟨g, c, cur.setIfInBounds j u, rfl, hb, Bk.set_ (show Bk w g e cur from hg) j u, hnc, hcm, by simpa using hcs, ?_⟩⟩
    rw [← hx, Array.toList_setIfInBounds, List.take_set]
theorem insCells_imm (a r : List Ins) (i : Ins) (q : Int) : (insCells (a ++ i :: r)).set (a.length * 5 + 4) (.int .u64 q) = insCells (a ++ { i with imm := q } :: r) := by
  rw [insCells_append, insCells_append, List.set_append_right _ _ (by rw [insCells_length]; omega), insCells_length, Nat.add_sub_cancel_left]
  rfl
theorem takeP_at (c : Nat) (t : Tok) (o : Ord) : (takeP c t o).1.at_ = o.at_ ∧ (takeP c t o).1.i.op = o.i.op := by
  unfold takeP
  simp only
  repeat' split
  all_goals exact ⟨rfl, rfl⟩
theorem takes_at : ∀ (f : List Nat) (l : List Tok) (o : Ord), (takes f l o).at_ = o.at_ ∧ (takes f l o).i.op = o.i.op
  | [], l, o => by rw [show takes [] l o = o from by cases l <;> rfl]; exact ⟨rfl, rfl⟩
  | c :: f, [], o => ⟨rfl, rfl⟩
  | c :: f, t :: l, o => by
    rw [takes]
    obtain ⟨h1, h2⟩ := takes_at f l (takeP c t o).1
    obtain ⟨h3, h4⟩ := takeP_at c t o
    exact ⟨h1.trans h3, h2.trans h4⟩
theorem regs_len {op : Nat} (hop : op < 22) {l : List Tok} (h : l.map clsT = (formP (op : Int)).map clsF) : (regsL l).length = ((formP (op : Int)).filter fun c => decide (c = 97 ∨ c = 98 ∨ c = 99)).length := by
  have gen : ∀ (f : List Nat) (l : List Tok), (∀ c ∈ f, (clsF c).1 = 0 ↔ (c = 97 ∨ c = 98 ∨ c = 99)) → l.map clsT = f.map clsF → (regsL l).length = (f.filter fun c => decide (c = 97 ∨ c = 98 ∨ c = 99)).length := by
    intro f
    induction f with
    | nil => intro l _ h; cases l with | nil => rfl | cons _ _ => simp at h
    | cons c f ih =>
      intro l hf h
      cases l with
      | nil => simp at h
      | cons t l =>
        simp only [List.map_cons, List.cons.injEq] at h
        have ih2 := ih l (fun d hd => hf d (by simp [hd])) h.2
        have hreg : (t.kind = 0 ∧ 0 ≤ regP t.text) ↔ (clsT t).1 = 0 := by
          constructor
          · rintro ⟨k0, hr⟩
            unfold clsT
            rw [if_neg (by omega), if_neg (by omega), if_pos k0]
            split
            · rename_i hk; have := key_reg hk; omega
            · first | rfl | rw [if_pos hr]
          · intro h0
            refine cls_reg (t := t) ?_
            unfold clsT at h0 ⊢
            split at h0
            · cases h0
            · split at h0
              · cases h0
              · split at h0
                · split at h0
                  · cases h0
                  · split at h0
                    · rename_i g1 g2 g3 g4 g5; rw [if_neg g1, if_neg g2, if_pos g3, if_neg g4, if_pos g5]
                    · cases h0
                · cases h0
        have hc := hf c (by simp)
        rw [← h.1] at hc
        unfold regsL at ih2 ⊢
        rw [List.filterMap_cons, List.filter_cons]
        by_cases hcc : c = 97 ∨ c = 98 ∨ c = 99
        · rw [if_pos (hreg.2 (hc.2 hcc)), if_pos (by simpa using hcc)]
          simp only [List.length_cons]
          rw [ih2]
        · rw [if_neg (fun e => hcc (hc.1 (hreg.1 e))), if_neg (by simpa using hcc)]
          simp only
          rw [ih2]
  have hc : ∀ op : Fin 22, ∀ c ∈ formP (op.val : Nat), (clsF c).1 = 0 ↔ (c = 97 ∨ c = 98 ∨ c = 99) := by decide +kernel
  exact gen _ l (hc ⟨op, hop⟩) h
theorem form_regs : ∀ op : Fin 22, ((formP (op.val : Nat)).filter fun c => decide (c = 97 ∨ c = 98 ∨ c = 99)).length ≤ 3 ∧ (op.val = 10 ∨ op.val = 13 → ((formP (op.val : Nat)).filter fun c => decide (c = 97 ∨ c = 98 ∨ c = 99)).length = 2) ∧ (op.val = 14 → ((formP (op.val : Nat)).filter fun c => decide (c = 97 ∨ c = 98 ∨ c = 99)).length = 3) := by decide +kernel
/-- What the reference sees of a line. -/
inductive Seen (ln : List Tok) : Prop where
  | mark (x y : Tok) (h1 : ln = [x, y]) (h2 : shapeP ln = colonS) (h3 : parseP ln = some (.mark x.text x.at_))
  | none (h1 : shapeP ln ≠ colonS) (h2 : kindP (shapeP ln) = -1) (h3 : parseP ln = none)
  | order (op : Nat) (o : Ord) (hop : op < 22) (h1 : shapeP ln ≠ colonS) (h2 : kindP (shapeP ln) = (op : Int)) (h3 : parseP ln = some (.order o)) (h4 : o.i = lineL (op : Int) ln) (h5 : goesP o.i.op = true → o.name = finT ln) (h6 : o.at_ = (ln.head?.map Tok.at_).getD 0) (h7 : (regsL ln).length ≤ 3 ∧ ((op = 10 ∨ op = 13 → (regsL ln).length = 2) ∧ (op = 14 → (regsL ln).length = 3))) (h8 : o.i.op = (op : Int))
theorem seen_of {ln : List Tok} (hl : LineOk ln) : Seen ln := by
  by_cases hc : shapeP ln = colonS
  · have h := (colon_is hl).1 hc
    have hm := (mark_cls ln).2 h
    obtain ⟨x, y, rfl, _, _⟩ := len2 h
    cases hq : isMark [x, y] with
    | none => rw [hq] at hm; cases hm
    | some z =>
      have hz : z = (x.text, x.at_) := by
        have h2 : (if x.kind = 0 ∧ freeP x.text = true ∧ y.kind = 2 ∧ y.text = ⟨#[58]⟩ then some (x.text, x.at_) else none) = some z := hq
        split at h2
        · injection h2 with h2; exact h2.symm
        · cases h2
      subst hz
      refine .mark x y rfl hc ?_
      unfold parseP
      rw [hq]
  · have hnm : isMark ln = none := by
      cases hq : isMark ln with
      | none => rfl
      | some z => exact absurd ((colon_is hl).2 ((mark_cls ln).1 (by rw [hq]; rfl))) hc
    rcases kindGo_out (s := shapeP ln) (f := 22) (k := 0) with ⟨h1, h2⟩ | ⟨op, _, h2, h3, h4⟩
    · refine .none hc h1 ?_
      unfold parseP
      rw [hnm]
      simp only
      rw [ops_none ln (fun op hop e => h2 op (by omega) (by omega) ((kind_is hl hop).2 e)) 22 0 (by omega)]
      rfl
    · have hop : op < 22 := by omega
      have hcl := (kind_is hl hop).1 h3
      have hp := parse_cls hop hcl
      obtain ⟨k1, k2⟩ := takes_line_ref hop hcl
      obtain ⟨k3, k4⟩ := takes_at (formP (op : Int)) ln (ord0 (op : Int) ln)
      have k5 := regs_len hop hcl
      obtain ⟨k6, k7, k8⟩ := form_regs ⟨op, hop⟩
      simp only at k6 k7 k8
      refine .order op _ hop hc h4 hp k1 (fun e => k2 (by rw [k4] at e; exact e)) k3 ⟨by rw [k5]; exact k6, fun e => by rw [k5]; exact k7 e, fun e => by rw [k5]; exact k8 e⟩ k4
theorem findGo_is (p : Prg) (s : ByteArray) : findGoL s p.labels = match p.find s with | some q => (q : Int) | none => -1 := by
  unfold Prg.find
  have gen : ∀ L : List (ByteArray × Nat), findGoL s L = match (L.find? fun x => decide (x.1 = s)).map Prod.snd with | some q => (q : Int) | none => -1 := by
    intro L
    induction L with
    | nil => rfl
    | cons x L ih =>
      rw [findGoL, List.find?_cons]
      by_cases h : x.1 = s
      · rw [if_pos h, decide_eq_true h]; rfl
      · rw [if_neg h, decide_eq_false h]; exact ih
  exact gen p.labels
end Go.Proofs.YthdlihiehfkceaaDoor
