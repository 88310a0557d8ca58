/-
  Chapter 3: the walk of InstrCodes.
-/
import Derived.Test.YtkkbgpfimapnoaaLaw3A
import Derived.Deep.RegionLaw
import Derived.Deep.DeepCutAuto
namespace Go.Proofs.Ytkkbgpfimapnoaa
open Go.RowKit
set_option linter.unusedVariables false

theorem encPost_zero {l : List Ins} {w w' : World} {e : Ending} (h : EncPost l w e w') (hz : encCode l ≠ 0) :
    ∃ v A c, e = .returned (.tuple #[v, .int .i64 (encCode l)]) ∧ v = .slice A 0 c ∧ Below w.heap.size w w' := by
  obtain ⟨v, m, he, hown, hb⟩ := h
  rw [encBytes, if_neg hz] at hown
  have hm : m = 0 := by have := hown.1; simp [byt] at this; omega
  subst hm
  obtain ⟨A, c, hv, _⟩ := Rd.of_own hown
  exact ⟨v, A, c, he, hv, hb⟩
theorem encPost_good {l : List Ins} {w w' : World} {e : Ending} (h : EncPost l w e w') (hz : encCode l = 0) :
    ∃ A c, e = .returned (.tuple #[.slice A (4 + 12 * l.length) c, .int .i64 0]) ∧ (4 + 12 * l.length) ≤ c ∧ RdB w' w'.heap.size A (4 + 12 * l.length) (progB l) ∧ Below w.heap.size w w' := by
  obtain ⟨v, m, he, hown, hb⟩ := h
  rw [encBytes, if_pos hz] at hown
  have hm : m = 4 + 12 * l.length := by
    have := hown.1
    rw [byt_length, progB, List.length_append, List.length_append, numL_length, bodyB_length] at this
    simp at this; omega
  subst hm
  obtain ⟨A, c, rfl, hc, hr⟩ := Rd.of_own_cap hown
  rw [hz] at he
  exact ⟨A, c, he, hc, hr, hb⟩
theorem decPost_rd {bs : List Int} {w w' : World} {e : Ending} (h : DecPost bs w e w') :
    ∃ A c, e = .returned (.tuple #[.slice A (decIns bs).length c, .int .i64 (decCode bs)]) ∧ (decIns bs).length ≤ c ∧ RdI w' w'.heap.size A (decIns bs).length (decIns bs) ∧ Below w.heap.size w w' := by
  obtain ⟨v, he, hown, hb⟩ := h
  obtain ⟨A, c, rfl, hc, hr⟩ := Rd.of_own_cap hown
  exact ⟨A, c, he, hc, hr, hb⟩

set_option maxHeartbeats 4000000 in
theorem codes_main (l : List Ins) (A : Option Addr) (n c : Nat) (bs : List Int) (A' : Option Addr) (m c' : Nat) (w : World)
    (hr : RdI w w.heap.size A n l) (hok : ∀ i ∈ l, i.Ok) (hr' : RdB w w.heap.size A' m bs) (hy : Byts bs) (hc' : m ≤ c')
    (hn : n ≤ 40 ∨ (256 < n ∧ n ≤ 260)) (hm : m ≤ 600) :
    Calls Try.prog 3 #[.slice A n c, .slice A' m c'] w fun e w' => e = .returned (.bool true) ∧ Below w.heap.size w w' := by
  have HL := Lib.hid hr.insLen
  have HR := Lib.hid hr
  have HR' := Lib.hid hr'
  have HK := Lib.hid hok
  have HY := Lib.hid hy
  have HC : Hid (encCode l = if 256 < l.length then 3 else if l.all Ins.plain then 0 else 30) := rfl
  clear hr hr' hok hy
  go_enter Try.func3, Try.ntmps3
  go_wp2_with fail
  refine (alive_any _).mono ?_
  rintro e w1 ⟨rfl, hb1⟩
  have HB1 := Lib.hid hb1
  clear hb1
  by_cases hz : encCode l = 0
  · have hn40 : n ≤ 40 := by
      rcases hn with h | h
      · exact h
      · have e := HC.out
        rw [if_pos (by rw [HL.out]; omega)] at e
        omega
    have HZ := Lib.hid hz
    have HP : Hid (l.all Ins.plain = true) := by
      have e := HC.out
      rw [if_neg (by rw [HL.out]; omega), hz] at e
      cases hp : l.all Ins.plain
      · rw [hp] at e; simp at e
      · rfl
    clear hn hz
    go_wp2_with fail
    refine (encode_any l A n c _ ((HR.out.below HB1.out).more HB1.out.size) HK.out).mono ?_
    intro e w2 he
    obtain ⟨A2, c2, rfl, hc2, r2, hb2⟩ := encPost_good he HZ.out
    rw [HL.out] at r2 hc2 ⊢
    have HB2 := Lib.hid (HB1.out.trans (hb2.mono HB1.out.size))
    have R2 := Lib.hid r2
    clear he r2 hb2
    go_wp2_with fail
    refine (check_any l A n c _ ((HR.out.below HB2.out).more HB2.out.size)).mono ?_
    rintro e w3 ⟨rfl, hb3⟩
    have HB3 := Lib.hid (HB2.out.trans (hb3.mono HB2.out.size))
    have R3 := Lib.hid (R2.out.below hb3)
    have hz23 := hb3.size
    clear hb3
    rw [← HC.out, HZ.out]
    have hcv := conv_str (P := Try.prog) (c := c2) 23 9 5 Try.underlying23 Try.underlying5 Try.underlying9 R3.out
    have hcvd : (convert 23 9 (.slice A2 (4 + 12 * n) c2)).run Try.prog w3.drew = .ok (.string (strOfNums (progB l))) w3.drew := conv_str 23 9 5 Try.underlying23 Try.underlying5 Try.underlying9 R3.out.drew
    have hn256 : n ≤ 256 := by omega
    have HRb : Hid (RdI w3.drew w3.drew.heap.size A n l) := ((HR.out.below HB3.out).more HB3.out.size).drew
    go_upto_region 10 with fail
    go_cut [58] (fun s58 wx => s58 = .bool false ∧ Hid (Below w.heap.size w wx))
    case first =>
      go_region_law (
         go_simp
         go_at_call 16
         refine (bytes_any l A n c _ HRb.out HP.out HK.out hn256).mono ?_
         rintro e w4 ⟨v4, rfl, hown4, hb4⟩
         obtain ⟨A4, c4, rfl, hc4, r4⟩ := Rd.of_own_cap hown4
         have hcv4 : (convert 23 9 (.slice A2 (4 + 12 * n) c2)).run Try.prog w4 = .ok (.string (strOfNums (progB l))) w4 := conv_str 23 9 5 Try.underlying23 Try.underlying5 Try.underlying9 (R3.out.drew.below (hb4.mono hz23))
         have hcv5 : (convert 23 9 (.slice A4 (4 + 12 * n) c4)).run Try.prog w4 = .ok (.string (strOfNums (progB l))) w4 := conv_str 23 9 5 Try.underlying23 Try.underlying5 Try.underlying9 r4
         have HB4 := Lib.hid (HB3.out.drew.trans (hb4.mono HB3.out.size))
         clear hown4 hb4 r4)
      all_goals
        go_wp2_with fail
        go_meet
        exact ⟨rfl, HB4⟩
    case rest =>
      obtain ⟨rfl, HB4⟩ := hcut
      go_wp2_with fail
      refine (decode_any bs A' m c' _ ((HR'.out.below HB4.out).more HB4.out.size) HY.out hc').mono ?_
      intro e w5 he
      obtain ⟨A5, c5, rfl, hc5, r5, hb5⟩ := decPost_rd he
      have HB5 := Lib.hid (HB4.out.trans (hb5.mono HB4.out.size))
      have R5 := Lib.hid r5
      clear he r5 hb5
      go_wp2_with fail
      refine (rdecode_any bs A' m c' _ ((HR'.out.below HB5.out).more HB5.out.size) HY.out hc').mono ?_
      intro e w6 he
      obtain ⟨A6, c6, rfl, hc6, r6, hb6⟩ := decPost_rd he
      have HB6 := Lib.hid (HB5.out.trans (hb6.mono HB5.out.size))
      have R5b := Lib.hid ((R5.out.below hb6).more hb6.size)
      have R6 := Lib.hid r6
      clear he r6 hb6
      go_wp2_with fail
      refine (same_any _ _ _ _ _ _ _ _ _ R5b.out R6.out).mono ?_
      rintro e w7 ⟨rfl, hb7⟩
      have HB7 := Lib.hid (HB6.out.trans (hb7.mono HB6.out.size))
      clear hb7
      rw [decide_eq_true rfl]
      go_wp2
      go_ret
      exact ⟨rfl, HB7.out⟩
  · have HZ := Lib.hid hz
    have hzv : encCode l = 3 ∨ encCode l = 30 := by
      have e := HC.out
      split at e
      · exact .inl e
      · split at e
        · exact absurd e hz
        · exact .inr e
    clear hz
    rcases hn with hn | ⟨hn, hn2⟩
    all_goals
      go_wp2_with fail
      refine (encode_any l A n c _ ((HR.out.below HB1.out).more HB1.out.size) HK.out).mono ?_
      intro e w2 he
      obtain ⟨v2, A2, c2, rfl, rfl, hb2⟩ := encPost_zero he HZ.out
      have HB2 := Lib.hid (HB1.out.trans (hb2.mono HB1.out.size))
      clear he hb2
      go_wp2_with fail
      refine (check_any l A n c _ ((HR.out.below HB2.out).more HB2.out.size)).mono ?_
      rintro e w3 ⟨rfl, hb3⟩
      have HB3 := Lib.hid (HB2.out.trans (hb3.mono HB2.out.size))
      clear hb3
      rw [← HC.out]
    all_goals
      rcases hzv with hzv | hzv
    all_goals
      rw [hzv]
      clear hzv HZ
      go_wp2_with fail
      refine (decode_any bs A' m c' _ ((HR'.out.below HB3.out).more HB3.out.size) HY.out hc').mono ?_
      intro e w5 he
      obtain ⟨A5, c5, rfl, hc5, r5, hb5⟩ := decPost_rd he
      have HB5 := Lib.hid (HB3.out.trans (hb5.mono HB3.out.size))
      have R5 := Lib.hid r5
      clear he r5 hb5
      go_wp2_with fail
      refine (rdecode_any bs A' m c' _ ((HR'.out.below HB5.out).more HB5.out.size) HY.out hc').mono ?_
      intro e w6 he
      obtain ⟨A6, c6, rfl, hc6, r6, hb6⟩ := decPost_rd he
      have HB6 := Lib.hid (HB5.out.trans (hb6.mono HB5.out.size))
      have R5b := Lib.hid ((R5.out.below hb6).more hb6.size)
      have R6 := Lib.hid r6
      clear he r6 hb6
      go_wp2_with fail
      refine (same_any _ _ _ _ _ _ _ _ _ R5b.out R6.out).mono ?_
      rintro e w7 ⟨rfl, hb7⟩
      have HB7 := Lib.hid (HB6.out.trans (hb7.mono HB6.out.size))
      clear hb7
      rw [decide_eq_true rfl]
      go_wp2
      go_ret
      exact ⟨rfl, HB7.out⟩

theorem codes_walk (l : List Ins) (A : Option Addr) (n c : Nat) (bs : List Int) (A' : Option Addr) (m c' : Nat) (w : World)
    (hr : RdI w w.heap.size A n l) (hok : ∀ i ∈ l, i.Ok) (_ : n ≤ c) (hr' : RdB w w.heap.size A' m bs) (hy : Byts bs) (hc' : m ≤ c') :
    Calls Try.prog 3 #[.slice A n c, .slice A' m c'] w fun e w' => e = .returned (.bool true) ∧ Below w.heap.size w w' := by
  by_cases h : (n ≤ 40 ∨ (256 < n ∧ n ≤ 260)) ∧ m ≤ 600
  · exact codes_main l A n c bs A' m c' w hr hok hr' hy hc' h.1 h.2
  · have h63 := hr.le
    have h63' := hr'.le
    unfold maxLen at h63 h63'
    have h2 : (40 < n ∧ n ≤ 256) ∨ (n ≤ 40 ∧ 600 < m) ∨ (256 < n ∧ n ≤ 260 ∧ 600 < m) ∨ 260 < n := by omega
    clear h hr hok hr' hy
    rcases h2 with ⟨h1, h2⟩ | ⟨h1, h2⟩ | ⟨h1, h2, h3⟩ | h1
    all_goals
      go_enter Try.func3, Try.ntmps3
      go_wp2_with fail
      refine (alive_any _).mono ?_
      rintro e w1 ⟨rfl, hb1⟩
      have HB1 := Lib.hid hb1
      clear hb1
      go_wp2
      go_ret
      exact ⟨rfl, HB1.out⟩
end Go.Proofs.Ytkkbgpfimapnoaa
