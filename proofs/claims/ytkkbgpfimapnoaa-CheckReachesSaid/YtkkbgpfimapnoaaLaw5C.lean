/-
  Chapter 5: the walk of CheckReaches.
-/
import Derived.Test.YtkkbgpfimapnoaaLaw5A
namespace Go.Proofs.Ytkkbgpfimapnoaa
open Go.RowKit
set_option linter.unusedVariables false

set_option maxHeartbeats 4000000 in
theorem reaches_walk (l : List Ins) (A : Option Addr) (n c : Nat) (w : World) (hr : RdI w w.heap.size A n l) (hok : ∀ i ∈ l, i.Ok) (hc : n ≤ c) :
    Calls Try.prog 9 #[.slice A n c] w fun e w' => e = .returned (.bool true) ∧ Below w.heap.size w w' := by
  have h63 := hr.le
  unfold maxLen at h63
  have HL := Lib.hid hr.insLen
  have HR := Lib.hid hr
  have HK := Lib.hid hok
  clear hr hok
  go_enter Try.func9, Try.ntmps9
  go_wp2_with fail
  refine (alive5_any _).mono ?_
  rintro e w1 ⟨rfl, hb1⟩
  have HB1 := Lib.hid hb1
  clear hb1
  by_cases h25 : 25 < n
  · go_wp2
    go_ret
    exact ⟨rfl, HB1.out⟩
  go_wp2_with fail
  refine (reach_any l A n c _ ((HR.out.below HB1.out).more HB1.out.size) HK.out).mono ?_
  rintro e w2 ⟨v, M, rfl, hown, hb2, hM⟩
  obtain ⟨m, hm⟩ : ∃ m, M.length = m := ⟨_, rfl⟩
  rw [hm] at hown
  obtain ⟨A2, c2, rfl, r2⟩ := Rd.of_own hown
  have HB2 := Lib.hid (HB1.out.trans (hb2.mono HB1.out.size))
  have R2 := Lib.hid r2
  have HM := Lib.hid hM
  have Hm := Lib.hid hm
  have hm63 := r2.le
  unfold maxLen at hm63
  clear hb2 hown r2 hM hm
  go_wp2_with fail
  refine (longest_any l A n c _ ((HR.out.below HB2.out).more HB2.out.size) HK.out).mono ?_
  rintro e w3 ⟨x, b, rfl, hb3, hl⟩
  have HB3 := Lib.hid (HB2.out.trans (hb3.mono HB2.out.size))
  have R3 := Lib.hid ((R2.out.below hb3).more hb3.size)
  have HLo := Lib.hid hl
  clear hb3 hl
  go_wp2_with fail
  refine (rright_any l A n c _ ((HR.out.below HB3.out).more HB3.out.size) HK.out).mono ?_
  rintro e w4 ⟨rfl, hb4⟩
  have HB4 := Lib.hid (HB3.out.trans (hb4.mono HB3.out.size))
  have R4 := Lib.hid ((R3.out.below hb4).more hb4.size)
  clear hb4
  cases hp : rightP l
  · have hM := HM.out
    have hLo := HLo.out
    rw [if_neg (by rw [hp]; simp)] at hM hLo
    obtain ⟨rfl, rfl⟩ := hLo
    have hm := Hm.out
    rw [hM] at hm
    simp at hm
    subst hm
    clear hp hM
    go_wp2
    go_ret
    exact ⟨rfl, HB4.out⟩
  · have HP := Lib.hid hp
    have hM := HM.out
    have hLo := HLo.out
    rw [if_pos HP.out] at hM hLo
    have hmn : m = n := by rw [← Hm.out, hM.len]; exact HL.out
    have HM' := Lib.hid hM
    have HLo' := Lib.hid hLo
    subst hmn
    clear hp hM hLo HM HLo
    go_wp2_with fail
    refine (rreach_any l A m c _ ((HR.out.below HB4.out).more HB4.out.size) HK.out HP.out).mono ?_
    rintro e w5 ⟨v5, M5, rfl, hown, hb5, hM5⟩
    obtain rfl := hM5.unique HM'.out
    rw [Hm.out] at hown
    obtain ⟨A5, c5, rfl, r5⟩ := Rd.of_own hown
    have HB5 := Lib.hid (HB4.out.trans (hb5.mono HB4.out.size))
    have R5 := Lib.hid r5
    have R5' := Lib.hid ((R4.out.below hb5).more hb5.size)
    clear hb5 hown r5 hM5
    go_wp2_with fail
    refine (rlongest_any l A m c _ ((HR.out.below HB5.out).more HB5.out.size) HK.out HP.out).mono ?_
    rintro e w6 ⟨x6, b6, rfl, hb6, hl6⟩
    have h0 : 0 < l.length := (right_parts HP.out).1
    obtain ⟨rfl, rfl⟩ := hl6.unique h0 HLo'.out
    have HB6 := Lib.hid (HB5.out.trans (hb6.mono HB5.out.size))
    have R6 := Lib.hid ((R5.out.below hb6).more hb6.size)
    have R6' := Lib.hid ((R5'.out.below hb6).more hb6.size)
    clear hb6 h0 hl6
    go_wp2
    go_loopw [61, 9, 10] (fun t _u _v wr => ∃ k : Nat, k ≤ m ∧ t = .int .i64 k ∧ wr = w6) (fun t _ _ _ => m - (intOf t).toNat)
    case atStart => exact ⟨0, by omega, rfl, rfl⟩
    case round =>
      obtain ⟨k, hk, rfl, rfl⟩ := hrel
      by_cases hlt : k < m
      · obtain ⟨b5, o5, e5, _⟩ := R6.out.addr (by omega)
        subst e5
        obtain ⟨b4, o4, e4, _⟩ := R6'.out.addr (by omega)
        subst e4
        have ck := rd_bool R6.out hlt
        have ck' := rd_bool R6'.out hlt
        generalize M5.getD k false = y at ck ck'
        go_wp2
        go_roundw
        case rel => exact ⟨k + 1, by omega, by go_num, trivial⟩
        case measure => simp [intOf]; omega
      · obtain rfl : m = k := by omega
        go_wp2
        go_ret
        exact ⟨rfl, HB6.out⟩
end Go.Proofs.Ytkkbgpfimapnoaa
