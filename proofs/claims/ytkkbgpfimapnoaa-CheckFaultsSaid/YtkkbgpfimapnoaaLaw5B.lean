/-
  Chapter 5: the walk of CheckFaults.
-/
import Derived.Test.YtkkbgpfimapnoaaLaw5A
namespace Go.Proofs.Ytkkbgpfimapnoaa
open Go.RowKit
set_option linter.unusedVariables false

theorem rightP_eq (l : List Ins) : rightP l = ((faultP l).2 == 0) := by
  rw [rightP, Bool.eq_iff_iff]; simp

set_option maxHeartbeats 4000000 in
theorem faults_walk (l : List Ins) (A : Option Addr) (n c : Nat) (op : Int) (w : World) (hr : RdI w w.heap.size A n l) (hok : ∀ i ∈ l, i.Ok) (hc : n ≤ c) (_ : -9223372036854775808 ≤ op ∧ op ≤ 9223372036854775807) :
    Calls Try.prog 8 #[.slice A n c, .int .i64 op] w fun e w' => e = .returned (.bool true) ∧ Below w.heap.size w w' := by
  have h63 := hr.le
  unfold maxLen at h63
  have HR := Lib.hid hr
  have HK := Lib.hid hok
  clear hr hok
  go_enter Try.func8, Try.ntmps8
  go_wp2_with fail
  refine (alive5_any _).mono ?_
  rintro e w1 ⟨rfl, hb1⟩
  have HB1 := Lib.hid hb1
  clear hb1
  have hsplit : (40 < n ∧ n ≤ 256) ∨ 260 < n ∨ (n ≤ 40 ∧ n ≤ 260) ∨ (256 < n ∧ n ≤ 260) := by omega
  rcases hsplit with ⟨h1, h2⟩ | h1 | ⟨h1, h2⟩ | ⟨h1, h2⟩
  · go_wp2
    go_ret
    exact ⟨rfl, HB1.out⟩
  · go_wp2
    go_ret
    exact ⟨rfl, HB1.out⟩
  all_goals
    go_wp2_with fail
    refine (fault_any l A n c _ ((HR.out.below HB1.out).more HB1.out.size) HK.out).mono ?_
    rintro e w2 ⟨rfl, hb2⟩
    have HB2 := Lib.hid (HB1.out.trans (hb2.mono HB1.out.size))
    clear hb2
    have HE := Lib.hid (rightP_eq l)
    obtain ⟨x, hx⟩ : ∃ x, (faultP l).1 = x := ⟨_, rfl⟩
    obtain ⟨y, hy⟩ : ∃ y, (faultP l).2 = y := ⟨_, rfl⟩
    rw [hy] at HE
    rw [hx, hy]
    have HX := Lib.hid hx
    have HY := Lib.hid hy
    clear hx hy
    go_wp2_with fail
    refine (rfault_any l A n c _ ((HR.out.below HB2.out).more HB2.out.size) HK.out).mono ?_
    rintro e w3 ⟨rfl, hb3⟩
    have HB3 := Lib.hid (HB2.out.trans (hb3.mono HB2.out.size))
    clear hb3
    rw [HX.out, HY.out]
    go_wp2_with fail
    refine (right_any l A n c _ ((HR.out.below HB3.out).more HB3.out.size) HK.out).mono ?_
    rintro e w4 ⟨rfl, hb4⟩
    have HB4 := Lib.hid (HB3.out.trans (hb4.mono HB3.out.size))
    clear hb4
    rw [HE.out]
    go_wp2_with fail
    refine (reads_any l A n c _ ((HR.out.below HB4.out).more HB4.out.size) HK.out).mono ?_
    rintro e w5 ⟨rfl, hb5⟩
    have HB5 := Lib.hid (HB4.out.trans (hb5.mono HB4.out.size))
    clear hb5
    go_wp2_with fail
    refine (rreads_any l A n c _ ((HR.out.below HB5.out).more HB5.out.size) HK.out).mono ?_
    rintro e w6 ⟨rfl, hb6⟩
    have HB6 := Lib.hid (HB5.out.trans (hb6.mono HB5.out.size))
    clear hb6
    go_wp2_with fail
    refine (costs_any _ _).mono ?_
    rintro e w7 ⟨rfl, rfl⟩
    go_wp2_with fail
    refine (writes_any _ _).mono ?_
    rintro e w8 ⟨rfl, rfl⟩
    go_wp2
    go_ret
    exact ⟨rfl, HB6.out⟩
end Go.Proofs.Ytkkbgpfimapnoaa
