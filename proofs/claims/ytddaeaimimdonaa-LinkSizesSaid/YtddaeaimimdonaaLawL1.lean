/-
  Chapter 19: the walk of LinkSizes.
-/
import Derived.Test.YtddaeaimimdonaaLkH
import Derived.Test.YtddaeaimimdonaaLawL1P
import Derived.Test.YtddaeaimimdonaaCtrH
import Derived.Deep.RegionLaw
namespace Go.Proofs.Ytddaeaimimdonaa
open Go.RowKit Go.Maps
set_option linter.unusedVariables false

theorem i64_and3 (n : Int) : bits .and .i64 n 3 = n % 4 := by
  have h3 : (BitVec.ofInt 64 3).toNat = 2 ^ 2 - 1 := by decide
  have key : (BitVec.ofInt 64 n &&& BitVec.ofInt 64 3).toNat = (n % ((2 ^ 64 : Nat) : Int)).toNat % 2 ^ 2 := by
    rw [BitVec.toNat_and, BitVec.toNat_ofInt, h3, Nat.and_two_pow_sub_one_eq_mod]
  show IntKind.i64.wrap ((BitVec.ofInt 64 n &&& BitVec.ofInt 64 3).toNat : Nat) = n % 4
  rw [key, IntKind.wrap_i64]
  omega
theorem joinL_fail {l : List Prt} {L : List Ins} {x : Int} (h : joinL l = (L, x)) (hx : x ≠ 0) : L = [] := by
  unfold joinL at h
  split at h
  · injection h with h _; exact h.symm
  split at h
  · injection h with h _; exact h.symm
  split at h
  · injection h with h _; exact h.symm
  split at h
  · injection h with h _; exact h.symm
  injection h with _ h
  exact absurd h.symm hx
set_option maxRecDepth 100000 in
set_option maxHeartbeats 8000000 in
theorem sizes_walk (l : List Prt) (A : Option Addr) (n c : Nat) (cut : Int) (w : World) (hl : RdP w w.heap.size A n l) (hcap : n ≤ c) (hcut : -9223372036854775808 ≤ cut ∧ cut ≤ 9223372036854775807) :
    Calls Try.prog 10 #[.slice A n c, .int .i64 cut] w fun e w' => e = .returned (.bool true) ∧ Below w.heap.size w w' := by
  have HL := Lib.hid hl
  clear hl
  go_enter Try.func10, Try.ntmps10
  go_wp2_with fail
  refine (alive19_any _).mono ?_
  rintro e W1 ⟨rfl, hb1⟩
  have HB1 := Lib.hid hb1
  clear hb1
  go_wp2_with fail
  refine (lfew_any l A n c _ ((HL.out.below HB1.out).more HB1.out.size)).mono ?_
  rintro e W2 ⟨rfl, hb2⟩
  have HB2 := Lib.hid (HB1.out.trans (hb2.mono HB1.out.size))
  clear hb2
  cases hfew : fewL l
  · go_wp2
    go_ret
    exact ⟨rfl, HB2.out⟩
  by_cases hn0 : n = 0
  · have hn0i : ((n : Int) == 0) = true := by simp [hn0]
    go_wp2
    go_ret
    exact ⟨rfl, HB2.out⟩
  have hn0i : ((n : Int) == 0) = false := by simpa using hn0
  clear hfew
  go_upto_region 6 with fail
  obtain ⟨m, hm, hm1, hmn⟩ : ∃ m : Nat, wrap64 (1 + (bits BinOp.and IntKind.i64 cut 3).tmod (n : Int)) = (m : Int) ∧ 1 ≤ m ∧ m ≤ n := by
    rw [i64_and3]
    have h0 : 0 ≤ (cut % 4).tmod (n : Int) := Int.tmod_nonneg _ (by omega)
    have h1 : (cut % 4).tmod (n : Int) < n := Int.tmod_lt_of_pos _ (by omega)
    have h63 := HL.out.rd.le
    unfold maxLen at h63
    obtain ⟨t, ht⟩ : ∃ t, (cut % 4).tmod (n : Int) = t := ⟨_, rfl⟩
    rw [ht] at h0 h1 ⊢
    refine ⟨(1 + t).toNat, ?_, by omega, by omega⟩
    rw [IntWalk.wrap64_in _ (by omega)]
    omega
  rw [hm]
  have hmni : (m : Int) ≤ (n : Int) := by omega
  have hmci : (m : Int) ≤ (c : Int) := by omega
  have HL2 := Lib.hid ((HL.out.below HB2.out).more HB2.out.size)
  obtain ⟨L, x, hj⟩ : ∃ L x, joinL l = (L, x) := ⟨_, _, rfl⟩
  have HJ := Lib.hid hj
  clear hj hm
  go_wp2_with fail
  refine (join_is (m := L.length) HJ.out rfl HL2.out).mono ?_
  rintro e W3 ⟨v, rfl, hown, hb3⟩
  obtain ⟨Aj, cj, rfl, hcj, hrj⟩ := Rd.of_own_cap hown
  have HB3 := Lib.hid (HB2.out.trans (hb3.mono HB2.out.size))
  have HL3 := Lib.hid ((HL2.out.below hb3).more hb3.size)
  have HR3 := Lib.hid (show RdI W3 W3.heap.size Aj L.length L from hrj)
  clear hown hb3 hrj
  obtain ⟨S, y, hs⟩ : ∃ S y, joinL (l.take m) = (S, y) := ⟨_, _, rfl⟩
  have HS := Lib.hid hs
  clear hs
  go_wp2_with fail
  rw [show (min (m : Int) (n : Int)).toNat = m by rw [Int.min_eq_left hmni]; rfl]
  refine (join_is (m := S.length) HS.out rfl (HL3.out.first hmn)).mono ?_
  rintro e W4 ⟨v, rfl, hown, hb4⟩
  obtain ⟨As, cs, rfl, hcs, hrs⟩ := Rd.of_own_cap hown
  have HB4 := Lib.hid (HB3.out.trans (hb4.mono HB3.out.size))
  have HR4 := Lib.hid ((HR3.out.below hb4).more hb4.size)
  have HS4 := Lib.hid (show RdI W4 W4.heap.size As S.length S from hrs)
  clear hown hb4 hrs
  by_cases hx : x = 0
  · subst hx
    obtain ⟨S', hS'⟩ := joins_first HJ.out hm1 (by rw [HL.out.len]; exact hmn)
    have he := HS.out.symm.trans hS'.some
    injection he with he1 he2
    subst he1 he2
    have hle := hS'.le
    obtain ⟨p, hp⟩ : ∃ p, S.length = p + 1 := ⟨S.length - 1, by have := hS'.one; omega⟩
    have hsame := hS'.same
    rw [hp, Nat.add_sub_cancel] at hsame
    have HSame := Lib.hid hsame
    rw [hp] at HS4 hcs hle ⊢
    obtain ⟨q, hq⟩ : ∃ q, L.length = q := ⟨_, rfl⟩
    rw [hq] at HR4 hcj hle ⊢
    have h1i : ¬ ((q : Int) < (p : Int) + 1) := by omega
    have h2i : (p : Int) ≤ (cj : Int) := by omega
    have h3i : (p : Int) ≤ (cs : Int) := by omega
    have HA := Lib.hid (rdI_first HR4.out (show p ≤ q by omega))
    have HC := Lib.hid (rdI_first HS4.out (show p ≤ p + 1 by omega))
    have h63 := HS4.out.le
    unfold maxLen at h63
    have hpw : IntKind.i64.wrap (p : Int) = p := IntWalk.i64_in _ (by omega)
    have hp0 : (0 : Int) ≤ (p : Int) := by omega
    clear hS' hsame hle hp hq h63
    go_wp2_with fail
    go_region_law (
      go_simp
      go_at_call 34
      refine (same_any (L.take p) (S.take p) Aj As p cj p cs _ HA.out.drew HC.out.drew).mono ?_
      rintro e wn ⟨rfl, hbn⟩
      rw [decide_eq_true HSame.out]
      have HBn := Lib.hid (HB4.out.drew.trans (hbn.mono HB4.out.size))
      clear hbn)
    all_goals
      go_wp2
      go_ret
      exact ⟨rfl, HBn.out⟩
  · have hL := joinL_fail HJ.out hx
    subst hL
    have hxb : (x != 0) = true := by simpa using hx
    simp only [List.length_nil]
    go_wp2
    go_ret
    exact ⟨rfl, HB4.out⟩
end Go.Proofs.Ytddaeaimimdonaa
