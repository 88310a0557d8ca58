/-
  Chapter 2: the law GlyphBack: the walk.
-/
import Derived.Test.YthfienjmajllpaaDoorBackP
import Derived.Test.YthfienjmajllpaaDoorGlyJ
import Derived.Test.YthfienjmajllpaaDoorGlyR
namespace Go.Proofs.YthfienjmajllpaaDoor
open Go.RowKit
set_option linter.unusedVariables false

theorem lexR_err : ∀ (x : List (Nat × List UInt8)) (pos : Nat) (q : RSt), (lexR x pos q).2.2 ≠ 0 → (lexR x pos q).1 = []
  | [], pos, q, h => by
    rw [lexR, endR] at h ⊢
    split at h
    · rw [if_pos (by assumption)]
    · exact absurd rfl h
  | (c, b) :: r, pos, q, h => by
    rw [lexR] at h ⊢
    split at h
    · rw [if_pos (by assumption)]
    · rw [if_neg (by assumption)]; exact lexR_err r _ _ h
theorem lexP_err {s : ByteArray} {l : List Tok} {p e : Int} (h : lexP s = (l, p, e)) (hs : s.size ≤ 65536) (he : e ≠ 0) : l = [] := by
  rw [lexP_R s hs] at h
  have := lexR_err (runesOf s.data.toList) 0 r0 (by rw [h]; exact he)
  rw [h] at this
  exact this

set_option maxRecDepth 100000 in
set_option maxHeartbeats 4000000 in
theorem back_walk (s : ByteArray) (W : World) (htab : PowTab W) (hs63 : s.size ≤ maxLen) :
    Calls Tryd.prog 4 #[.string s] W fun e w' => e = .returned (.bool true) ∧ Below W.heap.size W w' := by
  have HT := Lib.hid htab
  clear htab
  have HS63 := Lib.hid hs63
  unfold maxLen at hs63
  go_enter Tryd.func4, Tryd.ntmps4
  go_wp2_with fail
  refine (alive_any _ HT.out).mono ?_
  rintro e w1 ⟨rfl, hb1⟩
  have HB1 := Lib.hid hb1
  have hz1 := hb1.size
  clear hb1
  by_cases h600 : 600 < s.size
  · go_wp2
    go_ret
    exact ⟨rfl, HB1.out⟩
  · obtain ⟨L, p, ec, hL⟩ : ∃ L p ec, lexP s = (L, p, ec) := ⟨_, _, _, rfl⟩
    have HL := Lib.hid hL
    obtain ⟨n, hn⟩ : ∃ n, L.length = n := ⟨_, rfl⟩
    have HN := Lib.hid hn
    have hfl := lexP_forms s (by omega)
    rw [hL] at hfl
    have HF := Lib.hid hfl.1
    have hn600 : n ≤ 600 := by have := hfl.2; simp only at this; omega
    have HErr : Hid (ec ≠ 0 → L = []) := fun he => lexP_err hL (by omega) he
    clear hL hn hfl
    go_wp2_with fail
    refine (lex_to HL.out _ HS63.out).mono ?_
    rintro e w2 ⟨A, c, rfl, _, hr2, hb2⟩
    rw [HN.out] at hr2 ⊢
    have HR2 := Lib.hid hr2
    have HB2 := Lib.hid (HB1.out.trans (hb2.mono hz1))
    have hz2 := HB2.out.size
    clear hr2 hb2
    by_cases he : ec = 0
    · subst he
      obtain ⟨hpl, l', hL', hsame, hpp, hll, hnum'⟩ := back_plain L HF.out (by rw [HN.out]; omega)
      have HPl := Lib.hid (Nat.le_trans hpl (by omega : 15000 ≤ 140737488355328))
      have HPl' : Hid ((printP l').length ≤ 140737488355328) := by show _ ≤ _; rw [hpp]; exact HPl.out
      obtain ⟨S, hS⟩ : ∃ S, textOf L = S := ⟨_, rfl⟩
      have HS : Hid ((⟨(printP L).toArray⟩ : ByteArray) = S) := hS
      have HS' : Hid ((⟨(printP l').toArray⟩ : ByteArray) = S) := by show _ = _; rw [hpp]; exact hS
      have HLL : Hid (lexP S = (l', 0, 0)) := by show _ = _; rw [← hS]; exact hL'
      have HSz : Hid (S.size ≤ maxLen) := by
        show _ ≤ _
        rw [← hS]
        show (printP L).toArray.size ≤ _
        rw [List.size_toArray]
        unfold maxLen
        omega
      have HSame := Lib.hid hsame
      have HLn : Hid (l'.length = n) := by show _ = _; rw [hll]; exact HN.out
      have HNum' := Lib.hid hnum'
      clear hpl hL' hsame hpp hll hnum' hS
      go_wp2_with fail
      refine (print_any L _ _ _ _ HR2.out (fun t ht => form_num (HF.out t ht)) HPl.out (HT.out.below HB2.out)).mono ?_
      rintro e w3 ⟨rfl, hb3⟩
      rw [HS.out]
      have HB3 := Lib.hid (HB2.out.trans (hb3.mono hz2))
      have HR3 := Lib.hid ((HR2.out.below hb3).more hb3.size)
      have hz3 := HB3.out.size
      clear hb3
      go_wp2_with fail
      refine (lex_to HLL.out _ HSz.out).mono ?_
      rintro e w4 ⟨A4, c4, rfl, _, hr4, hb4⟩
      rw [HLn.out] at hr4 ⊢
      have HQ4 := Lib.hid hr4
      have HB4 := Lib.hid (HB3.out.trans (hb4.mono hz3))
      have HR4 := Lib.hid ((HR3.out.below hb4).more hb4.size)
      have hz4 := HB4.out.size
      clear hb4 hr4
      go_wp2_with fail
      refine (as_any l' _ _ _ _ HQ4.out (by omega)).mono ?_
      rintro e w5 ⟨A5, c5, rfl, ho5, hb5⟩
      rw [HLn.out] at ho5 ⊢
      obtain ⟨_, _, he5, _, hr5⟩ := Rd.of_own_cap ho5
      cases he5
      have HQ5 := Lib.hid hr5
      have HB5 := Lib.hid (HB4.out.trans (hb5.mono hz4))
      have HR5 := Lib.hid ((HR4.out.below hb5).more hb5.size)
      have HP5 := Lib.hid ((HQ4.out.below hb5).more hb5.size)
      have hz5 := HB5.out.size
      clear hb5 ho5 hr5
      go_wp2_with fail
      refine (as_any L _ _ _ _ HR5.out (by omega)).mono ?_
      rintro e w6 ⟨A6, c6, rfl, ho6, hb6⟩
      rw [HN.out] at ho6 ⊢
      obtain ⟨_, _, he6, _, hr6⟩ := Rd.of_own_cap ho6
      cases he6
      have HB6 := Lib.hid (HB5.out.trans (hb6.mono hz5))
      have HQ6 := Lib.hid ((HQ5.out.below hb6).more hb6.size)
      have HP6 := Lib.hid ((HP5.out.below hb6).more hb6.size)
      have HR6 := Lib.hid hr6
      have hz6 := HB6.out.size
      clear hb6 ho6 hr6
      go_wp2_with fail
      refine (same_any l' L _ _ _ _ _ _ _ HQ6.out HR6.out (by omega) (by omega)).mono ?_
      rintro e w7 ⟨rfl, hb7⟩
      rw [HSame.out]
      have HB7 := Lib.hid (HB6.out.trans (hb7.mono hz6))
      have HP7 := Lib.hid ((HP6.out.below hb7).more hb7.size)
      have hz7 := HB7.out.size
      clear hb7
      go_wp2_with fail
      refine (print_any l' _ _ _ _ HP7.out HNum'.out HPl'.out (HT.out.below HB7.out)).mono ?_
      rintro e w8 ⟨rfl, hb8⟩
      rw [HS'.out]
      have HB8 := Lib.hid (HB7.out.trans (hb8.mono hz7))
      clear hb8
      go_wp2
      go_ret
      exact ⟨rfl, HB8.out⟩
    · have h0 : n = 0 := by rw [← HN.out, HErr.out he]; rfl
      subst h0
      have hne : (ec != 0) = true := by rw [bne_iff_ne]; exact he
      go_wp2
      go_ret
      exact ⟨rfl, HB2.out⟩
end Go.Proofs.YthfienjmajllpaaDoor
