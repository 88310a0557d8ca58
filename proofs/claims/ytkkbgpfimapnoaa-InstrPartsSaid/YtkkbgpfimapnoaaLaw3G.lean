/-
  Chapter 3: the walk of InstrParts.
-/
import Derived.Test.YtkkbgpfimapnoaaLaw3F
import Derived.BigQuiet
import Derived.BigRegion
namespace Go.Proofs.Ytkkbgpfimapnoaa
open Go.RowKit
set_option linter.unusedVariables false

theorem strOfNums_append (a b : List Int) : strOfNums (a ++ b) = strOfNums a ++ strOfNums b := by
  apply ByteArray.ext
  simp [strOfNums]
theorem bodyB_append (a b : List Ins) : bodyB (a ++ b) = bodyB a ++ bodyB b := by simp [bodyB]
theorem progB_drop4 (l : List Ins) : (progB l).drop 4 = bodyB l := by
  rw [progB_head]; simp [headB]

set_option maxHeartbeats 4000000 in
theorem parts_good (la lb : List Ins) (A : Option Addr) (n c : Nat) (A' : Option Addr) (m c' : Nat) (w : World)
    (hr : RdI w w.heap.size A n la) (hok : ∀ i ∈ la, i.Ok) (hr' : RdI w w.heap.size A' m lb) (hok' : ∀ i ∈ lb, i.Ok)
    (hn : n ≤ 40) (hm : m ≤ 40) (hp : la.all Ins.plain = true) (hp' : lb.all Ins.plain = true) :
    Calls Try.prog 7 #[.slice A n c, .slice A' m c'] w fun e w' => e = .returned (.bool true) ∧ Below w.heap.size w w' := by
  obtain ⟨i0, hi0, hz0, hz1, hz2⟩ := info_parts info_ins
  have HL := Lib.hid hr.insLen
  have HL' := Lib.hid hr'.insLen
  have HR := Lib.hid hr
  have HR' := Lib.hid hr'
  have HK := Lib.hid hok
  have HK' := Lib.hid hok'
  have HZ : Hid (encCode la = 0) := by
    show _ = _
    rw [encCode, if_neg (by rw [HL.out]; omega), if_pos hp]
  have HZ' : Hid (encCode lb = 0) := by
    show _ = _
    rw [encCode, if_neg (by rw [HL'.out]; omega), if_pos hp']
  have HZ2 : Hid (encCode (la ++ lb) = 0) := by
    show _ = _
    rw [encCode, if_neg (by rw [List.length_append, HL.out, HL'.out]; omega), if_pos (by rw [List.all_append, hp, hp']; rfl)]
  have HK2 : Hid (∀ i ∈ la ++ lb, i.Ok) := by
    intro i hi
    rcases List.mem_append.1 hi with hi | hi
    · exact hok i hi
    · exact hok' i hi
  clear hr hr' hok hok' hp hp'
  obtain ⟨N, hN⟩ : ∃ N, N = 4 + 12 * n := ⟨_, rfl⟩
  obtain ⟨N', hN'⟩ : ∃ N', N' = 4 + 12 * m := ⟨_, rfl⟩
  obtain ⟨M, hM⟩ : ∃ M, M = 4 + 12 * (n + m) := ⟨_, rfl⟩
  have b1 : N ≤ 484 := by omega
  have b2 : N' ≤ 484 := by omega
  have b3 : M ≤ 964 := by omega
  have HN := Lib.hid hN
  have HN' := Lib.hid hN'
  have HM := Lib.hid hM
  clear hN hN' hM
  go_enter Try.func7, Try.ntmps7
  go_wp2_with fail
  refine (alive_any _).mono ?_
  rintro e w1 ⟨rfl, hb1⟩
  have HB1 := Lib.hid hb1
  clear hb1
  go_wp2_with fail
  refine (encode_any la A n c _ ((HR.out.below HB1.out).more HB1.out.size) HK.out).mono ?_
  intro e w2 he
  obtain ⟨A2, c2, he', hc2, r2, hb2⟩ := encPost_good he HZ.out
  rw [HL.out, ← HN.out] at he' r2 hc2
  subst he'
  have HB2 := Lib.hid (HB1.out.trans (hb2.mono HB1.out.size))
  have R2 := Lib.hid r2
  clear he r2 hb2
  go_wp2_with fail
  refine (encode_any lb A' m c' _ ((HR'.out.below HB2.out).more HB2.out.size) HK'.out).mono ?_
  intro e w3 he
  obtain ⟨A3, c3, he', hc3, r3, hb3⟩ := encPost_good he HZ'.out
  rw [HL'.out, ← HN'.out] at he' r3 hc3
  subst he'
  have HB3 := Lib.hid (HB2.out.trans (hb3.mono HB2.out.size))
  have R3 := Lib.hid r3
  have R2a := Lib.hid ((R2.out.below hb3).more hb3.size)
  clear he r3 hb3
  have OWN0 : Hid ((w3.alloc (.cells #[] 47)).ownsRow w3.heap.size 47 5 (.slice (some ⟨w3.heap.size, 0, none⟩) 0 0) 0 []) := World.ownsRow_made w3 #[] 0 (Nat.le_refl _) (by simp [maxLen]) rfl
  have RD0 := Lib.hid ((HR.out.below HB3.out).alloc HB3.out.size (.cells #[] 47))
  have tok1 : True := trivial
  have tok2 : True := trivial
  go_wp2_with (first
    | (at_builtin
       have _t := tok1
       go_must (
         refine wpList_app _ rfl (.tmp 32) (.tmp 33) 22 rfl w3.heap.size 47 i0 _ 5 40 Try.underlying22 hi0 hz0 hz1 hz2 rfl (by omega) _ 0 [] rfl OWN0.out _ _ n c _ rfl RD0.out (insCells_one _) ?_ ?_ ?_ ?_
         · simp only [maxLen]; omega
         · omega
         · simp
         intro v5 w5 hown5 hg5 _
         rw [List.nil_append, Nat.zero_add] at hown5
         have HO5 := Lib.hid hown5
         have HB35 := Lib.hid (below_own ((Below.refl w3.heap.size w3).alloc (Nat.le_refl _) _) OWN0.out hg5 (Nat.le_refl _) (by simp))
         have HB5 := Lib.hid (HB3.out.trans (HB35.out.mono HB3.out.size))
         clear hown5 hg5 _t tok1))
    | (at_builtin
       have _t := tok2
       go_must (
         refine wpList_app _ rfl (.tmp 34) (.tmp 35) 22 rfl w3.heap.size 47 i0 _ 5 40 Try.underlying22 hi0 hz0 hz1 hz2 rfl (by omega) _ n _ rfl HO5.out _ _ m c' _ rfl (HR'.out.below HB5.out) (insCells_one _) ?_ ?_ ?_ ?_
         · simp only [maxLen]; omega
         · omega
         · have := HB35.out.size; omega
         intro v6 w6 hown6 hg6 _
         rw [← insCells_append] at hown6
         have HO6 := Lib.hid hown6
         have HB36 := Lib.hid (below_own HB35.out HO5.out hg6 (Nat.le_refl _) HB35.out.size)
         have HB6 := Lib.hid (HB3.out.trans (HB36.out.mono HB3.out.size))
         clear hown6 hg6 _t tok2)))
  obtain ⟨A6, c6, hv6, hc6, r6⟩ := Rd.of_own_cap HO6.out
  subst hv6
  have R6 := Lib.hid r6
  clear r6 HO6 OWN0 RD0 HO5
  refine (encode_any (la ++ lb) A6 (n + m) c6 _ R6.out HK2.out).mono ?_
  intro e w7 he
  obtain ⟨A7, c7, he', hc7, r7, hb7⟩ := encPost_good he HZ2.out
  rw [List.length_append, HL.out, HL'.out, ← HM.out] at he' r7 hc7
  subst he'
  have HB7 := Lib.hid (HB6.out.trans (hb7.mono HB6.out.size))
  have HB37 := Lib.hid (HB36.out.trans (hb7.mono HB36.out.size))
  have R7 := Lib.hid r7
  have R2b := Lib.hid ((R2a.out.below HB37.out).more HB37.out.size)
  have R3b := Lib.hid ((R3.out.below HB37.out).more HB37.out.size)
  clear he r7 hb7
  have hM4 : 4 ≤ M := by have := HM.out; omega
  have hN4 : 4 ≤ N := by have := HN.out; omega
  have hN4' : 4 ≤ N' := by have := HN'.out; omega
  obtain ⟨b7, o7, hA7, hb7⟩ := R7.out.addr (by omega)
  subst hA7
  have c7_2 := R7.out.getD_ (k := 2) (by omega)
  have e7 : (progB (la ++ lb)).getD 2 0 = ((n + m : Nat) : Int) := by
    rw [progB_head]
    show ((la ++ lb).length : Int) % 256 = _
    rw [List.length_append, HL.out, HL'.out]; omega
  rw [e7] at c7_2
  obtain ⟨B7, s7, r7⟩ := cut_l (P := Try.prog) 23 elem_u8s size_u8s R7.out hc7 4 4 rfl (by omega)
  obtain ⟨B2, s2, r2⟩ := cut_l (P := Try.prog) 23 elem_u8s size_u8s R2b.out hc2 4 4 rfl (by omega)
  obtain ⟨B3, s3, r3⟩ := cut_l (P := Try.prog) 23 elem_u8s size_u8s R3b.out hc3 4 4 rfl (by omega)
  rw [Nat.mul_one, byt_drop, progB_drop4] at r7 r2 r3
  have hcv7 := fun k => conv_str (P := Try.prog) (c := c7 - 4) 23 9 5 Try.underlying23 Try.underlying5 Try.underlying9 (r7.drewN k)
  have hcv2 := fun k => conv_str (P := Try.prog) (c := c2 - 4) 23 9 5 Try.underlying23 Try.underlying5 Try.underlying9 (r2.drewN k)
  have hcv3 := fun k => conv_str (P := Try.prog) (c := c3 - 4) 23 9 5 Try.underlying23 Try.underlying5 Try.underlying9 (r3.drewN k)
  simp only [bodyB_append, strOfNums_append] at hcv7
  have hsa : (strOfNums (bodyB la)).size ≤ 480 := by rw [strOfNums_size, bodyB_length, HL.out]; omega
  have hsb : (strOfNums (bodyB lb)).size ≤ 480 := by rw [strOfNums_size, bodyB_length, HL'.out]; omega
  have hsum : ¬ ((strOfNums (bodyB la)).size + (strOfNums (bodyB lb)).size > 9223372036854775807) := by omega
  generalize strOfNums (bodyB la) = sa at *
  generalize strOfNums (bodyB lb) = sb at *
  have hMi : (M : Int) = 4 + 12 * (n : Int) + 12 * (m : Int) := by have := HM.out; omega
  have hNi : (N : Int) = 4 + 12 * (n : Int) := by have := HN.out; omega
  have h2M : (2 : Int) < (M : Int) := by omega
  rw [show ((n + m : Nat) : Int) = (n : Int) + (m : Int) from by omega] at c7_2
  clear e7 r7 r2 r3
  go_wp2_with fail
  go_quiet (fail)
  go_wp2
  go_ret
  exact ⟨ret_bool (by simp), (below_drewN HB7.out _)⟩

theorem encPost_any {l : List Ins} {w w' : World} {e : Ending} (h : EncPost l w e w') : ∃ v, e = .returned (.tuple #[v, .int .i64 (encCode l)]) ∧ Below w.heap.size w w' := by
  obtain ⟨v, m, he, _, hb⟩ := h
  exact ⟨v, he, hb⟩

set_option maxHeartbeats 4000000 in
theorem parts_bad (la lb : List Ins) (A : Option Addr) (n c : Nat) (A' : Option Addr) (m c' : Nat) (w : World)
    (hr : RdI w w.heap.size A n la) (hok : ∀ i ∈ la, i.Ok) (hr' : RdI w w.heap.size A' m lb) (hok' : ∀ i ∈ lb, i.Ok)
    (hn : n ≤ 40) (hm : m ≤ 40) (h3 : (encCode la = 30 ∧ (encCode lb = 0 ∨ encCode lb = 30)) ∨ (encCode la = 0 ∧ encCode lb = 30)) (h2 : encCode (la ++ lb) = 30) :
    Calls Try.prog 7 #[.slice A n c, .slice A' m c'] w fun e w' => e = .returned (.bool true) ∧ Below w.heap.size w w' := by
  obtain ⟨i0, hi0, hz0, hz1, hz2⟩ := info_parts info_ins
  have HL := Lib.hid hr.insLen
  have HL' := Lib.hid hr'.insLen
  have HR := Lib.hid hr
  have HR' := Lib.hid hr'
  have HK := Lib.hid hok
  have HK' := Lib.hid hok'
  have HZ2 := Lib.hid h2
  have HK2 : Hid (∀ i ∈ la ++ lb, i.Ok) := by
    intro i hi
    rcases List.mem_append.1 hi with hi | hi
    · exact hok i hi
    · exact hok' i hi
  clear hr hr' hok hok' h2
  rcases h3 with ⟨hza, hzb | hzb⟩ | ⟨hza, hzb⟩
  all_goals
    have HZ := Lib.hid hza
    have HZ' := Lib.hid hzb
    clear hza hzb
    go_enter Try.func7, Try.ntmps7
    go_wp2_with fail
    refine (alive_any _).mono ?_
    rintro e w1 ⟨rfl, hb1⟩
    have HB1 := Lib.hid hb1
    clear hb1
    go_wp2_with fail
    refine (encode_any la A n c _ ((HR.out.below HB1.out).more HB1.out.size) HK.out).mono ?_
    intro e w2 he
    obtain ⟨v2, he', hb2⟩ := encPost_any he
    rw [HZ.out] at he'
    subst he'
    have HB2 := Lib.hid (HB1.out.trans (hb2.mono HB1.out.size))
    clear he hb2
    go_wp2_with fail
    refine (encode_any lb A' m c' _ ((HR'.out.below HB2.out).more HB2.out.size) HK'.out).mono ?_
    intro e w3 he
    obtain ⟨v3, he', hb3⟩ := encPost_any he
    rw [HZ'.out] at he'
    subst he'
    have HB3 := Lib.hid (HB2.out.trans (hb3.mono HB2.out.size))
    clear he hb3
    have OWN0 : Hid ((w3.alloc (.cells #[] 47)).ownsRow w3.heap.size 47 5 (.slice (some ⟨w3.heap.size, 0, none⟩) 0 0) 0 []) := World.ownsRow_made w3 #[] 0 (Nat.le_refl _) (by simp [maxLen]) rfl
    have RD0 := Lib.hid ((HR.out.below HB3.out).alloc HB3.out.size (.cells #[] 47))
    have tok1 : True := trivial
    have tok2 : True := trivial
    go_wp2_with (first
      | (at_builtin
         have _t := tok1
         go_must (
           refine wpList_app _ rfl (.tmp 32) (.tmp 33) 22 rfl w3.heap.size 47 i0 _ 5 40 Try.underlying22 hi0 hz0 hz1 hz2 rfl (by omega) _ 0 [] rfl OWN0.out _ _ n c _ rfl RD0.out (insCells_one _) ?_ ?_ ?_ ?_
           · simp only [maxLen]; omega
           · omega
           · simp
           intro v5 w5 hown5 hg5 _
           rw [List.nil_append, Nat.zero_add] at hown5
           have HO5 := Lib.hid hown5
           have HB35 := Lib.hid (below_own ((Below.refl w3.heap.size w3).alloc (Nat.le_refl _) _) OWN0.out hg5 (Nat.le_refl _) (by simp))
           have HB5 := Lib.hid (HB3.out.trans (HB35.out.mono HB3.out.size))
           clear hown5 hg5 _t tok1))
      | (at_builtin
         have _t := tok2
         go_must (
           refine wpList_app _ rfl (.tmp 34) (.tmp 35) 22 rfl w3.heap.size 47 i0 _ 5 40 Try.underlying22 hi0 hz0 hz1 hz2 rfl (by omega) _ n _ rfl HO5.out _ _ m c' _ rfl (HR'.out.below HB5.out) (insCells_one _) ?_ ?_ ?_ ?_
           · simp only [maxLen]; omega
           · omega
           · have := HB35.out.size; omega
           intro v6 w6 hown6 hg6 _
           rw [← insCells_append] at hown6
           have HO6 := Lib.hid hown6
           have HB36 := Lib.hid (below_own HB35.out HO5.out hg6 (Nat.le_refl _) HB35.out.size)
           have HB6 := Lib.hid (HB3.out.trans (HB36.out.mono HB3.out.size))
           clear hown6 hg6 _t tok2)))
    obtain ⟨A6, c6, hv6, hc6, r6⟩ := Rd.of_own_cap HO6.out
    subst hv6
    have R6 := Lib.hid r6
    clear r6 HO6 OWN0 RD0 HO5
    refine (encode_any (la ++ lb) A6 (n + m) c6 _ R6.out HK2.out).mono ?_
    intro e w7 he
    obtain ⟨v7, A7, c7, he', hv7, hb7⟩ := encPost_zero he (by rw [HZ2.out]; decide)
    subst hv7
    rw [HZ2.out] at he'
    subst he'
    have HB7 := Lib.hid (HB6.out.trans (hb7.mono HB6.out.size))
    clear he hb7
    go_wp2_with fail
    go_ret
    exact ⟨ret_bool (by simp), HB7.out⟩

theorem parts_walk (la : List Ins) (A : Option Addr) (n c : Nat) (lb : List Ins) (A' : Option Addr) (m c' : Nat) (w : World)
    (hr : RdI w w.heap.size A n la) (hok : ∀ i ∈ la, i.Ok) (_ : n ≤ c) (hr' : RdI w w.heap.size A' m lb) (hok' : ∀ i ∈ lb, i.Ok) (_ : m ≤ c') :
    Calls Try.prog 7 #[.slice A n c, .slice A' m c'] w fun e w' => e = .returned (.bool true) ∧ Below w.heap.size w w' := by
  by_cases h : n ≤ 40 ∧ m ≤ 40
  · have hl := hr.insLen
    have hl' := hr'.insLen
    have ea : encCode la = if la.all Ins.plain then 0 else 30 := encCode_plain (by omega)
    have eb : encCode lb = if lb.all Ins.plain then 0 else 30 := encCode_plain (by omega)
    have ec : encCode (la ++ lb) = if la.all Ins.plain && lb.all Ins.plain then 0 else 30 := by rw [encCode_plain (by rw [List.length_append]; omega), List.all_append]
    cases hp : la.all Ins.plain <;> cases hp' : lb.all Ins.plain
    all_goals rw [hp] at ea
    all_goals rw [hp'] at eb
    all_goals rw [hp, hp'] at ec
    · exact parts_bad la lb A n c A' m c' w hr hok hr' hok' h.1 h.2 (.inl ⟨ea, .inr eb⟩) ec
    · exact parts_bad la lb A n c A' m c' w hr hok hr' hok' h.1 h.2 (.inl ⟨ea, .inl eb⟩) ec
    · exact parts_bad la lb A n c A' m c' w hr hok hr' hok' h.1 h.2 (.inr ⟨ea, eb⟩) ec
    · exact parts_good la lb A n c A' m c' w hr hok hr' hok' h.1 h.2 hp hp'
  · have h63 := hr.le
    have h63' := hr'.le
    unfold maxLen at h63 h63'
    have h2 : 40 < n ∨ (n ≤ 40 ∧ 40 < m) := by omega
    clear h hr hok hr' hok'
    rcases h2 with h1 | ⟨h1, h2⟩
    all_goals
      go_enter Try.func7, Try.ntmps7
      go_wp2_with fail
      refine (alive_any _).mono ?_
      rintro e w1 ⟨rfl, hb1⟩
      have HB1 := Lib.hid hb1
      clear hb1
      go_wp2
      go_ret
      exact ⟨rfl, HB1.out⟩
end Go.Proofs.Ytkkbgpfimapnoaa
