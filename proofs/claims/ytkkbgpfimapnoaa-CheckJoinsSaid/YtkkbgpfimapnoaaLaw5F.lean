/-
  Chapter 5: the walk of CheckJoins.
-/
import Derived.Test.YtkkbgpfimapnoaaJoinP
import Derived.Test.YtkkbgpfimapnoaaLaw5E
namespace Go.Proofs.Ytkkbgpfimapnoaa
open Go.RowKit
set_option linter.unusedVariables false

theorem join_step {la lb : List Ins} {n j : Nat} {i i' : Ins} (hi : lb[j]? = some i) (e : shiftI n i = i') : la ++ (lb.take j).map (shiftI n) ++ [i'] = la ++ (lb.take (j + 1)).map (shiftI n) := by
  rw [List.take_add_one, hi, ← e]; simp
theorem join_ok {la lb : List Ins} (ha : ∀ i ∈ la, i.Ok) (hb : ∀ i ∈ lb, i.Ok) (hp : rightP lb = true) (h40 : la.length ≤ 40) : ∀ i ∈ joinP la lb, i.Ok := by
  intro i hi
  rcases List.mem_append.1 hi with hi | hi
  · exact ha i hi
  · obtain ⟨j, hj, rfl⟩ := List.mem_map.1 hi
    by_cases hs : 17 ≤ j.op ∧ j.op ≤ 19
    · obtain ⟨k, hk⟩ := List.getElem?_of_mem hj
      have h1 := right_imm hp hk hs
      have h2 := hb j hj
      rw [shiftI, if_pos hs]
      refine ⟨h2.op, h2.a, h2.b, h2.c, ?_⟩
      have := h2.imm
      show 0 ≤ j.imm + _ ∧ j.imm + _ ≤ _
      omega
    · rw [shiftI_out hs]; exact hb j hj

set_option maxRecDepth 100000 in
set_option maxHeartbeats 8000000 in
theorem joins_walk (la : List Ins) (A : Option Addr) (n c : Nat) (lb : List Ins) (A' : Option Addr) (m c' : Nat) (w : World)
    (hr : RdI w w.heap.size A n la) (hok : ∀ i ∈ la, i.Ok) (hc : n ≤ c) (hr' : RdI w w.heap.size A' m lb) (hok' : ∀ i ∈ lb, i.Ok) (hc' : m ≤ c') :
    Calls Try.prog 12 #[.slice A n c, .slice A' m c'] w fun e w' => e = .returned (.bool true) ∧ Below w.heap.size w w' := by
  obtain ⟨i0, hi0, hz0, hz1, hz2⟩ := info_parts info_ins5
  have h63 := hr.le
  have h63' := hr'.le
  unfold maxLen at h63 h63'
  have HL := Lib.hid hr.insLen
  have HL' := Lib.hid hr'.insLen
  have HR := Lib.hid hr
  have HR' := Lib.hid hr'
  have HK := Lib.hid hok
  have HK' := Lib.hid hok'
  clear hr hok hr' hok'
  go_enter Try.func12, Try.ntmps12
  go_wp2_with fail
  refine (alive5_any _).mono ?_
  rintro e w1 ⟨rfl, hb1⟩
  have HB1 := Lib.hid hb1
  clear hb1
  by_cases h40 : 40 < n
  · go_wp2
    go_ret
    exact ⟨rfl, HB1.out⟩
  by_cases h40' : 40 < m
  · go_wp2
    go_ret
    exact ⟨rfl, HB1.out⟩
  go_wp2_with fail
  refine (right_any la A n c _ ((HR.out.below HB1.out).more HB1.out.size) HK.out).mono ?_
  rintro e w2 ⟨rfl, hb2⟩
  have HB2 := Lib.hid (HB1.out.trans (hb2.mono HB1.out.size))
  clear hb2
  cases hp : rightP la
  · go_wp2
    go_ret
    exact ⟨rfl, HB2.out⟩
  have HP := Lib.hid hp
  clear hp
  go_wp2_with fail
  refine (right_any lb A' m c' _ ((HR'.out.below HB2.out).more HB2.out.size) HK'.out).mono ?_
  rintro e w3 ⟨rfl, hb3⟩
  have HB3 := Lib.hid (HB2.out.trans (hb3.mono HB2.out.size))
  clear hb3
  cases hp : rightP lb
  · go_wp2
    go_ret
    exact ⟨rfl, HB3.out⟩
  have HP' := Lib.hid hp
  clear hp
  have hsz3 := HB3.out.size
  have OWN0 : Hid ((w3.alloc (.cells #[] 47)).ownsRow w3.heap.size 47 5 (.slice (some ⟨w3.heap.size, 0, none⟩) 0 0) 0 []) := World.ownsRow_made w3 #[] 0 (Nat.le_refl _) (by simp [maxLen]) (by simp)
  have RD0 := Lib.hid ((HR.out.below HB3.out).alloc HB3.out.size (.cells #[] 47))
  have tok1 : True := trivial
  go_wp2_with (first
    | (at_builtin
       have _t := tok1
       go_must (
         refine wpList_app _ rfl (.tmp 35) (.tmp 36) 22 rfl w3.heap.size 47 i0 _ 5 40 Try.underlying22 hi0 hz0 hz1 hz2 rfl (by omega) _ 0 [] rfl OWN0.out _ _ n c _ rfl RD0.out (cells_one _) ?_ ?_ ?_ ?_
         · simp only [maxLen]; omega
         · omega
         · simp
         intro v4 w4 hown4 hg4 _
         rw [List.nil_append, Nat.zero_add] at hown4
         have HO4 := Lib.hid hown4
         have HL4 := Lib.hid (below_own ((Below.refl w3.heap.size w3).alloc (Nat.le_refl _) _) OWN0.out hg4 (Nat.le_refl _) (by simp))
         clear hown4 hg4 _t tok1)))
  clear OWN0 RD0
  go_loopw [40, 5, 7] (fun t s5 _u wr => ∃ j : Nat, (j ≤ m ∧ t = .int .i64 j) ∧ wr.ownsRow w3.heap.size 47 5 s5 (n + j) (insCells (la ++ (lb.take j).map (shiftI n))) ∧ Below w3.heap.size w3 wr) (fun t _ _ _ => m - (intOf t).toNat)
  case atStart => exact ⟨0, ⟨by omega, rfl⟩, by simpa using HO4.out, HL4.out⟩
  case round =>
    obtain ⟨j, ⟨hj, rfl⟩, hown, hb⟩ := hrel
    obtain ⟨wo, rfl⟩ : ∃ wo : World, wo = wr := ⟨_, rfl⟩
    have HB := Lib.hid hb
    have HO := Lib.hid hown
    have hszr := hb.size
    have HBW := Lib.hid (HB3.out.trans (hb.mono hsz3))
    clear hb hown
    by_cases hlt : j < m
    · obtain ⟨bI, oI, i, hA, hbI, hi, ci0, ci1, ci2, ci3, ci4⟩ := (HR'.out.below HBW.out).insAt hlt
      have HI := Lib.hid hi
      have HOI := Lib.hid (HK'.out i (List.mem_of_getElem? hi))
      have HIm := Lib.hid (right_imm HP'.out hi)
      have him0 := HOI.out.imm.1
      clear hi
      obtain ⟨op, a, bb, cc, im⟩ := i
      simp only at ci0 ci1 ci2 ci3 ci4 him0
      subst hA
      have hs : ((17 ≤ op ∧ op ≤ 19) ∧ im ≤ 9223372036854775807) ∨ (¬ 17 ≤ op) ∨ (17 ≤ op ∧ ¬ op ≤ 19) := by
        by_cases h1 : 17 ≤ op
        · by_cases h2 : op ≤ 19
          · exact .inl ⟨⟨h1, h2⟩, HIm.out ⟨h1, h2⟩⟩
          · exact .inr (.inr ⟨h1, h2⟩)
        · exact .inr (.inl h1)
      rcases hs with ⟨⟨h1, h2⟩, h3⟩ | h1 | ⟨h1, h2⟩
      · have HT : Hid (la ++ (lb.take j).map (shiftI n) ++ [⟨op, a, bb, cc, im + (n : Int)⟩] = la ++ (lb.take (j + 1)).map (shiftI n)) := join_step HI.out (by rw [shiftI, if_pos ⟨h1, h2⟩])
        have HN : Hid (∀ B1 : Obj, RdI ((wo.alloc B1).alloc (.cells #[.int .i64 op, .int .i64 a, .int .i64 bb, .int .i64 cc, .int .u64 (im + (n : Int))] 47)) (wo.heap.size + 1 + 1) (some ⟨wo.heap.size + 1, 0, none⟩) 1 [⟨op, a, bb, cc, im + (n : Int)⟩]) := fun B1 => Rd.newAt (wo.alloc B1) _ _ _ (by simp) (size := 5) (m := 1) rfl (by simp [maxLen])
        have tok2 : True := trivial
        go_wp2_with (first
          | (at_builtin
             have _t := tok2
             go_must (
               refine wpList_app _ rfl (.tmp 59) (.tmp 61) 22 rfl w3.heap.size 47 i0 _ 5 40 Try.underlying22 hi0 hz0 hz1 hz2 rfl (by omega) _ (n + j) _ rfl ((HO.out.alloc _).alloc _) _ _ 1 1 _ rfl (HN.out _) (cells_one _) ?_ ?_ ?_ ?_
               · simp only [maxLen]; omega
               · omega
               · simp; omega
               intro v5 w5 hown5 hg5 _
               rw [← insCells_append, HT.out] at hown5
               have HO5 := Lib.hid hown5
               have HB5 := Lib.hid (below_own ((HB.out.alloc hszr _).alloc (by simp; omega) _) ((HO.out.alloc _).alloc _) hg5 (Nat.le_refl _) (by simp; omega))
               clear hown5 hg5 _t tok2)))
        go_roundw
        case rel => exact ⟨j + 1, ⟨by omega, by go_num⟩, HO5.out, HB5.out⟩
        case measure => simp [intOf]; omega
      · have HT : Hid (la ++ (lb.take j).map (shiftI n) ++ [⟨op, a, bb, cc, im⟩] = la ++ (lb.take (j + 1)).map (shiftI n)) := join_step HI.out (by exact shiftI_out fun h => h1 h.1)
        have HN : Hid (∀ B1 : Obj, RdI ((wo.alloc B1).alloc (.cells #[.int .i64 op, .int .i64 a, .int .i64 bb, .int .i64 cc, .int .u64 (im)] 47)) (wo.heap.size + 1 + 1) (some ⟨wo.heap.size + 1, 0, none⟩) 1 [⟨op, a, bb, cc, im⟩]) := fun B1 => Rd.newAt (wo.alloc B1) _ _ _ (by simp) (size := 5) (m := 1) rfl (by simp [maxLen])
        have tok2 : True := trivial
        go_wp2_with (first
          | (at_builtin
             have _t := tok2
             go_must (
               refine wpList_app _ rfl (.tmp 59) (.tmp 61) 22 rfl w3.heap.size 47 i0 _ 5 40 Try.underlying22 hi0 hz0 hz1 hz2 rfl (by omega) _ (n + j) _ rfl ((HO.out.alloc _).alloc _) _ _ 1 1 _ rfl (HN.out _) (cells_one _) ?_ ?_ ?_ ?_
               · simp only [maxLen]; omega
               · omega
               · simp; omega
               intro v5 w5 hown5 hg5 _
               rw [← insCells_append, HT.out] at hown5
               have HO5 := Lib.hid hown5
               have HB5 := Lib.hid (below_own ((HB.out.alloc hszr _).alloc (by simp; omega) _) ((HO.out.alloc _).alloc _) hg5 (Nat.le_refl _) (by simp; omega))
               clear hown5 hg5 _t tok2)))
        go_roundw
        case rel => exact ⟨j + 1, ⟨by omega, by go_num⟩, HO5.out, HB5.out⟩
        case measure => simp [intOf]; omega
      · have HT : Hid (la ++ (lb.take j).map (shiftI n) ++ [⟨op, a, bb, cc, im⟩] = la ++ (lb.take (j + 1)).map (shiftI n)) := join_step HI.out (by exact shiftI_out fun h => h2 h.2)
        have HN : Hid (∀ B1 : Obj, RdI ((wo.alloc B1).alloc (.cells #[.int .i64 op, .int .i64 a, .int .i64 bb, .int .i64 cc, .int .u64 (im)] 47)) (wo.heap.size + 1 + 1) (some ⟨wo.heap.size + 1, 0, none⟩) 1 [⟨op, a, bb, cc, im⟩]) := fun B1 => Rd.newAt (wo.alloc B1) _ _ _ (by simp) (size := 5) (m := 1) rfl (by simp [maxLen])
        have tok2 : True := trivial
        go_wp2_with (first
          | (at_builtin
             have _t := tok2
             go_must (
               refine wpList_app _ rfl (.tmp 59) (.tmp 61) 22 rfl w3.heap.size 47 i0 _ 5 40 Try.underlying22 hi0 hz0 hz1 hz2 rfl (by omega) _ (n + j) _ rfl ((HO.out.alloc _).alloc _) _ _ 1 1 _ rfl (HN.out _) (cells_one _) ?_ ?_ ?_ ?_
               · simp only [maxLen]; omega
               · omega
               · simp; omega
               intro v5 w5 hown5 hg5 _
               rw [← insCells_append, HT.out] at hown5
               have HO5 := Lib.hid hown5
               have HB5 := Lib.hid (below_own ((HB.out.alloc hszr _).alloc (by simp; omega) _) ((HO.out.alloc _).alloc _) hg5 (Nat.le_refl _) (by simp; omega))
               clear hown5 hg5 _t tok2)))
        go_roundw
        case rel => exact ⟨j + 1, ⟨by omega, by go_num⟩, HO5.out, HB5.out⟩
        case measure => simp [intOf]; omega
    · obtain rfl : m = j := by omega
      have ej : la ++ (lb.take m).map (shiftI n) = joinP la lb := by rw [← HL'.out, List.take_length, ← HL.out]; rfl
      have ho := HO.out
      rw [ej] at ho
      obtain ⟨A5, c5, hv5, hc5, r5⟩ := Rd.of_own_cap ho
      subst hv5
      have R5 := Lib.hid r5
      have HPJ := Lib.hid (right_join HP.out HP'.out (by rw [HL.out]; omega) (by rw [HL'.out]; omega))
      have HKJ := Lib.hid (join_ok HK.out HK'.out HP'.out (by rw [HL.out]; omega))
      have HRJ := Lib.hid (reads_join HP.out HP'.out HPJ.out)
      clear ej ho r5 HO
      obtain ⟨q, hq⟩ : ∃ q, n + m = q := ⟨_, rfl⟩
      have hqn : (n : Int) + (m : Int) = (q : Int) := by omega
      have hq80 : q ≤ 80 := by omega
      have hnq : n ≤ q := by omega
      rw [hq] at R5 ⊢
      have HQ := Lib.hid hq
      clear hq hqn
      go_upto_region 13 with fail
      go_cut [77] (fun s77 wx => s77 = .bool false ∧ Hid (RdI wx wx.heap.size A5 q (joinP la lb)) ∧ Hid (Below w.heap.size w wx))
      case first =>
        go_wp2_with fail
        refine (right_any (joinP la lb) A5 q c5 _ R5.out HKJ.out).mono ?_
        rintro e w6 ⟨rfl, hb6⟩
        rw [HPJ.out]
        have HB6 := Lib.hid (HBW.out.trans (hb6.mono HBW.out.size))
        have R6 := Lib.hid ((R5.out.below hb6).more hb6.size)
        clear hb6
        go_wp2_with fail
        refine (reads_any (joinP la lb) A5 q c5 _ R6.out HKJ.out).mono ?_
        rintro e w7 ⟨rfl, hb7⟩
        rw [HRJ.out]
        have HB7 := Lib.hid (HB6.out.trans (hb7.mono HB6.out.size))
        have R7 := Lib.hid ((R6.out.below hb7).more hb7.size)
        clear hb7
        go_wp2_with fail
        refine (reads_any la A n c _ ((HR.out.below HB7.out).more HB7.out.size) HK.out).mono ?_
        rintro e w8 ⟨rfl, hb8⟩
        have HB8 := Lib.hid (HB7.out.trans (hb8.mono HB7.out.size))
        have R8 := Lib.hid ((R7.out.below hb8).more hb8.size)
        clear hb8
        obtain ⟨y, hy⟩ : ∃ y, readsP lb = y := ⟨_, rfl⟩
        rw [hy]
        have HY := Lib.hid hy
        clear hy
        cases readsP la
        · go_wp2
          go_meet
          exact ⟨by simp, R8, HB8⟩
        · go_wp2_with fail
          refine (reads_any lb A' m c' _ ((HR'.out.below HB8.out).more HB8.out.size) HK'.out).mono ?_
          rintro e w9 ⟨rfl, hb9⟩
          rw [HY.out]
          have HB9 := Lib.hid (HB8.out.trans (hb9.mono HB8.out.size))
          have R9 := Lib.hid ((R8.out.below hb9).more hb9.size)
          clear hb9
          go_wp2
          go_meet
          exact ⟨by simp, R9, HB9⟩
      case rest =>
        obtain ⟨rfl, RC, HBC⟩ := hcut
        go_wp2_with fail
        refine (reach_any la A n c _ ((HR.out.below HBC.out).more HBC.out.size) HK.out).mono ?_
        rintro e w10 ⟨v10, M, rfl, hown, hb10, hM⟩
        rw [if_pos HP.out] at hM
        have hMn : M.length = n := hM.len.trans HL.out
        rw [hMn] at hown
        obtain ⟨A10, c10, rfl, r10⟩ := Rd.of_own hown
        have HB10 := Lib.hid (HBC.out.trans (hb10.mono HBC.out.size))
        have RJ10 := Lib.hid ((RC.out.below hb10).more hb10.size)
        have RM10 := Lib.hid r10
        have HM := Lib.hid hM
        clear hb10 hown r10 hM hMn
        go_wp2_with fail
        refine (reach_any (joinP la lb) A5 q c5 _ RJ10.out HKJ.out).mono ?_
        rintro e w11 ⟨v11, M', rfl, hown, hb11, hM'⟩
        rw [if_pos HPJ.out] at hM'
        have hMn : M'.length = q := by rw [hM'.len, joinP_length, HL.out, HL'.out]; exact HQ.out
        rw [hMn] at hown
        obtain ⟨A11, c11, rfl, r11⟩ := Rd.of_own hown
        have HB11 := Lib.hid (HB10.out.trans (hb11.mono HB10.out.size))
        have RJ11 := Lib.hid ((RJ10.out.below hb11).more hb11.size)
        have RM11 := Lib.hid ((RM10.out.below hb11).more hb11.size)
        have RN11 := Lib.hid r11
        have HMJ := Lib.hid (marks_join HP.out HK.out HM.out hM')
        clear hb11 hown r11 hM' hMn
        go_wp2_with fail
        refine (longest_any la A n c _ ((HR.out.below HB11.out).more HB11.out.size) HK.out).mono ?_
        rintro e w12 ⟨x, b, rfl, hb12, hl⟩
        rw [if_pos HP.out] at hl
        have HLo := Lib.hid hl
        have HB12 := Lib.hid (HB11.out.trans (hb12.mono HB11.out.size))
        have RJ12 := Lib.hid ((RJ11.out.below hb12).more hb12.size)
        have RM12 := Lib.hid ((RM11.out.below hb12).more hb12.size)
        have RN12 := Lib.hid ((RN11.out.below hb12).more hb12.size)
        clear hb12 hl
        go_wp2_with fail
        refine (longest_any (joinP la lb) A5 q c5 _ RJ12.out HKJ.out).mono ?_
        rintro e w13 ⟨x', b', rfl, hb13, hl⟩
        rw [if_pos HPJ.out] at hl
        obtain ⟨rfl, rfl⟩ := (longest_join HP.out HK.out hl).unique (right_parts HP.out).1 HLo.out
        have HB13 := Lib.hid (HB12.out.trans (hb13.mono HB12.out.size))
        have RM13 := Lib.hid ((RM12.out.below hb13).more hb13.size)
        have RN13 := Lib.hid ((RN12.out.below hb13).more hb13.size)
        clear hb13 hl
        go_wp2
        go_loopw [116, 14] (fun t _u wr => ∃ k : Nat, (k ≤ q ∧ t = .int .i64 k) ∧ Hid (∃ a, wr = w13.drewN a)) (fun t _ _ => q - (intOf t).toNat)
        case atStart => exact ⟨0, ⟨by omega, rfl⟩, 0, rfl⟩
        case round =>
          obtain ⟨k, ⟨hk, rfl⟩, HA⟩ := hrel
          have RNr : Hid (Rd wr w13.heap.size 1 A11 q (bools M')) := by obtain ⟨a, rfl⟩ := HA.out; exact RN13.out.drewN a
          have RMr : Hid (Rd wr w13.heap.size 1 A10 n (bools M)) := by obtain ⟨a, rfl⟩ := HA.out; exact RM13.out.drewN a
          have HBr : Hid (Below w.heap.size w wr) := by obtain ⟨a, rfl⟩ := HA.out; exact below_drewN HB13.out a
          have HAr : Hid (∀ b, ∃ a, wr.drewN b = w13.drewN a) := fun b => by obtain ⟨a, rfl⟩ := HA.out; exact ⟨a + b, World.drewN_drewN _ _ _⟩
          by_cases hlt : k < q
          · obtain ⟨b11, o11, e11, _⟩ := RNr.out.addr (by omega)
            subst e11
            have cN := rd_bool RNr.out hlt
            rw [HMJ.out k, HL.out] at cN
            by_cases hkn : k < n
            · obtain ⟨b10, o10, e10, _⟩ := RMr.out.addr (by omega)
              subst e10
              have cM := rd_bool RMr.out hkn
              rw [decide_eq_true hkn, Bool.true_and] at cN
              generalize M.getD k false = y at cM cN
              have hkn' : decide ((k : Int) < (n : Int)) = true := by simpa using hkn
              go_wp2
              go_quiet (fail)
              go_wp2
              go_roundw
              case rel => exact ⟨k + 1, ⟨by omega, by go_num⟩, HAr.out _⟩
              case measure => simp [intOf]; omega
            · rw [decide_eq_false hkn, Bool.false_and] at cN
              have hkn' : decide ((k : Int) < (n : Int)) = false := by simpa using hkn
              go_wp2
              go_quiet (fail)
              go_wp2
              go_roundw
              case rel => exact ⟨k + 1, ⟨by omega, by go_num⟩, HAr.out _⟩
              case measure => simp [intOf]; omega
          · obtain rfl : q = k := by omega
            go_wp2
            go_ret
            exact ⟨rfl, HBr.out⟩
end Go.Proofs.Ytkkbgpfimapnoaa
