/-
  Chapter 5: the walk of CheckCuts.
-/
import Derived.Test.YtkkbgpfimapnoaaCutP
import Derived.Test.YtkkbgpfimapnoaaOwn2
import Derived.Deep.DeepCutAuto
import Derived.Deep.RegionLaw
namespace Go.Proofs.Ytkkbgpfimapnoaa
open Go.RowKit
set_option linter.unusedVariables false

theorem insCells_take (l : List Ins) (p : Nat) (hp : p ≤ l.length) : insCells (l.take p) = (insCells l).take (p * 5) := by
  have e : insCells l = insCells (l.take p) ++ insCells (l.drop p) := by rw [← insCells_append, List.take_append_drop]
  rw [e, List.take_left' (by rw [insCells_length, List.length_take]; omega)]
theorem Rd.insTake {w : World} {B n p : Nat} {A : Option Addr} {l : List Ins} (h : RdI w B A n l) (hp : p ≤ n) : RdI w B A p (l.take p) := by
  have hl := h.insLen
  refine ⟨?_, by have := h.le; omega, fun h0 => ?_⟩
  · rw [insCells_length, List.length_take, hl]; omega
  · obtain ⟨b, o, e, hb, hc⟩ := h.at_ (by omega)
    refine ⟨b, o, e, hb, fun j u hu => hc j u ?_⟩
    rw [insCells_take l p (by omega), List.getElem?_take] at hu
    split at hu
    · exact hu
    · cases hu

/-- Whether the first j instructions let the program be cut at p. -/
def cutTo (l : List Ins) (p j : Nat) : Bool := (decide (0 < p) && lastEnds (l.take p)) && (l.take j).all fun i => !goesTo p i
theorem cutTo_zero (l : List Ins) (p : Nat) : cutTo l p 0 = (decide (0 < p) && lastEnds (l.take p)) := by simp [cutTo]
theorem cutTo_succ {l : List Ins} {p j : Nat} {i : Ins} (hi : l[j]? = some i) : cutTo l p (j + 1) = (cutTo l p j && !goesTo p i) := by
  rw [cutTo, cutTo, List.take_add_one, hi]
  simp [Bool.and_assoc]
theorem cutTo_end {l : List Ins} {p : Nat} (h : l.length = p + 1) : cutTo l p p = cutOk l := by
  rw [cutTo, cutOk, h, Nat.add_sub_cancel]
theorem lastEnds_take {l : List Ins} {p : Nat} {i : Ins} (hi : l[p]? = some i) : lastEnds (l.take (p + 1)) = endsB i.op := by
  have hp := (List.getElem?_eq_some_iff.1 hi).1
  have hl : (l.take (p + 1)).length = p + 1 := by rw [List.length_take]; omega
  have e : (l.take (p + 1))[p]? = some i := by
    rw [List.getElem?_take, if_pos (by omega)]; exact hi
  rw [lastEnds, hl, Nat.add_sub_cancel, e]

theorem elem_inss : Try.prog.underlying 22 = some (.slice (Try.prog.elem 22)) := by kernel_rfl
theorem size_inss (W : World) : (sizeOf (Try.prog.elem 22)).run Try.prog W = .ok 5 W := by kernel_rfl
theorem info_ins5 : (Try.prog.info? 47).map (fun i => (i.zero, i.size, i.bytes)) = some (some (.agg #[.int .i64 0, .int .i64 0, .int .i64 0, .int .i64 0, .int .u64 0]), 5, 40) := by kernel_rfl
theorem cells_one (l : List Ins) : ∀ u ∈ insCells l, u.oneCell' = true := by
  intro u hu
  obtain ⟨i, _, hi⟩ := List.mem_flatMap.1 hu
  simp [Ins.cells] at hi
  rcases hi with rfl | rfl | rfl | rfl | rfl <;> rfl

set_option maxRecDepth 100000 in
set_option maxHeartbeats 4000000 in
theorem cuts_walk (l : List Ins) (A : Option Addr) (n c : Nat) (w : World) (hr : RdI w w.heap.size A n l) (hok : ∀ i ∈ l, i.Ok) (hc : n ≤ c) :
    Calls Try.prog 11 #[.slice A n c] w fun e w' => e = .returned (.bool true) ∧ Below w.heap.size w w' := by
  have h63 := hr.le
  have hn63 := hr.le
  unfold maxLen at h63
  have HL := Lib.hid hr.insLen
  have HR := Lib.hid hr
  have HK := Lib.hid hok
  clear hr hok
  go_enter Try.func11, Try.ntmps11
  go_wp2_with fail
  refine (alive5_any _).mono ?_
  rintro e w1 ⟨rfl, hb1⟩
  have HB1 := Lib.hid hb1
  clear hb1
  by_cases h40 : 40 < n
  · go_wp2
    go_ret
    exact ⟨rfl, HB1.out⟩
  go_wp2_with fail
  refine (right_any l A n c _ ((HR.out.below HB1.out).more HB1.out.size) HK.out).mono ?_
  rintro e w2 ⟨rfl, hb2⟩
  have HB2 := Lib.hid (HB1.out.trans (hb2.mono HB1.out.size))
  clear hb2
  cases hp : rightP l
  · go_wp2
    go_ret
    exact ⟨rfl, HB2.out⟩
  have HP := Lib.hid hp
  clear hp
  have hn0 : 0 < n := by rw [← HL.out]; exact (right_parts HP.out).1
  obtain ⟨p, hpn⟩ : ∃ p, n = p + 1 := ⟨n - 1, by omega⟩
  have hn1 : (n : Int) - 1 = (p : Int) := by omega
  have hpl : p < n := by omega
  have hp40 : p ≤ 40 := by omega
  have HPN := Lib.hid hpn
  clear hpn
  have HZ : Hid (∀ j, j < n → ∃ i, l[j]? = some i) := fun j hj => ⟨l[j]'(by rw [HL.out]; exact hj), List.getElem?_eq_getElem _⟩
  have scut := cut_at (P := Try.prog) (n := n) (c := c) (A := A) 22 elem_inss size_inss hn63 hc p (by omega)
  have h0 : ∃ b0 : Bool, Hid (cutTo l p 0 = b0) ∧ ((¬ (0 : Int) < (p : Int) ∧ b0 = false) ∨ ((0 : Int) < (p : Int) ∧ ∃ (r : Nat) (i : Ins), (p : Int) - 1 = (r : Int) ∧ r < n ∧ Hid (l[r]? = some i) ∧ ((i.op = 20 ∧ b0 = true) ∨ (i.op = 21 ∧ b0 = true) ∨ (((i.op == 20) = false ∧ (i.op == 21) = false) ∧ b0 = false)))) := by
    rcases p with _ | r
    · exact ⟨false, by show _ = _; rw [cutTo_zero]; rfl, .inl ⟨by simp, rfl⟩⟩
    · obtain ⟨i, hi⟩ := HZ.out r (by omega)
      have e : cutTo l (r + 1) 0 = endsB i.op := by rw [cutTo_zero, lastEnds_take hi]; simp
      refine ⟨_, e, .inr ⟨by omega, r, i, by omega, by omega, hi, ?_⟩⟩
      by_cases h1 : i.op = 20
      · exact .inl ⟨h1, by simp [endsB, h1]⟩
      by_cases h2 : i.op = 21
      · exact .inr (.inl ⟨h2, by simp [endsB, h2]⟩)
      exact .inr (.inr ⟨by simp [h1, h2], by simp [endsB, h1, h2]⟩)
  obtain ⟨b0, HB0, h0⟩ := h0
  go_upto_region 6 with fail
  go_cut [4] (fun s4 wx => s4 = .bool b0 ∧ wx = w2)
  case first =>
    rcases h0 with ⟨hp0, rfl⟩ | ⟨hp0, r, i, hr1, hrn, hir, h0⟩
    · go_wp2
      go_meet
      exact ⟨rfl, rfl⟩
    · obtain ⟨bI, oI, i', hA, hbI, hi', ci0, ci1, ci2, ci3, ci4⟩ := (HR.out.below HB2.out).insAt hrn
      subst hA
      rw [hir.out] at hi'
      obtain rfl : i = i' := by simpa using hi'
      clear hi' hir
      obtain ⟨op, a, bb, cc, im⟩ := i
      simp only at ci0 ci1 ci2 ci3 ci4 h0
      rcases h0 with ⟨rfl, rfl⟩ | ⟨rfl, rfl⟩ | ⟨⟨g1, g2⟩, rfl⟩
      all_goals
        go_wp2
        go_meet
        exact ⟨rfl, rfl⟩
  case rest =>
    obtain ⟨rfl, rfl⟩ := hcut
    clear h0
    have hszc := HB2.out.size
    go_wp2
    go_loopw [45, 4, 6] (fun t s4 _u wr => ∃ (j : Nat) (b : Bool), (j ≤ p ∧ t = .int .i64 j ∧ s4 = .bool b) ∧ Hid (cutTo l p j = b) ∧ Below wc.heap.size wc wr) (fun t _ _ _ => p - (intOf t).toNat)
    case atStart => exact ⟨0, b0, ⟨by omega, rfl, rfl⟩, HB0, Below.refl _ _⟩
    case round =>
      obtain ⟨j, b, ⟨hj, rfl, rfl⟩, HJ, hb⟩ := hrel
      obtain ⟨wo, rfl⟩ : ∃ wo : World, wo = wr := ⟨_, rfl⟩
      have HB := Lib.hid hb
      have hszr := hb.size
      have HBW := Lib.hid (HB2.out.trans (hb.mono hszc))
      clear hb
      by_cases hlt : j < p
      · have hjn : j < n := by omega
        obtain ⟨bI, oI, i, hA, hbI, hi, ci0, ci1, ci2, ci3, ci4⟩ := (HR.out.below HBW.out).insAt hjn
        subst hA
        have HS := Lib.hid (cutTo_succ (p := p) hi)
        rw [HJ.out] at HS
        clear hi
        obtain ⟨op, a, bb, cc, im⟩ := i
        simp only at ci0 ci1 ci2 ci3 ci4
        cases b
        · have HN : Hid (cutTo l p (j + 1) = false) := HS.out
          go_wp2
          go_roundw
          case rel => exact ⟨j + 1, false, ⟨by omega, by go_num, rfl⟩, HN, HB.out.alloc hszr _⟩
          case measure => simp [intOf]; omega
        · have hs : (op = 17 ∧ im = (p : Int) ∧ Hid (cutTo l p (j + 1) = false)) ∨ (op = 17 ∧ (im == (p : Int)) = false ∧ Hid (cutTo l p (j + 1) = true)) ∨ (op = 18 ∧ im = (p : Int) ∧ Hid (cutTo l p (j + 1) = false)) ∨ (op = 18 ∧ (im == (p : Int)) = false ∧ Hid (cutTo l p (j + 1) = true)) ∨ (((op == 17) = false ∧ (op == 18) = false) ∧ Hid (cutTo l p (j + 1) = true)) := by
            have e := HS.out
            rw [goesTo] at e
            by_cases h1 : op = 17
            · by_cases h2 : im = (p : Int)
              · exact .inl ⟨h1, h2, by show _ = _; rw [e]; simp [h1, h2]⟩
              · exact .inr (.inl ⟨h1, by simpa using h2, by show _ = _; rw [e]; simp [h1, h2]⟩)
            · by_cases h1' : op = 18
              · by_cases h2 : im = (p : Int)
                · exact .inr (.inr (.inl ⟨h1', h2, by show _ = _; rw [e]; simp [h1', h2]⟩))
                · exact .inr (.inr (.inr (.inl ⟨h1', by simpa using h2, by show _ = _; rw [e]; simp [h1', h2]⟩)))
              · exact .inr (.inr (.inr (.inr ⟨by simp [h1, h1'], by show _ = _; rw [e]; simp [h1, h1']⟩)))
          clear HS
          rcases hs with ⟨rfl, rfl, HN⟩ | ⟨rfl, hne, HN⟩ | ⟨rfl, rfl, HN⟩ | ⟨rfl, hne, HN⟩ | ⟨⟨h1, h2⟩, HN⟩
          all_goals
            go_wp2
            go_roundw
            case rel => exact ⟨j + 1, _, ⟨by omega, by go_num, rfl⟩, HN, HB.out.alloc hszr _⟩
            case measure => simp [intOf]; omega
      · obtain rfl : p = j := by omega
        have HRC : Hid (rightP (l.take p) = b) := by
          show _ = _
          rw [← HJ.out, cutTo_end (by rw [HL.out]; exact HPN.out), ← right_cut HP.out, HL.out, HPN.out, Nat.add_sub_cancel]
        have HRM : Hid (rightP (l ++ [ins20]) = true) := right_more HP.out (by rw [HL.out]; omega) ins20_one rfl
        have HRN : Hid (rightP (l ++ [ins1]) = false) := right_not rfl
        obtain ⟨i0, hi0, hz0, hz1, hz2⟩ := info_parts info_ins5
        have OWN5 : Hid ((wo.alloc (.cells #[] 47)).ownsRow wo.heap.size 47 5 (.slice (some ⟨wo.heap.size, 0, none⟩) 0 0) 0 []) := World.ownsRow_made wo #[] 0 (Nat.le_refl _) (by simp [maxLen]) (by simp)
        have RD5 := Lib.hid ((HR.out.below HBW.out).alloc HBW.out.size (.cells #[] 47))
        have tok5 : True := trivial
        have tok5' : True := trivial
        go_wp2_with (first
          | (at_builtin
             have _t := tok5
             go_must (
               refine wpList_app _ rfl (.tmp 69) (.tmp 70) 22 rfl wo.heap.size 47 i0 _ 5 40 Try.underlying22 hi0 hz0 hz1 hz2 rfl (by omega) _ 0 [] rfl OWN5.out _ _ n c _ rfl RD5.out (cells_one _) ?_ ?_ ?_ ?_
               · simp only [maxLen]; omega
               · omega
               · simp
               intro v5 w5 hown5 hg5 _
               rw [List.nil_append, Nat.zero_add] at hown5
               have HO5 := Lib.hid hown5
               have HL5 := Lib.hid (below_own ((Below.refl wo.heap.size wo).alloc (Nat.le_refl _) _) OWN5.out hg5 (Nat.le_refl _) (by simp))
               have HN5 : Hid (RdI (w5.alloc (.cells #[.int .i64 20, .int .i64 0, .int .i64 0, .int .i64 0, .int .u64 0] 47)) (w5.heap.size + 1) (some ⟨w5.heap.size, 0, none⟩) 1 [ins20]) := Rd.new w5 _ _ (size := 5) (m := 1) rfl (by simp [maxLen])
               clear hown5 hg5 _t tok5))
          | (at_builtin
             have _t := tok5'
             go_must (
               refine wpList_app _ rfl (.tmp 71) (.tmp 73) 22 rfl wo.heap.size 47 i0 _ 5 40 Try.underlying22 hi0 hz0 hz1 hz2 rfl (by omega) _ n _ rfl (HO5.out.alloc _) _ _ 1 1 _ rfl HN5.out (cells_one _) ?_ ?_ ?_ ?_
               · simp only [maxLen]; omega
               · omega
               · have := HL5.out.size; simp; omega
               intro v6 w6 hown6 hg6 _
               rw [← insCells_append] at hown6
               have HO6 := Lib.hid hown6
               have HL6 := Lib.hid (below_own (HL5.out.alloc HL5.out.size _) (HO5.out.alloc _) hg6 (Nat.le_refl _) (by have := HL5.out.size; simp; omega))
               clear hown6 hg6 _t tok5')))
        obtain ⟨A6, c6, hv6, hc6, r6⟩ := Rd.of_own_cap HO6.out
        subst hv6
        have HB6 := Lib.hid (HBW.out.trans (HL6.out.mono HBW.out.size))
        have R6 := Lib.hid r6
        clear r6 HO6 OWN5 RD5 HO5 HN5 HL5
        refine (right_any (l.take p) A p c _ (((HR.out.below HB6.out).more HB6.out.size).insTake (by omega)) (fun i hi => HK.out i (List.mem_of_mem_take hi))).mono ?_
        rintro e w7 ⟨rfl, hb7⟩
        rw [HRC.out]
        have HB7 := Lib.hid (HB6.out.trans (hb7.mono HB6.out.size))
        have R7 := Lib.hid ((R6.out.below hb7).more hb7.size)
        clear hb7
        go_wp2_with fail
        refine (right_any (l ++ [ins20]) A6 (n + 1) c6 _ R7.out (fun i hi => ?_)).mono ?_
        · rcases List.mem_append.1 hi with hi | hi
          · exact HK.out i hi
          · simp at hi; subst hi; constructor <;> decide
        rintro e w8 ⟨rfl, hb8⟩
        rw [HRM.out]
        have HB8 := Lib.hid (HB7.out.trans (hb8.mono HB7.out.size))
        clear hb8
        have OWN9 : Hid ((w8.alloc (.cells #[] 47)).ownsRow w8.heap.size 47 5 (.slice (some ⟨w8.heap.size, 0, none⟩) 0 0) 0 []) := World.ownsRow_made w8 #[] 0 (Nat.le_refl _) (by simp [maxLen]) (by simp)
        have RD9 := Lib.hid ((HR.out.below HB8.out).alloc HB8.out.size (.cells #[] 47))
        have tok9 : True := trivial
        have tok9' : True := trivial
        go_wp2_with (first
          | (at_builtin
             have _t := tok9
             go_must (
               refine wpList_app_want _ rfl (.tmp 86) (.tmp 87) 22 rfl w8.heap.size 47 i0 _ 5 40 Try.underlying22 hi0 hz0 hz1 hz2 rfl (by omega) _ 0 [] rfl OWN9.out _ _ n c _ rfl RD9.out (cells_one _) ?_ ?_ ?_ ?_
               · simp only [maxLen]; omega
               · omega
               · simp
               intro v9 w9 hown9 hg9 _
               rw [List.nil_append, Nat.zero_add] at hown9
               have HO9 := Lib.hid hown9
               have HL9 := Lib.hid (below_own ((Below.refl w8.heap.size w8).alloc (Nat.le_refl _) _) OWN9.out hg9 (Nat.le_refl _) (by simp))
               have HN9 : Hid (RdI (w9.alloc (.cells #[.int .i64 1, .int .i64 0, .int .i64 0, .int .i64 0, .int .u64 0] 47)) (w9.heap.size + 1) (some ⟨w9.heap.size, 0, none⟩) 1 [ins1]) := Rd.new w9 _ _ (size := 5) (m := 1) rfl (by simp [maxLen])
               clear hown9 hg9 _t tok9))
          | (at_builtin
             have _t := tok9'
             go_must (
               refine wpList_app_want _ rfl (.tmp 88) (.tmp 90) 22 rfl w8.heap.size 47 i0 _ 5 40 Try.underlying22 hi0 hz0 hz1 hz2 rfl (by omega) _ n _ rfl (HO9.out.alloc _) _ _ 1 1 _ rfl HN9.out (cells_one _) ?_ ?_ ?_ ?_
               · simp only [maxLen]; omega
               · omega
               · have := HL9.out.size; simp; omega
               intro v10 w10 hown10 hg10 _
               rw [← insCells_append] at hown10
               have HO10 := Lib.hid hown10
               have HL10 := Lib.hid (below_own (HL9.out.alloc HL9.out.size _) (HO9.out.alloc _) hg10 (Nat.le_refl _) (by have := HL9.out.size; simp; omega))
               clear hown10 hg10 _t tok9')))
        obtain ⟨A10, c10, hv10, hc10, r10⟩ := Rd.of_own_cap HO10.out
        subst hv10
        have HB10 := Lib.hid (HB8.out.trans (HL10.out.mono HB8.out.size))
        have R10 := Lib.hid r10
        clear r10 HO10 OWN9 RD9 HO9 HN9 HL9
        refine (right_any (l ++ [ins1]) A10 (n + 1) c10 _ R10.out (fun i hi => ?_)).mono ?_
        · rcases List.mem_append.1 hi with hi | hi
          · exact HK.out i hi
          · simp at hi; subst hi; constructor <;> decide
        rintro e w11 ⟨rfl, hb11⟩
        rw [HRN.out]
        have HB11 := Lib.hid (HB10.out.trans (hb11.mono HB10.out.size))
        clear hb11
        go_wp2
        go_ret
        exact ⟨ret_bool (by simp), HB11.out⟩
end Go.Proofs.Ytkkbgpfimapnoaa
