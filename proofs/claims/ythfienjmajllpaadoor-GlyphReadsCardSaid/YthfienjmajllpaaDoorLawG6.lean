/-
  Chapter 2: the law GlyphReads: the walk.
-/
import Derived.Test.YthfienjmajllpaaDoorRefC
import Derived.Test.YthfienjmajllpaaDoorRefE
import Derived.Test.YthfienjmajllpaaDoorGlyR
import Derived.Deep.RegionHeld3
import Derived.Laws.BitsLemmas
namespace Go.Proofs.YthfienjmajllpaaDoor
open Go.RowKit
set_option linter.unusedVariables false

theorem i64_and7 (n : Int) : bits .and .i64 n 7 = n % 8 := by
  have h7 : (BitVec.ofInt 64 7).toNat = 2 ^ 3 - 1 := by decide
  have key : (BitVec.ofInt 64 n &&& BitVec.ofInt 64 7).toNat = (n % ((2 ^ 64 : Nat) : Int)).toNat % 2 ^ 3 := by
    rw [BitVec.toNat_and, BitVec.toNat_ofInt, h7, Nat.and_two_pow_sub_one_eq_mod]
  show IntKind.i64.wrap ((BitVec.ofInt 64 n &&& BitVec.ofInt 64 7).toNat : Nat) = n % 8
  rw [key, IntKind.wrap_i64]
  omega
theorem linesGo_le : ∀ (r line : List Tok), (linesGo r line).length ≤ r.length + 1
  | [], line => by
    rw [linesGo]
    split <;> simp
  | t :: r, line => by
    rw [linesGo_cons]
    split
    · have := linesGo_le r []
      simp only [List.length_cons]; omega
    · have := linesGo_le r (line ++ [t])
      simp only [List.length_cons]; omega

theorem linesGo_mem : ∀ (r line x : List Tok), x ∈ linesGo r line → x.length ≤ r.length + line.length
  | [], line, x, h => by
    rw [linesGo] at h
    split at h
    · simp at h
    · obtain rfl := List.mem_singleton.1 h
      simp
  | t :: r, line, x, h => by
    rw [linesGo_cons] at h
    split at h
    · rcases List.mem_cons.1 h with rfl | h
      · simp only [List.length_cons]; omega
      · have := linesGo_mem r [] x h
        simp only [List.length_cons, List.length_nil] at this ⊢; omega
    · have := linesGo_mem r (line ++ [t]) x h
      simp only [List.length_cons, List.length_append, List.length_nil] at this ⊢; omega

set_option maxRecDepth 100000 in
set_option maxHeartbeats 8000000 in
theorem reads_walk (s : ByteArray) (most : Int) (W : World) (htab : PowTab W) (hU : Lib.Utf8Tabs 1 2 W) (hs63 : s.size ≤ maxLen) (hm : -9223372036854775808 ≤ most ∧ most ≤ 9223372036854775807) :
    Calls Tryd.prog 8 #[.string s, .int .i64 most] W fun e w' => e = .returned (.bool true) ∧ Below W.heap.size W w' := by
  have HT := Lib.hid htab
  have HU := Lib.hid hU
  clear htab hU
  have HS63 := Lib.hid hs63
  unfold maxLen at hs63
  go_enter Tryd.func8, Tryd.ntmps8
  go_wp2_with fail
  refine (alive_any _ HT.out).mono ?_
  rintro e w1 ⟨rfl, hb1⟩
  have HB1 := Lib.hid hb1
  have hz1 := hb1.size
  clear hb1
  by_cases h600 : 600 < s.size
  · go_wp2
    go_ret
    exact ⟨rfl, HB1.out⟩
  obtain ⟨L, p, ec, hL⟩ : ∃ L p ec, lexP s = (L, p, ec) := ⟨_, _, _, rfl⟩
  have HL := Lib.hid hL
  obtain ⟨n, hn⟩ : ∃ n, L.length = n := ⟨_, rfl⟩
  have HN := Lib.hid hn
  have hfl := lexP_forms s (by omega)
  rw [hL] at hfl
  have hn600 : n ≤ 600 := by have := hfl.2; simp only at this; omega
  obtain ⟨N, hNl⟩ : ∃ N, (linesP L).length = N := ⟨_, rfl⟩
  have HNl := Lib.hid hNl
  have hN601 : N ≤ 601 := by rw [← hNl]; have := linesGo_le L []; show (linesGo L []).length ≤ _; omega
  obtain ⟨q, hq⟩ : ∃ q : Nat, bits .and .i64 most 7 = (q : Int) ∧ q ≤ 7 := ⟨(most % 8).toNat, by rw [i64_and7]; omega, by omega⟩
  obtain ⟨hand, hq7⟩ := hq
  clear hL hn hfl hNl
  go_wp2_with fail
  refine (lex_to HL.out _ HS63.out).mono ?_
  rintro e w2 ⟨A, c, rfl, _, hr2, hb2⟩
  rw [HN.out] at hr2 ⊢
  have HR2 := Lib.hid hr2
  have HB2 := Lib.hid (HB1.out.trans (hb2.mono hz1))
  have hz2 := HB2.out.size
  clear hr2 hb2
  go_wp2_with fail
  refine (rlex_to HL.out (by omega) _ (utf8_below HU.out HB2.out)).mono ?_
  rintro e w3 ⟨v3, rfl, ho3, hb3⟩
  rw [HN.out] at ho3
  obtain ⟨A3, c3, rfl, _, hr3⟩ := Rd.of_own_cap ho3
  have HQ3 := Lib.hid hr3
  have HR3 := Lib.hid ((HR2.out.below hb3).more hb3.size)
  have HB3 := Lib.hid (HB2.out.trans (hb3.mono hz2))
  have hz3 := HB3.out.size
  clear ho3 hr3 hb3 HR2
  go_wp2_with fail
  refine (as_any L _ _ _ _ HR3.out (by omega)).mono ?_
  rintro e w4 ⟨A4, c4, rfl, ho4, hb4⟩
  rw [HN.out] at ho4 ⊢
  obtain ⟨_, _, he4, _, hr4⟩ := Rd.of_own_cap ho4
  cases he4
  have HS4 := Lib.hid hr4
  have HQ4 := Lib.hid ((HQ3.out.below hb4).more hb4.size)
  have HR4 := Lib.hid ((HR3.out.below hb4).more hb4.size)
  have HB4 := Lib.hid (HB3.out.trans (hb4.mono hz3))
  have hz4 := HB4.out.size
  clear ho4 hr4 hb4 HR3 HQ3
  go_wp2_with fail
  refine (exact_any L _ _ _ _ _ _ HS4.out HQ4.out (by omega)).mono ?_
  rintro e w5 ⟨rfl, hb5⟩
  have HQ5 := Lib.hid ((HQ4.out.below hb5).more hb5.size)
  have HR5 := Lib.hid ((HR4.out.below hb5).more hb5.size)
  have HB5 := Lib.hid (HB4.out.trans (hb5.mono hz4))
  have hz5 := HB5.out.size
  clear hb5 HR4 HQ4 HS4
  go_wp2_with fail
  refine (rlines_any L _ _ _ _ HQ5.out (by omega)).mono ?_
  rintro e w6 ⟨Ar, cr, xr, rfl, hlr, hRr, hLr, hb6⟩
  rw [HNl.out] at hlr
  rw [hlr] at hRr ⊢
  have HRr6 := Lib.hid hRr
  have HLr6 := Lib.hid hLr
  have HXr := Lib.hid hlr
  have HR6 := Lib.hid ((HR5.out.below hb6).more hb6.size)
  have HB6 := Lib.hid (HB5.out.trans (hb6.mono hz5))
  have hz6 := HB6.out.size
  clear hb6 hRr hLr hlr HR5 HQ5
  go_wp2_with fail
  refine (lines2_any L _ _ _ 1000 _ HR6.out (by omega) (by rw [HNl.out]; omega) (by omega)).mono ?_
  rintro e w7 ⟨Aa, ca, xa, rfl, hka, hRa, hLa, hb7⟩
  have hla : xa.length = N := by
    rw [keptLines, if_neg (by omega), HNl.out] at hka
    omega
  rw [hla] at hRa ⊢
  have HRa7 := Lib.hid hRa
  have HLa7 := Lib.hid hLa
  have HXa := Lib.hid hla
  have HRr7 := Lib.hid ((HRr6.out.below hb7).more hb7.size)
  have HLr7 := Lib.hid (HLr6.out.below hb7)
  have HR7 := Lib.hid ((HR6.out.below hb7).more hb7.size)
  have HB7 := Lib.hid (HB6.out.trans (hb7.mono hz6))
  have hz7 := HB7.out.size
  clear hb7 hRa hLa hla hka HRr6 HLr6 HR6
  go_wp2_with fail
  refine (lines_any L _ _ _ (q : Int) _ HR7.out (by omega) (by rw [HNl.out]; omega) (by omega)).mono ?_
  rintro e w8 ⟨A8, m8, c8, rfl, hm8, hb8⟩
  have hm8' : m8 = min q N := by
    rw [keptLines, HNl.out] at hm8
    split at hm8 <;> omega
  have HRa8 := Lib.hid ((HRa7.out.below hb8).more hb8.size)
  have HLa8 : Hid (Lns L w6.heap.size xa w8) := fun i x hx => by
    obtain ⟨ln, h1, h2⟩ := HLa7.out i x hx
    exact ⟨ln, h1, own_below h2 hb8⟩
  have HRr8 := Lib.hid ((HRr7.out.below hb8).more hb8.size)
  have HLr8 := Lib.hid (HLr7.out.below hb8)
  have HB8 := Lib.hid (HB7.out.trans (hb8.mono hz7))
  have hz8 := HB8.out.size
  clear hb8 hm8 HRa7 HLa7 HRr7 HLr7 HR7
  obtain ⟨M, hM⟩ : ∃ M : Nat, min q N = M := ⟨_, rfl⟩
  rw [hM] at hm8'
  subst hm8'
  have hmin : min (q : Int) (N : Int) = (m8 : Int) := by omega
  go_wp2
  go_loopw [13, 14, 71] (fun _i _l k wr => ∃ j : Nat, (j ≤ N ∧ k = .int .i64 j) ∧ Below w8.heap.size w8 wr) (fun _ _ k _ => N - (intOf k).toNat)
  case atStart => exact ⟨0, ⟨by omega, rfl⟩, Below.refl _ _⟩
  case round =>
    obtain ⟨j, ⟨hj, rfl⟩, hb⟩ := hrel
    have HB := Lib.hid hb
    have hsz := hb.size
    have HBW := Lib.hid (HB8.out.trans (hb.mono hz8))
    clear hb
    by_cases hlt : j < N
    · obtain ⟨xaj, hxa⟩ : ∃ x, xa[j]? = some x := ⟨_, List.getElem?_eq_getElem (by rw [HXa.out]; exact hlt)⟩
      obtain ⟨xrj, hxr⟩ : ∃ x, xr[j]? = some x := ⟨_, List.getElem?_eq_getElem (by rw [HXr.out]; exact hlt)⟩
      obtain ⟨ln, hln, hoa⟩ := HLa8.out j xaj hxa
      obtain ⟨ln2, hln2, hor⟩ := HLr8.out j xrj hxr
      rw [hln] at hln2
      obtain rfl := Option.some.inj hln2
      obtain ⟨_, A1, n1, c1, rfl⟩ := xaj
      obtain ⟨_, A2, n2, c2, rfl⟩ := xrj
      obtain ⟨_, _, e1, _, ra⟩ := Rd.of_own_cap (own_below hoa HB.out)
      obtain ⟨_, _, e2, _, rr⟩ := Rd.of_own_cap (own_below hor HB.out)
      cases e1
      cases e2
      obtain ⟨ba, oa, rfl, hbA, hca⟩ := (HRa8.out.below HB.out).at_ (by omega)
      obtain ⟨br, or_, rfl, hbR, hcr⟩ := (HRr8.out.below HB.out).at_ (by omega)
      have k0 := hca j _ (by rw [List.getElem?_map, hxa]; rfl)
      have k1 := hcr j _ (by rw [List.getElem?_map, hxr]; rfl)
      simp only at k0 k1
      have hl6 : ln.length ≤ 1000000 := by
        have h1 := linesGo_mem L [] ln (List.mem_of_getElem? hln)
        rw [HN.out] at h1
        simp only [List.length_nil] at h1
        omega
      have HRa := Lib.hid ra
      have HRr := Lib.hid rr
      have hbR2 : br < wr.heap.size := by omega
      clear hln hoa hor hxa hxr hca hcr ra rr
      obtain ⟨m, hm'⟩ : ∃ m, ln.length = m := ⟨_, rfl⟩
      rw [hm'] at HRa HRr k0 k1 hl6
      have HM := Lib.hid hm'
      clear hm'
      go_wp2_with fail
      have HRaD : Hid (RdT wr.drew wr.drew.heap.size A1 m ln) := HRa.out.drew
      have HRrD : Hid (RdT wr.drew wr.drew.heap.size A2 m ln) := HRr.out.drew
      have hbR3 : br < wr.drew.heap.size := hbR2
      have kD : wr.drew.cell? ⟨br, or_ + j, none⟩ = some (.slice A2 m c2) := k1
      go_region_held3 (fun w' => w'.cell? ⟨br, or_ + j, none⟩ = some (.slice A2 m c2))
        (first | exact k1 | exact kD | exact p1 | exact p2 | go_keep)
        (first
          | (go_at_call 12
             refine (as_any ln _ _ _ _ HRaD.out hl6).mono ?_
             rintro e w9 ⟨A9, c9, rfl, ho9, hb9⟩
             rw [HM.out] at ho9 ⊢
             obtain ⟨_, _, e9, _, r9⟩ := Rd.of_own_cap ho9
             cases e9
             have HS9 := Lib.hid r9
             have HQ9 := Lib.hid ((HRrD.out.below hb9).more hb9.size)
             have HB9 := Lib.hid (HB.out.drew.trans (hb9.mono hsz))
             have p1 := (hb9.cell (p := ⟨br, or_ + j, none⟩) hbR3).trans kD
             clear ho9 r9 hb9)
          | (go_at_call 16
             refine (exact_any ln _ _ _ _ _ _ HS9.out HQ9.out hl6).mono ?_
             rintro e w10 ⟨rfl, hb10⟩
             have HB10 := Lib.hid (HB9.out.trans (hb10.mono HB9.out.size))
             have p2 := (hb10.cell (p := ⟨br, or_ + j, none⟩) (World.block_lt_of_cell? _ _ p1)).trans p1
             clear hb10))
      go_wp2
      go_roundw
      case rel => exact ⟨j + 1, ⟨by omega, by go_num⟩, HB10.out⟩
      case measure => simp [intOf]; omega
    · obtain rfl : j = N := by omega
      go_wp2
      go_ret
      exact ⟨rfl, HBW.out⟩
end Go.Proofs.YthfienjmajllpaaDoor
