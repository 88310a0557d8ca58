/-
  Chapter 2: the law GlyphJoins: the walk.
-/
import Derived.Test.YthfienjmajllpaaDoorJoinQ
import Derived.Test.YthfienjmajllpaaDoorLexL
import Derived.Test.YthfienjmajllpaaDoorGlyJ
import Derived.Test.YthfienjmajllpaaDoorGlyR
import Derived.Laws.BitsLemmas
namespace Go.Proofs.YthfienjmajllpaaDoor
open Go.RowKit
set_option linter.unusedVariables false

theorem i64_and15 (n : Int) : bits .and .i64 n 15 = n % 16 := by
  have h15 : (BitVec.ofInt 64 15).toNat = 2 ^ 4 - 1 := by decide
  have key : (BitVec.ofInt 64 n &&& BitVec.ofInt 64 15).toNat = (n % ((2 ^ 64 : Nat) : Int)).toNat % 2 ^ 4 := by
    rw [BitVec.toNat_and, BitVec.toNat_ofInt, h15, Nat.and_two_pow_sub_one_eq_mod]
  show IntKind.i64.wrap ((BitVec.ofInt 64 n &&& BitVec.ofInt 64 15).toNat : Nat) = n % 16
  rw [key, IntKind.wrap_i64]
  omega

theorem width_le (s : ByteArray) (pos : Nat) (h : pos < s.size) : pos + (Utf8.decode s pos).2 ≤ s.size := by
  have hl : s.data.toList.length = s.size := rfl
  have hne : s.data.toList.drop pos ≠ [] := by
    intro e
    have := congrArg List.length e
    rw [List.length_drop, hl, List.length_nil] at this
    omega
  have hD := Lib.decodeL_drop s pos
  have hk := Lib.decodeL_le _ hne
  rw [hD, List.length_drop, hl] at hk
  omega

set_option maxRecDepth 100000 in
set_option maxHeartbeats 8000000 in
theorem joins_walk (a b r : ByteArray) (n : Int) (W : World) (htab : PowTab W) (hs1 : a.size ≤ maxLen) (hs2 : b.size ≤ maxLen) (hs3 : r.size ≤ maxLen) (hn : -9223372036854775808 ≤ n ∧ n ≤ 9223372036854775807) :
    Calls Tryd.prog 5 #[.string a, .string b, .string r, .int .i64 n] W fun e w' => e = .returned (.bool true) ∧ Below W.heap.size W w' := by
  obtain ⟨i0, hi0, hz0', hz1', hz2'⟩ := info_parts info_rtok
  have HT := Lib.hid htab
  clear htab
  unfold maxLen at hs1 hs2 hs3
  go_enter Tryd.func5, Tryd.ntmps5
  go_wp2_with fail
  refine (alive_any _ HT.out).mono ?_
  rintro e w1 ⟨rfl, hb1⟩
  have HB1 := Lib.hid hb1
  have hz1 := hb1.size
  clear hb1
  by_cases hA : 300 < a.size
  · go_wp2
    go_ret
    exact ⟨rfl, HB1.out⟩
  by_cases hB : 300 < b.size
  · go_wp2
    go_ret
    exact ⟨rfl, HB1.out⟩
  by_cases hR : 300 < r.size
  · go_wp2
    go_ret
    exact ⟨rfl, HB1.out⟩
  obtain ⟨La, pa, ea, hLa⟩ : ∃ L p ec, lexP a = (L, p, ec) := ⟨_, _, _, rfl⟩
  obtain ⟨Lb, pb, eb, hLb⟩ : ∃ L p ec, lexP b = (L, p, ec) := ⟨_, _, _, rfl⟩
  obtain ⟨na, hna⟩ : ∃ n, La.length = n := ⟨_, rfl⟩
  obtain ⟨nb, hnb⟩ : ∃ n, Lb.length = n := ⟨_, rfl⟩
  have HLa := Lib.hid hLa
  have HLb := Lib.hid hLb
  have HNa := Lib.hid hna
  have HNb := Lib.hid hnb
  have hna3 : na ≤ 300 := by have h := (lexP_forms a (by omega)).2; rw [hLa] at h; simp only at h; omega
  have hnb3 : nb ≤ 300 := by have h := (lexP_forms b (by omega)).2; rw [hLb] at h; simp only at h; omega
  have HPb : Hid (eb ≠ 0 → 0 ≤ pb ∧ pb < (b.size : Int)) := fun h => lexP_place hLb (by omega) h
  clear hLa hLb hna hnb
  go_wp2_with fail
  refine (lex_to HLa.out _ (by unfold maxLen; omega)).mono ?_
  rintro e w2 ⟨A, cA, rfl, _, hr2, hb2⟩
  rw [HNa.out] at hr2 ⊢
  have HRa2 := Lib.hid hr2
  have HB2 := Lib.hid (HB1.out.trans (hb2.mono hz1))
  have hz2 := HB2.out.size
  clear hr2 hb2
  go_wp2_with fail
  refine (lex_to HLb.out _ (by unfold maxLen; omega)).mono ?_
  rintro e w3 ⟨B, cB, rfl, _, hr3, hb3⟩
  rw [HNb.out] at hr3 ⊢
  have HRb3 := Lib.hid hr3
  have HRa3 := Lib.hid ((HRa2.out.below hb3).more hb3.size)
  have HB3 := Lib.hid (HB2.out.trans (hb3.mono hz2))
  have hz3 := HB3.out.size
  clear hr3 hb3 HRa2
  obtain ⟨m, hm⟩ : ∃ m : Nat, bits .and .i64 n 15 = (m : Int) ∧ m ≤ 15 := ⟨(n % 16).toNat, by rw [i64_and15]; omega, by omega⟩
  obtain ⟨hand, hm15⟩ := hm
  go_wp2
  go_loopw [15, 17] (fun nt _c wr => ∃ (pos : Nat) (note : ByteArray), (pos ≤ r.size ∧ nt = .string note ∧ note.size ≤ 4 * pos) ∧ Hid (∀ x ∈ note.data.toList, x ≠ 10) ∧ wr.heap[w3.heap.size]? = some (.stringIter r pos) ∧ Below w3.heap.size w3 wr) (fun _ _ wr => r.size - wr.iterPos w3.heap.size)
  case atStart => exact ⟨0, ⟨#[]⟩, ⟨by omega, rfl, by simp [ByteArray.size]⟩, fun x hx => (by simp at hx), World.iter_heap w3 r 0, (Below.refl _ _).alloc (Nat.le_refl _) _⟩
  case round =>
    obtain ⟨pos, note, ⟨hpos, rfl, hns⟩, HNote, hit, hb⟩ := hrel
    have HB := Lib.hid hb
    have HI := Lib.hid hit
    clear hb hit
    have h3 : (∃ hp : pos < r.size, (Utf8.decode r pos).1 ≠ 10) ∨ ¬ pos < r.size ∨ ∃ hp : pos < r.size, (Utf8.decode r pos).1 = 10 := by
      by_cases hp : pos < r.size
      · by_cases h10 : (Utf8.decode r pos).1 = 10
        · exact .inr (.inr ⟨hp, h10⟩)
        · exact .inl ⟨hp, h10⟩
      · exact .inr (.inl hp)
    rcases h3 with ⟨hp, h10⟩ | hp | ⟨hp, h10⟩
    · have hnx : ∀ ty, (Instr.next (.pointer (some ⟨w3.heap.size, 0, none⟩)) true ty).run Tryd.prog wr = _ := fun ty => Lib.run_next_any_at wr w3.heap.size r pos ty HI.out hp
      have hit2 := Lib.hid (Lib.iterAt_heap wr w3.heap.size r pos (pos + (Utf8.decode r pos).2) HI.out)
      have hb2 := Lib.hid (Lib.below_iterAt HB.out (k := w3.heap.size) (Nat.le_refl _) r (pos + (Utf8.decode r pos).2))
      have hle := width_le r pos hp
      have h1 := width_pos r pos hp
      have HP := Lib.hid hp
      generalize (Utf8.decode r pos).1 = c at hnx h10
      generalize (Utf8.decode r pos).2 = kk at hnx hit2 hb2 hle h1
      have hc10 : ((c : Int) == 10) = false := by simp; omega
      have hcv : ∀ Wd, (convert 21 9 (.int .i32 (c : Int))).run Tryd.prog Wd = .ok (.string (Utf8.encode (c : Int))) Wd := fun Wd => run_convert_int_string Wd _ _ _ _ (by kernel_rfl) Tryd.underlying9
      have henc := encode_no10 c h10
      generalize Utf8.encode (c : Int) = enc at hcv henc
      have he4 := henc.1
      have HE := Lib.hid henc.2
      clear henc h10 hp
      go_wp2
      go_roundw
      case rel =>
        refine ⟨pos + kk, note ++ enc, ⟨hle, rfl, by rw [ByteArray.size_append]; omega⟩, ?_, hit2.out, hb2.out⟩
        show ∀ x ∈ _, _
        intro x hx
        rw [ByteArray.data_append, Array.toList_append] at hx
        rcases List.mem_append.1 hx with h | h
        · exact HNote.out x h
        · exact HE.out x h
      case measure =>
        have := HP.out
        simp only [World.iterPos, hit2.out, HI.out]
        omega
    case' inr.inl =>
      have hnx : ∀ ty, (Instr.next (.pointer (some ⟨w3.heap.size, 0, none⟩)) true ty).run Tryd.prog wr = _ := fun ty => Lib.run_next_end_at wr w3.heap.size r pos ty HI.out hp
      have HX := HB
    case' inr.inr =>
      have hnx : ∀ ty, (Instr.next (.pointer (some ⟨w3.heap.size, 0, none⟩)) true ty).run Tryd.prog wr = _ := fun ty => Lib.run_next_any_at wr w3.heap.size r pos ty HI.out hp
      have HX := Lib.hid (Lib.below_iterAt HB.out (k := w3.heap.size) (Nat.le_refl _) r (pos + (Utf8.decode r pos).2))
      rw [h10] at hnx
      generalize pos + (Utf8.decode r pos).2 = pos2 at hnx HX
    all_goals
      clear hp HB HI
      go_wp2
      go_loopw [18, 63] (fun pd i wy => ∃ (k : Nat) (pad : ByteArray), (k ≤ m ∧ pd = .string pad ∧ i = .int .i64 k ∧ pad.size = 2 * k) ∧ Hid (∀ x ∈ pad.data.toList, x = 32 ∨ x = 9) ∧ Below w3.heap.size w3 wy) (fun _ i _ => m - (intOf i).toNat)
      case atStart => exact ⟨0, ⟨#[]⟩, ⟨by omega, rfl, rfl, by simp [ByteArray.size]⟩, fun x hx => (by simp at hx), HX.out⟩
      case round =>
        obtain ⟨k, pad, ⟨hk, rfl, rfl, hps⟩, HPad, hb⟩ := hrel
        have HY := Lib.hid hb
        clear hb hnx
        by_cases hlt : k < m
        · go_wp2
          go_roundw
          case rel =>
            refine ⟨k + 1, pad ++ ⟨#[32, 9]⟩, ⟨by omega, rfl, by go_num, by rw [ByteArray.size_append, hps]; show 2 * k + 2 = _; omega⟩, ?_, HY.out⟩
            show ∀ x ∈ _, _
            intro x hx
            rw [ByteArray.data_append, Array.toList_append] at hx
            rcases List.mem_append.1 hx with h | h
            · exact HPad.out x h
            · simpa using h
          case measure => simp [intOf]; omega
        · obtain rfl : k = m := by omega
          have hns12 : note.size ≤ 1200 := by omega
          have hps30 : pad.size ≤ 30 := by omega
          have HJ := Lib.hid (joins_plain HPad.out HNote.out (by omega) (by omega) hps30 hns12 HLa.out HLb.out)
          have HSz : Hid ((joined a pad note b).size ≤ maxLen) := by show _ ≤ _; rw [joined_size]; unfold maxLen; omega
          have RA := Lib.hid ((HRa3.out.below HY.out).more HY.out.size)
          have RB := Lib.hid ((HRb3.out.below HY.out).more HY.out.size)
          have HB4 := Lib.hid (HB3.out.trans (HY.out.mono hz3))
          have hz4 := HB4.out.size
          clear hlt hand
          by_cases he : ea = 0
          · subst he
            by_cases hf : eb = 0
            · subst hf
              obtain ⟨L, hL, hSame, hll⟩ := HJ.out.2.2 rfl rfl
              obtain ⟨nl, hnl⟩ : ∃ n, L.length = n := ⟨_, rfl⟩
              have hnl6 : nl ≤ 601 := by rw [← hnl, hll, HNa.out, HNb.out]; omega
              have HL := Lib.hid hL
              have HSame := Lib.hid hSame
              have HNl := Lib.hid hnl
              clear hL hSame hll hnl
              go_wp2_with fail
              refine (lex_to HL.out _ HSz.out).mono ?_
              rintro e w5 ⟨A5, c5, rfl, _, hr5, hb5⟩
              rw [HNl.out] at hr5 ⊢
              have RL5 := Lib.hid hr5
              have RA5 := Lib.hid ((RA.out.below hb5).more hb5.size)
              have RB5 := Lib.hid ((RB.out.below hb5).more hb5.size)
              have HB5 := Lib.hid (HB4.out.trans (hb5.mono hz4))
              have hz5 := HB5.out.size
              clear hb5 hr5 RA RB HB4 HJ
              go_wp2_with fail
              refine (as_any La _ _ _ _ RA5.out (by omega)).mono ?_
              rintro e w6 ⟨A6, c6, rfl, ho6, hb6⟩
              rw [HNa.out] at ho6 ⊢
              have HO6 := Lib.hid ho6
              have HB56 := Lib.hid hb6
              have hz56 := hb6.size
              clear hb6 ho6 RA5
              have RM : Hid (RdT (w6.alloc (.cells #[.int .i64 3, .string ⟨#[]⟩, .int .u64 0, .int .i64 0, .int .i64 0] 37)) (w6.heap.size + 1) (some ⟨w6.heap.size, 0, none⟩) 1 [midTok]) := Rd.newAt w6 _ _ _ rfl (size := 5) (m := 1) rfl (by simp [maxLen])
              go_wp2_with (at_builtin; refine wpList_app _ (by rfl) (.tmp 116) (.tmp 118) 29 (by rfl) w5.heap.size 37 i0 _ 5 48 Tryd.underlying29 hi0 hz0' hz1' hz2' rfl (by decide) (.slice A6 na c6) na (tokCells La) (by rfl) (HO6.out.alloc _) (w6.heap.size + 1) (some ⟨w6.heap.size, 0, none⟩) 1 1 (tokCells [midTok]) (by rfl) RM.out (tokCells_one _) ?c4 ?c5 ?c6 ?_)
              case c4 => simp only [maxLen]; omega
              case c5 => omega
              case c6 => simp; omega
              intro v7 w7 hown7 hg7 _
              obtain ⟨A7, c7, hv7, _, _⟩ := Rd.of_own_cap hown7
              subst hv7
              rw [← tokCells_append] at hown7
              have HO7 := Lib.hid hown7
              have HB57 := Lib.hid (below_own (HB56.out.alloc hz56 _) (HO6.out.alloc _) hg7 (Nat.le_refl _) (by simp; omega))
              have hz57 := HB57.out.size
              have RB7 := Lib.hid ((RB5.out.below HB57.out).more hz57)
              clear hown7 hg7 RB5 HO6 HB56 RM
              go_wp2_with fail
              refine (as_any Lb _ _ _ _ RB7.out (by omega)).mono ?_
              rintro e w8 ⟨A8, c8, rfl, ho8, hb8⟩
              rw [HNb.out] at ho8 ⊢
              obtain ⟨_, _, he8, _, hr8⟩ := Rd.of_own_cap ho8
              cases he8
              have HR8 := Lib.hid hr8
              have HO8 := Lib.hid (own_below HO7.out hb8)
              have HB58 := Lib.hid (HB57.out.trans (hb8.mono hz57))
              have hz58 := HB58.out.size
              clear ho8 hr8 hb8 HO7 HB57 RB7
              go_wp2_with (at_builtin; refine wpList_app _ (by rfl) (.tmp 119) (.tmp 121) 29 (by rfl) w5.heap.size 37 i0 _ 5 48 Tryd.underlying29 hi0 hz0' hz1' hz2' rfl (by decide) (.slice A7 (na + 1) c7) (na + 1) (tokCells (La ++ [midTok])) (by rfl) HO8.out w8.heap.size A8 nb c8 (tokCells Lb) (by rfl) HR8.out (tokCells_one _) ?d4 ?d5 ?d6 ?_)
              case d4 => simp only [maxLen]; omega
              case d5 => omega
              case d6 => exact hz58
              intro v9 w9 hown9 hg9 _
              rw [← tokCells_append] at hown9
              obtain ⟨A9, c9, hv9, _, hr9⟩ := Rd.of_own_cap hown9
              subst hv9
              have HB59 := Lib.hid (below_own HB58.out HO8.out hg9 (Nat.le_refl _) hz58)
              have hz59 := HB59.out.size
              have RL9 := Lib.hid ((RL5.out.below HB59.out).more hz59)
              have HR9 := Lib.hid hr9
              have HB9 := Lib.hid (HB5.out.trans (HB59.out.mono hz5))
              have hz9 := HB9.out.size
              clear hown9 hg9 hr9 HO8 HR8 HB58 HB59 RL5
              go_wp2_with fail
              refine (as_any L _ _ _ _ RL9.out (by omega)).mono ?_
              rintro e w10 ⟨A10, c10, rfl, ho10, hb10⟩
              rw [HNl.out] at ho10 ⊢
              obtain ⟨_, _, he10, _, hr10⟩ := Rd.of_own_cap ho10
              cases he10
              have HR10 := Lib.hid hr10
              have HW10 := Lib.hid ((HR9.out.below hb10).more hb10.size)
              have HB10 := Lib.hid (HB9.out.trans (hb10.mono hz9))
              have hz10 := HB10.out.size
              clear ho10 hr10 hb10 HR9 RL9
              go_wp2_with fail
              refine (same_any L (La ++ [midTok] ++ Lb) _ _ _ _ _ _ _ HR10.out HW10.out (by omega) (by omega)).mono ?_
              rintro e w11 ⟨rfl, hb11⟩
              rw [HSame.out]
              have HB11 := Lib.hid (HB10.out.trans (hb11.mono hz10))
              clear hb11
              go_wp2
              go_ret
              exact ⟨rfl, HB11.out⟩
            · have HL := Lib.hid (HJ.out.2.1 rfl hf)
              have hpb := HPb.out hf
              have hnf : (eb != 0) = true := by rw [bne_iff_ne]; exact hf
              obtain ⟨pl, hpl⟩ : ∃ pl : Int, pb + ((a.size + 2 * pad.size + note.size + 2 : Nat) : Int) = pl := ⟨_, rfl⟩
              rw [hpl] at HL
              go_wp2_with fail
              refine (lex_to HL.out _ HSz.out).mono ?_
              rintro e w5 ⟨A5, c5, rfl, _, _, hb5⟩
              have HB5 := Lib.hid (HB4.out.trans (hb5.mono hz4))
              clear hb5
              have hval : (pl == pb + (a.size : Int) + 2 * (2 * (k : Int)) + (note.size : Int) + 2) = true := by rw [beq_iff_eq]; omega
              go_wp2
              go_ret
              exact ⟨rfl, HB5.out⟩
          · have HL := Lib.hid (HJ.out.1 he)
            have hnf : (ea != 0) = true := by rw [bne_iff_ne]; exact he
            go_wp2_with fail
            refine (lex_to HL.out _ HSz.out).mono ?_
            rintro e w5 ⟨A5, c5, rfl, _, _, hb5⟩
            have HB5 := Lib.hid (HB4.out.trans (hb5.mono hz4))
            clear hb5
            go_wp2
            go_ret
            exact ⟨rfl, HB5.out⟩
end Go.Proofs.YthfienjmajllpaaDoor
