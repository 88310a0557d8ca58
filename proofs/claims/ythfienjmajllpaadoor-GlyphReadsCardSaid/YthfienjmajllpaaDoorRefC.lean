/-
  Chapter 2: the reference's lexer: contract of tumblerref02.Lex, for texts of up to 600 bytes.
-/
import Derived.Test.YthfienjmajllpaaDoorRefB
import Derived.Test.YthfienjmajllpaaDoorGlyJ
namespace Go.Proofs.YthfienjmajllpaaDoor
open Go.RowKit
set_option linter.unusedVariables false

theorem stepQ_mk (L : List Tok) (line : Nat) (t : Tok) (is : Bool) : stepQ ⟨L, line, none, false⟩ t is = if is then ⟨L ++ [t], if t.kind = 3 then line + 1 else line, none, false⟩ else ⟨L, line, none, false⟩ := rfl
set_option maxRecDepth 100000 in
set_option maxHeartbeats 8000000 in
theorem rlex_to {s : ByteArray} {L : List Tok} {p ec : Int} (hL : lexP s = (L, p, ec)) (hs : s.size ≤ 600) (w : World) (hU : Lib.Utf8Tabs 1 2 w) :
    Calls Tryd.prog 15 #[.string s] w fun e w' => ∃ v, e = .returned (.tuple #[v, .int .i64 p, .int .i64 ec]) ∧ w'.ownsRow w.heap.size 37 5 v L.length (tokCells L) ∧ Below w.heap.size w w' := by
  obtain ⟨i0, hi0, hz0', hz1', hz2'⟩ := info_parts info_rtok
  have HU := Lib.hid hU
  have HE : Hid (lexR (runesOf (s.data.toList.drop 0)) 0 ⟨[], 0, none, false⟩ = (L, p, ec)) := by
    show _ = _
    rw [← hL, lexP_R s (by omega), List.drop_zero]; rfl
  clear hU hL
  have hq : decide ((65536 : Int) < (s.size : Int)) = false := by simp; omega
  go_enter Tryd.func15, Tryd.ntmps15
  go_wp2
  go_loopw [5, 6, 7, 8, 9, 10, 11] (fun out li at_ _t _is _n _e wr => ∃ (pos line : Nat) (T : List Tok), (pos ≤ s.size ∧ at_ = .int .i64 pos ∧ li = .int .i64 line ∧ T.length ≤ pos ∧ line ≤ pos) ∧ wr.ownsRow w.heap.size 37 5 out T.length (tokCells T) ∧ Hid (lexR (runesOf (s.data.toList.drop pos)) pos ⟨T, line, none, false⟩ = (L, p, ec)) ∧ Below w.heap.size w wr) (fun _ _ at_ _ _ _ _ _ => s.size - (intOf at_).toNat)
  case atStart => exact ⟨0, 0, [], ⟨by omega, rfl, rfl, by simp, by omega⟩, World.ownsRow_made w #[] 0 (Nat.le_refl _) (by simp [maxLen]) rfl, HE, (Below.refl _ _).alloc (Nat.le_refl _) _⟩
  case round =>
    obtain ⟨pos, line, T, ⟨hpos, rfl, rfl, hT, hli⟩, hown, HE, hb⟩ := hrel
    have HO := Lib.hid hown
    have HB := Lib.hid hb
    have hsz := hb.size
    obtain ⟨Ao, co, rfl, hco, _⟩ := Rd.of_own_cap hown
    obtain ⟨m, hm⟩ : ∃ m, T.length = m := ⟨_, rfl⟩
    rw [hm] at HO hT
    rw [hm]
    have HM := Lib.hid hm
    clear hown hb hm
    by_cases hlt : pos < s.size
    · have hne : s.data.toList.drop pos ≠ [] := by
        rw [drop_cons s pos hlt]; simp
      obtain ⟨⟨tk, tt, tn, ta, tl⟩, is, n, e, hN⟩ : ∃ t is n e, nextP (s.data.toList.drop pos) pos line = (t, is, n, e) := ⟨_, _, _, _, rfl⟩
      have hst := next_step (q := ⟨T, line, none, false⟩) hne rfl rfl (by have := HM.out; show T.length < _; omega) hN
      obtain ⟨hn1, hn2, he1, he2, his⟩ := hst
      rw [List.length_drop] at hn2
      have hn2' : pos + n ≤ s.size := by have : s.data.toList.length = s.size := rfl; omega
      rw [HE.out] at he1 he2
      rw [List.drop_drop, stepQ_mk] at he2
      have HNx : Hid (Calls Tryd.prog 26 #[.string s, .int .i64 pos, .int .i64 line] wr fun ev w' => ev = .returned (.tuple #[.agg #[.int .i64 tk, .string tt, .int .u64 tn, .int .i64 ta, .int .i64 tl], .bool is, .int .i64 (n : Nat), .int .i64 e]) ∧ Below wr.heap.size wr w') := by
        have h := next_any s (by unfold maxLen; omega) pos hlt line wr (utf8_below HU.out (HB.out))
        rw [hN] at h
        exact h
      have HE1 := Lib.hid he1
      have HE2 := Lib.hid he2
      clear he1 he2 hN hne hn2
      go_wp2_with fail
      refine HNx.out.mono ?_
      rintro ev w1 ⟨rfl, hb1⟩
      have HB1 := Lib.hid (HB.out.trans (hb1.mono hsz))
      have HO1 := Lib.hid (own_below HO.out hb1)
      have hz1 := HB1.out.size
      clear hb1 HNx HO
      by_cases he : e = 0
      · subst he
        have HS := Lib.hid (HE2.out rfl).symm
        clear HE1 HE2 his
        have hl16 : ((m : Int) == 16384) = false := by rw [beq_eq_false_iff_ne]; omega
        obtain ⟨q, hqn⟩ : ∃ q, pos + n = q := ⟨_, rfl⟩
        have hpn : (pos : Int) + (n : Int) = (q : Int) := by omega
        rw [hqn] at HS hn2'
        cases is
        · rw [if_neg (by simp)] at HS
          go_wp2
          go_roundw
          case rel => exact ⟨q, line, T, ⟨hn2', rfl, rfl, by rw [HM.out]; omega, by omega⟩, by rw [HM.out]; exact HO1.out.alloc _, HS, HB1.out.alloc hz1 _⟩
          case measure => simp [intOf]; omega
        · rw [if_pos rfl] at HS
          have RM : Hid (RdT ((w1.alloc (.cells #[.int .i64 tk, .string tt, .int .u64 tn, .int .i64 ta, .int .i64 tl] 37)).alloc (.cells #[.int .i64 tk, .string tt, .int .u64 tn, .int .i64 ta, .int .i64 tl] 37)) (w1.heap.size + 1 + 1) (some ⟨w1.heap.size + 1, 0, none⟩) 1 [⟨tk, tt, tn, ta, tl⟩]) := Rd.newAt (w1.alloc _) _ _ _ (by simp) (size := 5) (m := 1) rfl (by simp [maxLen])
          go_wp2_with (at_builtin; refine wpList_app _ (by rfl) (.tmp 44) (.tmp 46) 29 (by rfl) w.heap.size 37 i0 _ 5 48 Tryd.underlying29 hi0 hz0' hz1' hz2' rfl (by decide) (.slice Ao m co) m (tokCells T) (by rfl) ((HO1.out.alloc _).alloc _) (w1.heap.size + 1 + 1) (some ⟨w1.heap.size + 1, 0, none⟩) 1 1 (tokCells [⟨tk, tt, tn, ta, tl⟩]) (by rfl) RM.out (tokCells_one _) ?c4 ?c5 ?c6 ?_)
          case c4 => simp only [maxLen]; omega
          case c5 => omega
          case c6 => simp; omega
          intro v5 w5 hown5 hg5 _
          obtain ⟨A5, c5, hv5, _, _⟩ := Rd.of_own_cap hown5
          subst hv5
          rw [← tokCells_append] at hown5
          have HO5 : Hid (w5.ownsRow w.heap.size 37 5 (.slice A5 (m + 1) c5) (T ++ [(⟨tk, tt, tn, ta, tl⟩ : Tok)]).length (tokCells (T ++ [(⟨tk, tt, tn, ta, tl⟩ : Tok)]))) := by
            show World.ownsRow _ _ _ _ _ _ _
            rw [List.length_append, HM.out]; exact hown5
          have HB5 := Lib.hid (below_own ((HB1.out.alloc hz1 _).alloc (by simp; omega) _) ((HO1.out.alloc _).alloc _) hg5 (Nat.le_refl _) (by simp; omega))
          have BK := Lib.hid (((Bk.new w1 37 #[.int .i64 tk, .string tt, .int .u64 tn, .int .i64 ta, .int .i64 tl]).alloc (.cells #[.int .i64 tk, .string tt, .int .u64 tn, .int .i64 ta, .int .i64 tl] 37)).grown hg5 (fun ee => by have := (HO1.out.lt _ ee).2; omega))
          have k0 := BK.out.cell 0
          simp at k0
          have hlen5 : Hid ((T ++ [(⟨tk, tt, tn, ta, tl⟩ : Tok)]).length ≤ q) := by show _ ≤ _; rw [List.length_append, HM.out]; simp; omega
          clear hown5 hg5 RM
          by_cases h3 : tk = 3
          · subst h3
            simp only [if_true] at HS
            go_wp2
            go_roundw
            case rel => exact ⟨q, line + 1, _, ⟨hn2', rfl, by go_num, hlen5.out, by omega⟩, HO5.out, HS, HB5.out⟩
            case measure => simp [intOf]; omega
          · have h3' : (tk == 3) = false := by simpa using h3
            simp only [if_neg h3] at HS
            go_wp2
            go_roundw
            case rel => exact ⟨q, line, _, ⟨hn2', rfl, rfl, hlen5.out, by omega⟩, HO5.out, HS, HB5.out⟩
            case measure => simp [intOf]; omega
      · have hF := HE1.out he
        have hne : (e == 0) = false := by simpa using he
        have hne' : (e != 0) = true := by rw [bne_iff_ne]; exact he
        have his2 : is = false := by
          cases is
          · rfl
          · exact absurd (his rfl) he
        subst his2
        injection hF with g1 g2
        injection g2 with g2 g3
        subst g1; subst g2; subst g3
        clear HE1 HE2 his
        go_wp2
        go_ret3
        exact ⟨_, rfl, World.ownsRow_nil _ _ _ _, HB1.out.alloc hz1 _⟩
    · have hend := HE.out
      rw [List.drop_eq_nil_of_le (by show s.size ≤ pos; omega)] at hend
      have hF : (T, (0 : Int), (0 : Int)) = (L, p, ec) := hend
      injection hF with g1 g2
      injection g2 with g2 g3
      subst g1; subst g2; subst g3
      clear hend
      go_wp2
      go_ret3
      exact ⟨_, rfl, by rw [HM.out]; exact HO.out, HB.out⟩
end Go.Proofs.YthfienjmajllpaaDoor
