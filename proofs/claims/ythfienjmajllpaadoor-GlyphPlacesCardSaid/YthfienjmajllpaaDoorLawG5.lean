/-
  Chapter 2: the law GlyphPlaces: the walk.
-/
import Derived.Test.YthfienjmajllpaaDoorPlaceP
import Derived.Test.YthfienjmajllpaaDoorBackP
import Derived.Test.YthfienjmajllpaaDoorGlyR
namespace Go.Proofs.YthfienjmajllpaaDoor
open Go.RowKit
set_option linter.unusedVariables false

/-- What the law reads of one token. -/
theorem okT_at {s : ByteArray} {t : Tok} {r : List Tok} {last line : Nat} (h : okT s.data.toList (t :: r) last line) :
    ∃ a m : Nat, t.at_ = a ∧ t.line = line ∧ last ≤ a ∧ 1 ≤ m ∧ a + m ≤ s.size ∧ (textOf [t]).size = m ∧ s.extract a (a + m) = textOf [t] ∧ okT s.data.toList r (a + m) (if t.kind = 3 then line + 1 else line) := by
  obtain ⟨⟨pre, post, ha, hl, hn, hp, hL⟩, hr⟩ := h
  have hlen := congrArg List.length hL
  rw [List.length_append, List.length_append] at hlen
  have hs : s.data.toList.length = s.size := rfl
  have h1 : 1 ≤ (printP [t]).length := List.length_pos_iff.2 hp
  have ht : (textOf [t]).size = (printP [t]).length := by rw [← textOf_list]; rfl
  refine ⟨pre.length, (printP [t]).length, ha, hn, hl, h1, by omega, ht, ?_, ?_⟩
  · have hx : (s.extract pre.length (pre.length + (printP [t]).length)).data.toList = (textOf [t]).data.toList := by
      rw [textOf_list]
      have : (s.extract pre.length (pre.length + (printP [t]).length)).data.toList = (s.data.toList.drop pre.length).take (printP [t]).length := by
        simp [List.take_drop]
      rw [this, hL, List.append_assoc, List.drop_left, List.take_left]
    exact ByteArray.ext (Array.toList_inj.1 hx)
  · rw [ha] at hr; exact hr

set_option maxRecDepth 100000 in
set_option maxHeartbeats 8000000 in
theorem places_walk (s : ByteArray) (W : World) (htab : PowTab W) (hs63 : s.size ≤ maxLen) :
    Calls Tryd.prog 7 #[.string s] W fun e w' => e = .returned (.bool true) ∧ Below W.heap.size W w' := by
  have HT := Lib.hid htab
  clear htab
  have HS63 := Lib.hid hs63
  unfold maxLen at hs63
  go_enter Tryd.func7, Tryd.ntmps7
  go_wp2_with fail
  refine (alive_any _ HT.out).mono ?_
  rintro e w1 ⟨rfl, hb1⟩
  have HB1 := Lib.hid hb1
  have hz1 := hb1.size
  clear hb1
  by_cases h600 : 600 < s.size
  · go_wp2
    go_ret
    exact ⟨rfl, HB1.out⟩
  obtain ⟨L, p, ec, hL⟩ : ∃ L p ec, lexP s = (L, p, ec) := ⟨_, _, _, rfl⟩
  have HL := Lib.hid hL
  obtain ⟨n, hn⟩ : ∃ n, L.length = n := ⟨_, rfl⟩
  have HN := Lib.hid hn
  have hfl := lexP_forms s (by omega)
  rw [hL] at hfl
  have HF := Lib.hid hfl.1
  have hn600 : n ≤ 600 := by have := hfl.2; simp only at this; omega
  clear hL hn hfl
  go_wp2_with fail
  refine (lex_to HL.out _ HS63.out).mono ?_
  rintro e w2 ⟨A, c, rfl, _, hr2, hb2⟩
  rw [HN.out] at hr2 ⊢
  have HR2 := Lib.hid hr2
  have HB2 := Lib.hid (HB1.out.trans (hb2.mono hz1))
  have hz2 := HB2.out.size
  clear hr2 hb2
  by_cases he : ec = 0
  · subst he
    have HOK := Lib.hid (lexP_ok HL.out (by omega))
    go_wp2
    go_loopw [10, 11, 13, 14, 62] (fun la li _t _s i wr => ∃ j last line : Nat, (j ≤ n ∧ la = .int .i64 last ∧ li = .int .i64 line ∧ i = .int .i64 j ∧ line ≤ j) ∧ Hid (okT s.data.toList (L.drop j) last line) ∧ Below w2.heap.size w2 wr) (fun _ _ _ _ i _ => n - (intOf i).toNat)
    case atStart => exact ⟨0, 0, 0, ⟨by omega, rfl, rfl, rfl, by omega⟩, HOK, Below.refl _ _⟩
    case round =>
      obtain ⟨j, last, line, ⟨hj, rfl, rfl, rfl, hlj⟩, HO, hb⟩ := hrel
      have HB := Lib.hid hb
      have hsz := hb.size
      have HBW := Lib.hid (HB2.out.trans (hb.mono hz2))
      clear hb
      by_cases hlt : j < n
      · obtain ⟨b0, o0, t, hA, hbB, ht, c0, c1, c2, c3, c4⟩ := (HR2.out.below HB.out).tokAt hlt
        subst hA
        have ho := HO.out
        rw [drop_at ht] at ho
        have HFt := Lib.hid (HF.out t (List.mem_of_getElem? ht))
        obtain ⟨a, m, hat, hline, hla, hm, ham, hsm, hex, hrest⟩ := okT_at ho
        have HRest := Lib.hid hrest
        have HNum : Hid (∀ x ∈ [t], 0 ≤ x.num ∧ x.num ≤ 18446744073709551615) := fun x hx => by rw [List.mem_singleton.1 hx]; exact form_num HFt.out
        have HPl : Hid ((printP [t]).length ≤ 140737488355328) := by
          show _ ≤ _
          have : (textOf [t]).size = (printP [t]).length := by rw [← textOf_list]; rfl
          omega
        obtain ⟨S, hS⟩ : ∃ S, textOf [t] = S := ⟨_, rfl⟩
        rw [hS] at hsm hex
        have HS : Hid ((⟨(printP [t]).toArray⟩ : ByteArray) = S) := hS
        clear ho ht hrest hS HFt
        obtain ⟨kind, text, num, at_, ln⟩ := t
        simp only at hat hline c0 c1 c2 c3 c4 HRest
        subst hat
        subst hline
        have hx1 : ((a : Int) < (last : Int)) = False := by simp; omega
        have hx2 : ((s.size : Int) ≤ (a : Int)) = False := by simp; omega
        have hx3 : ((line : Int) != (line : Int)) = false := by simp
        go_wp2_with fail
        have R1 : RdT ((wr.alloc (.cells #[.int .i64 kind, .string text, .int .u64 num, .int .i64 (a : Int), .int .i64 (line : Int)] 26)).alloc (.cells #[.int .i64 kind, .string text, .int .u64 num, .int .i64 (a : Int), .int .i64 (line : Int)] 26)) (wr.heap.size + 1 + 1) (some ⟨wr.heap.size + 1, 0, none⟩) 1 [⟨kind, text, num, a, line⟩] := Rd.newAt (wr.alloc _) _ _ _ (by simp) (size := 5) (m := 1) rfl (by simp [maxLen])
        have hB5 := (Below.refl wr.heap.size wr).alloc (Nat.le_refl _) (.cells #[.int .i64 kind, .string text, .int .u64 num, .int .i64 (a : Int), .int .i64 (line : Int)] 26)
        have hB6 := hB5.alloc (by simp) (.cells #[.int .i64 kind, .string text, .int .u64 num, .int .i64 (a : Int), .int .i64 (line : Int)] 26)
        have BK := (Bk.new wr 26 #[.int .i64 kind, .string text, .int .u64 num, .int .i64 (a : Int), .int .i64 (line : Int)]).alloc (.cells #[.int .i64 kind, .string text, .int .u64 num, .int .i64 (a : Int), .int .i64 (line : Int)] 26)
        refine (print_any [⟨kind, text, num, a, line⟩] _ _ _ _ (by simpa using R1) HNum.out HPl.out ((HT.out.below HBW.out).below hB6)).mono ?_
        rintro e w5 ⟨rfl, hb5⟩
        rw [HS.out]
        have BK5 := Lib.hid (BK.below hb5 (by simp; omega))
        have HB5 := Lib.hid (HB.out.trans ((hB6.trans (hb5.mono (by simp; omega))).mono hsz))
        clear hb5 BK hB5 hB6 R1 hx1 hx2 hx3 c0 c1 c2 c3 c4
        have k0 := BK5.out.cell 0
        have k3 := BK5.out.cell 3
        simp at k0 k3
        have hsl := fun W => str_cut (P := Tryd.prog) Tryd.underlying9 (by omega) ham hex W
        rw [Int.natCast_add] at hsl
        have hge : ((m : Int) == 0) = false := by simp; omega
        have hlt2 : ((s.size : Int) - (a : Int) < (m : Int)) = False := by simp; omega
        by_cases h3 : kind = 3
        · subst h3
          rw [if_pos rfl] at HRest
          go_wp2
          go_roundw
          case rel => exact ⟨j + 1, a + m, line + 1, ⟨by omega, by go_num, by go_num, by go_num, by omega⟩, HRest, HB5.out⟩
          case measure => simp [intOf]; omega
        · rw [if_neg h3] at HRest
          have h3' : (kind == 3) = false := by simpa using h3
          go_wp2
          go_roundw
          case rel => exact ⟨j + 1, a + m, line, ⟨by omega, by go_num, rfl, by go_num, by omega⟩, HRest, HB5.out⟩
          case measure => simp [intOf]; omega
      · obtain rfl : j = n := by omega
        go_wp2
        go_ret
        exact ⟨rfl, HBW.out⟩
  · have hne : (ec != 0) = true := by rw [bne_iff_ne]; exact he
    have hp := lexP_place HL.out (by omega) he
    obtain ⟨q, rfl⟩ : ∃ q : Nat, p = (q : Int) := ⟨p.toNat, by omega⟩
    have hq : q < s.size := by omega
    have HX := Lib.hid (lexP_lines HL.out (by omega) he)
    clear hp
    go_wp2
    go_loopw [6] (fun k wr => ∃ j : Nat, (j ≤ q ∧ k = .int .i64 j) ∧ wr = w2) (fun k _ => (intOf k).toNat)
    case atStart => exact ⟨q, ⟨by omega, rfl⟩, rfl⟩
    case round =>
      obtain ⟨j, ⟨hj, rfl⟩, rfl⟩ := hrel
      have h3 : (∃ i, j = i + 1 ∧ ∃ h : i < s.size, (s[i]'h).toNat ≠ 10) ∨ j = 0 ∨ (∃ i, j = i + 1 ∧ ∃ h : i < s.size, (s[i]'h).toNat = 10) := by
        rcases j with _ | i
        · exact .inr (.inl rfl)
        · have h : i < s.size := by omega
          by_cases h10 : (s[i]'h).toNat = 10
          · exact .inr (.inr ⟨i, rfl, h, h10⟩)
          · exact .inl ⟨i, rfl, h, h10⟩
      rcases h3 with ⟨i, rfl, h, h10⟩ | rfl | ⟨i, rfl, h, h10⟩
      · have hi : ((i + 1 : Nat) : Int) - 1 = (i : Int) := by omega
        have hb10 : (((s[i]'h).toNat : Int) != 10) = true := by rw [bne_iff_ne]; omega
        generalize hcc : (s[i]'h).toNat = cc at h10 hb10
        go_wp2
        go_roundw
        case rel => exact ⟨i, ⟨by omega, rfl⟩, trivial⟩
        case measure => simp [intOf]
      case' inr.inl =>
        obtain ⟨l', p', hl'⟩ := HX.out 0 (by omega) (.inl rfl)
        rw [show s.extract 0 0 = ByteArray.empty by simp] at hl'
        have HL2 := Lib.hid hl'
        have HSz : Hid (ByteArray.empty.size ≤ maxLen) := by show _ ≤ _; simp
        clear hl'
      case' inr.inr =>
        obtain ⟨l', p', hl'⟩ := HX.out (i + 1) (by omega) (.inr (by
          have e : s.data.toList[i]? = some s[i] := by rw [Array.getElem?_toList]; exact Array.getElem?_eq_getElem (xs := s.data) h
          rw [Nat.add_sub_cancel, e]
          exact congrArg some (UInt8.toNat_inj.1 h10)))
        have HL2 := Lib.hid hl'
        have HSz : Hid ((s.extract 0 (i + 1)).size ≤ maxLen) := by show _ ≤ _; rw [ByteArray.size_extract]; unfold maxLen; omega
        have hb10 : (((s[i]'h).toNat : Int) != 10) = false := by rw [h10]; rfl
        clear hl'
      all_goals
        have hq2 : (q : Int) < (s.size : Int) := by omega
        go_wp2_with fail
        refine (lex_to HL2.out _ HSz.out).mono ?_
        rintro e w3 ⟨A3, c3, rfl, _, _, hb3⟩
        have HB3 := Lib.hid (HB2.out.trans (hb3.mono hz2))
        clear hb3
        go_wp2
        go_ret
        exact ⟨rfl, HB3.out⟩
end Go.Proofs.YthfienjmajllpaaDoor
