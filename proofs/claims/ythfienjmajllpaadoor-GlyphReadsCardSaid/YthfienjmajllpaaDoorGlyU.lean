/-
  Chapter 2: the lines of tokens, with what stands in them: the iterator that glyph.Lines hands back; contract of tumblerlaw02.lines.
-/
import Derived.Test.YthfienjmajllpaaDoorGlyT
namespace Go.Proofs.YthfienjmajllpaaDoor
open Go.RowKit
set_option linter.unusedVariables false

/-- What the iterator tells of a line at its yield. -/
def ToldLn (l : List Tok) (n₀ : Nat) (p : List SlV × SlV) (W : World) : Prop := ∃ ln, (linesP l)[p.1.length]? = some ln ∧ W.ownsRow n₀ 26 5 p.2.1 ln.length (tokCells ln)
theorem drop_head {α : Type} {l : List α} {k : Nat} {x : α} {r : List α} (h : l.drop k = x :: r) : l[k]? = some x ∧ l.drop (k + 1) = r := by
  refine ⟨?_, ?_⟩
  · have := congrArg (·[0]?) h
    simpa [List.getElem?_drop] using this
  · rw [← List.drop_drop, h]; rfl
set_option maxRecDepth 100000 in
set_option maxHeartbeats 4000000 in
theorem lines1t_in (F : Fence) (nn : Nat) (hF : F.fn 39) (hro : F.round = none) (hn : 1 ≤ nn) (lp Bn n₀ : Nat) (l : List Tok) (A : Option Addr) (n c : Nat) (J Jx : List SlV → World → Prop)
    (W : World) (hJ : AbidesFrom W.heap.size J)
    (hY : ∀ pre x W1, J pre W1 → ToldLn l n₀ (pre, x) W1 → YieldAt F (nn - 1) Tryd.prog lp (slEnc x) W1 fun e W' =>
      (e = .returned (.bool true) ∧ J (pre ++ [x]) W' ∧ Below n₀ W1 W') ∨ (e = .returned (.bool false) ∧ Jx (pre ++ [x]) W'))
    (hn0 : n₀ ≤ W.heap.size) (hBn : W.cell? ⟨Bn, 0, none⟩ = some (.slice A n c)) (hL : RdT W n₀ A n l) (h48 : n ≤ 1000000) (h0 : J [] W) :
    CallsIn F nn Tryd.prog 39 #[.func (.yield lp) #[] #[], .pointer (some ⟨Bn, 0, none⟩)] W fun e W' => (∃ v, e = .returned v) ∧
      ((∃ ys : List SlV, ys.length = (linesP l).length ∧ J ys W') ∨ (∃ pre : List SlV, pre.length ≤ (linesP l).length ∧ Jx pre W')) := by
  obtain ⟨i0, hi0, hz0, hz1, hz2⟩ := info_parts info_tok
  have HLl := Lib.hid hL.tokLen
  have HL := Lib.hid hL
  have HJ := Lib.hid hJ
  have HY := Lib.hid hY
  clear hL hJ hY
  refine callsIn_of_wp Tryd.func39 rfl hF ?_ hro
  simp only [Tryd.ntmps39, List.size_toArray, List.length_cons, List.length_nil, Nat.reduceAdd, Nat.reduceSub, Array.replicate_succ, Array.replicate_zero, List.push_toArray, List.append_toArray, List.nil_append, List.cons_append]
  gi_wp2
  gi_loopw [8, 3, 5] (fun i lv _u wr => ∃ (k : Nat) (pre : List SlV) (cur : List Tok) (W0 : World), (k ≤ n ∧ i = .int .i64 k) ∧ Hid (J pre W0) ∧ Below W0.heap.size W0 wr ∧ (cur.length ≤ k ∧ wr.ownsRow W0.heap.size 26 5 lv cur.length (tokCells cur)) ∧ Below n₀ W wr ∧ Hid (W.heap.size ≤ W0.heap.size) ∧ Hid ((linesP l).drop pre.length = linesGo (l.drop k) cur ∧ pre.length ≤ (linesP l).length))
    (fun i _ _ _ => n - (intOf i).toNat)
  case atStart => exact ⟨0, [], [], W, ⟨by omega, rfl⟩, h0, Below.refl _ _, ⟨by simp, World.ownsRow_nil _ _ _ _⟩, Below.refl _ _, Nat.le_refl _, by show _ ∧ _; simp [linesP]⟩
  case round =>
    obtain ⟨k, pre, cur, W0, ⟨hk, rfl⟩, HJ0, hb0, ⟨hck, hown⟩, hbn, HWW, HS⟩ := hrel
    have HB0 := Lib.hid hb0
    have HBn := Lib.hid hbn
    have HO := Lib.hid hown
    have hsz0 := hb0.size
    obtain ⟨Al, cl, rfl, hcl, _⟩ := Rd.of_own_cap hown
    have HJr : Hid (J pre wr) := HJ.out pre W0 wr none HJ0.out (grown_of_below hb0) (fun r e => by cases e)
    clear hb0 hbn hown
    by_cases hlt : k < n
    · obtain ⟨b0, o0, t, hA, hbB, ht, c0, c1, c2, c3, c4⟩ := (HL.out.below HBn.out).tokAt hlt
      subst hA
      have HD := Lib.hid (tdrop_at ht)
      rw [HD.out, linesGo_cons] at HS
      clear ht
      obtain ⟨kind, text, num, at_, line⟩ := t
      simp only at c0 c1 c2 c3 c4
      by_cases h3 : kind = 3
      · subst h3
        rw [if_pos rfl] at HS
        obtain ⟨x, hx, hx1⟩ : ∃ x : SlV, slEnc x = #[.slice Al cur.length cl] ∧ x.1 = .slice Al cur.length cl := ⟨⟨.slice Al cur.length cl, _, _, _, rfl⟩, rfl, rfl⟩
        have HX := Lib.hid hx
        obtain ⟨hd1, hd2⟩ := drop_head HS.out.1
        have HS3 : Hid ((linesP l).drop (pre.length + 1) = linesGo (l.drop (k + 1)) [] ∧ pre.length + 1 ≤ (linesP l).length) := ⟨hd2, (List.getElem?_eq_some_iff.1 hd1).1⟩
        have HTo : Hid (∀ o : Obj, ToldLn l n₀ (pre, x) (wr.alloc o)) := fun o => ⟨cur, hd1, by show (wr.alloc o).ownsRow n₀ _ 5 x.1 _ _; rw [hx1]; exact own_base (HO.out.alloc o) (Nat.le_trans hn0 HWW.out)⟩
        clear hd1 hd2 hx1
        have HJa : Hid (∀ o : Obj, J pre (wr.alloc o)) := fun o => HJ.out pre W0 (wr.alloc o) none HJ0.out (grown_of_below (HB0.out.alloc hsz0 o)) (fun r e => by cases e)
        have HYa := fun o : Obj => HY.out pre x (wr.alloc o) (HJa.out o) (HTo.out o)
        rw [hx] at HYa
        obtain ⟨fn, tmps, assign, body, hy, hR⟩ := HYa (.cells #[.int .i64 3, .string text, .int .u64 num, .int .i64 at_, .int .i64 line] 26)
        have HBb : Hid (Below n₀ W (wr.alloc (.cells #[.int .i64 3, .string text, .int .u64 num, .int .i64 at_, .int .i64 line] 26))) := HBn.out.alloc (by have := HBn.out.size; omega) _
        have HZb : Hid (W.heap.size ≤ (wr.alloc (.cells #[.int .i64 3, .string text, .int .u64 num, .int .i64 at_, .int .i64 line] 26)).heap.size) := by have := HWW.out; show _ ≤ _; simp; omega
        clear hx HYa
        gi_wp2
        refine hR.mono ?_
        rintro e W3 (⟨rfl, hJ3, hk3⟩ | ⟨rfl, hJx3⟩)
        · have HJ3 := Lib.hid hJ3
          have HK3 := Lib.hid (HBb.out.trans hk3)
          have HZ3 : Hid (W.heap.size ≤ W3.heap.size) := Nat.le_trans HZb.out hk3.size
          clear hJ3 hk3
          gi_wp2
          go_roundw
          case rel => exact ⟨k + 1, pre ++ [x], [], W3, ⟨by omega, by go_num⟩, HJ3, Below.refl _ _, ⟨by simp, World.ownsRow_nil _ _ _ _⟩, HK3.out, HZ3, by show _ ∧ _; rw [List.length_append]; exact HS3.out⟩
          case measure => simp [intOf]; omega
        · have HJx3 := Lib.hid hJx3
          clear hJx3
          gi_wp2
          refine bodyPost_ret (results_none rfl _ _ _) rfl ?_
          exact ⟨⟨_, rfl⟩, .inr ⟨pre ++ [x], by rw [List.length_append]; exact HS3.out.2, HJx3.out⟩⟩
      · have hb3 : (kind != 3) = true := by simpa using h3
        rw [if_neg h3] at HS
        have HN : Hid (∀ o : Obj, RdT ((wr.alloc o).alloc (.cells #[.int .i64 kind, .string text, .int .u64 num, .int .i64 at_, .int .i64 line] 26)) (wr.heap.size + 1 + 1) (some ⟨wr.heap.size + 1, 0, none⟩) 1 [⟨kind, text, num, at_, line⟩]) := fun o => Rd.newAt (wr.alloc o) _ _ _ (by simp) (size := 5) (m := 1) rfl (by simp [maxLen])
        gi_wp2_with (gi_at_builtin; refine wpListIn_append_own _ rfl (.tmp 15) (.tmp 17) 22 rfl W0.heap.size 26 i0 _ 5 48 Tryd.underlying22 hi0 hz0 hz1 hz2 rfl (by decide) _ cur.length (tokCells cur) rfl ?c1 ⟨wr.heap.size + 1, 0, none⟩ 1 1 (tokCells [⟨kind, text, num, at_, line⟩]) ?c2 ?c3 ?c4 (tokCells_one _) ?c5 ?c6 ?c7 ?_)
        case c1 => exact (HO.out.alloc _).alloc _
        case c2 => rfl
        case c3 => rfl
        case c4 => exact rd_cells _ (HN.out _) (by decide)
        case c5 => simp only [maxLen]; omega
        case c6 => omega
        case c7 => simp; omega
        intro v5 w5 hown5 hg5 _
        rw [← tokCells_append] at hown5
        have HO5 := Lib.hid hown5
        have HB5 := Lib.hid (below_own ((HB0.out.alloc hsz0 _).alloc (by simp; omega) _) ((HO.out.alloc _).alloc _) hg5 (Nat.le_refl _) (by simp; omega))
        have HB6 := Lib.hid (below_own ((HBn.out.alloc (by have := HBn.out.size; omega) _).alloc (by have := HBn.out.size; simp; omega) _) ((HO.out.alloc _).alloc _) hg5 (Nat.le_trans hn0 HWW.out) (by have := HBn.out.size; simp; omega))
        clear hown5 hg5
        gi_wp2
        go_roundw
        case rel => exact ⟨k + 1, pre, cur ++ [⟨kind, text, num, at_, line⟩], W0, ⟨by omega, by go_num⟩, HJ0, HB5.out, ⟨by simp; omega, by simpa using HO5.out⟩, HB6.out, HWW, HS⟩
        case measure => simp [intOf]; omega
    · obtain rfl : n = k := by omega
      rw [List.drop_of_length_le (l := l) (by rw [HLl.out]; exact Nat.le_refl _)] at HS
      by_cases hc0 : 0 < cur.length
      · obtain ⟨x, hx, hx1⟩ : ∃ x : SlV, slEnc x = #[.slice Al cur.length cl] ∧ x.1 = .slice Al cur.length cl := ⟨⟨.slice Al cur.length cl, _, _, _, rfl⟩, rfl, rfl⟩
        have hne : cur ≠ [] := by intro e; rw [e] at hc0; simp at hc0
        have hdd := HS.out.1
        rw [linesGo, if_neg hne] at hdd
        obtain ⟨hd1, hd2⟩ := drop_head hdd
        have hS : pre.length + 1 = (linesP l).length := by
          have h1 := (List.getElem?_eq_some_iff.1 hd1).1
          have h2 := congrArg List.length hd2
          rw [List.length_drop] at h2
          simp at h2
          omega
        have hYa := HY.out pre x wr HJr.out ⟨cur, hd1, by show wr.ownsRow n₀ _ 5 x.1 _ _; rw [hx1]; exact own_base HO.out (Nat.le_trans hn0 HWW.out)⟩
        clear hdd hd1 hd2 hx1
        rw [hx] at hYa
        obtain ⟨fn, tmps, assign, body, hy, hR⟩ := hYa
        have HS2 := Lib.hid hS
        clear hx hS hne
        gi_wp2
        refine hR.mono ?_
        rintro e W3 (⟨rfl, hJ3, hk3⟩ | ⟨rfl, hJx3⟩)
        · have HJ3 := Lib.hid hJ3
          clear hJ3 hk3
          gi_wp2
          go_end0
          exact ⟨⟨_, rfl⟩, .inl ⟨pre ++ [x], by simp; exact HS2.out, HJ3.out⟩⟩
        · have HJx3 := Lib.hid hJx3
          clear hJx3
          gi_wp2
          go_end0
          exact ⟨⟨_, rfl⟩, .inr ⟨pre ++ [x], by simp; have := HS2.out; omega, HJx3.out⟩⟩
      · obtain rfl : cur = [] := by
          rcases cur with _ | ⟨a, r⟩
          · rfl
          · simp at hc0
        have hS : pre.length = (linesP l).length := by
          have := congrArg List.length HS.out.1
          rw [linesGo, if_pos rfl, List.length_drop] at this
          have h2 := HS.out.2
          simp at this
          omega
        have HS2 := Lib.hid hS
        clear hS
        gi_wp2
        go_end0
        exact ⟨⟨_, rfl⟩, .inl ⟨pre, HS2.out, HJr.out⟩⟩
end Go.Proofs.YthfienjmajllpaaDoor
