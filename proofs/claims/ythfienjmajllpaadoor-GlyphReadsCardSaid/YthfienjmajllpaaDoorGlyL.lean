/-
  Chapter 2: the lines of tokens: the iterator that glyph.Lines hands back (how many rounds it makes).
-/
import Derived.RangeFuncNested
import Derived.RangeFuncBound
import Derived.RangeFuncCalls
import Derived.RangeFuncLeaves
import Derived.RangeFuncBox
import Derived.Shelf.Abstract
import Derived.WalkKit
import Derived.OwnWalkIn
import Derived.TacticsInMore
import Derived.LoopNIn
import Derived.LoopIn
import Derived.Maps.AppendAt
import Derived.Test.YthfienjmajllpaaDoorGlyC
namespace Go.Proofs.YthfienjmajllpaaDoor
open Go.RowKit
set_option linter.unusedVariables false

/-- A slice as a value. -/
def SlV : Type := { v : Value // ∃ A n c, v = .slice A n c }
def slEnc (x : SlV) : Array Value := #[x.1]
theorem linesGo_cons (t : Tok) (r line : List Tok) : linesGo (t :: r) line = if t.kind = 3 then line :: linesGo r [] else linesGo r (line ++ [t]) := rfl
theorem linesGo_len_pos {r line : List Tok} (h : line ≠ []) : 0 < (linesGo r line).length := by
  induction r generalizing line with
  | nil => simp [linesGo, h]
  | cons t r ih =>
    rw [linesGo]
    split
    · simp
    · exact ih (by simp)
theorem grown_of_below {W W' : World} (h : Below W.heap.size W W') : W.grownBy W' none := ⟨h.os, h.tape, h.output, h.size, fun k hk _ => h.block k hk⟩
theorem tdrop_at {l : List Tok} {k : Nat} {t : Tok} (h : l[k]? = some t) : l.drop k = t :: l.drop (k + 1) := by
  obtain ⟨hk, rfl⟩ := List.getElem?_eq_some_iff.1 h
  exact List.drop_eq_getElem_cons hk

set_option maxRecDepth 100000 in
set_option maxHeartbeats 4000000 in
theorem lines1_in (F : Fence) (nn : Nat) (hF : F.fn 39) (hro : F.round = none) (hn : 1 ≤ nn) (lp Bn n₀ : Nat) (l : List Tok) (A : Option Addr) (n c : Nat) (J Jx : List SlV → World → Prop)
    (W : World) (hJ : AbidesFrom W.heap.size J)
    (hY : ∀ pre x W1, J pre W1 → pre.length < (linesP l).length → YieldAt F (nn - 1) Tryd.prog lp (slEnc x) W1 fun e W' =>
      (e = .returned (.bool true) ∧ J (pre ++ [x]) W' ∧ Below n₀ W1 W') ∨ (e = .returned (.bool false) ∧ Jx (pre ++ [x]) W'))
    (hn0 : n₀ ≤ W.heap.size) (hBn : W.cell? ⟨Bn, 0, none⟩ = some (.slice A n c)) (hL : RdT W n₀ A n l) (h48 : n ≤ 1000000) (h0 : J [] W) :
    CallsIn F nn Tryd.prog 39 #[.func (.yield lp) #[] #[], .pointer (some ⟨Bn, 0, none⟩)] W fun e W' => (∃ v, e = .returned v) ∧
      ((∃ ys : List SlV, ys.length = (linesP l).length ∧ J ys W') ∨ (∃ pre : List SlV, pre.length ≤ (linesP l).length ∧ Jx pre W')) := by
  obtain ⟨i0, hi0, hz0, hz1, hz2⟩ := info_parts info_tok
  have HLl := Lib.hid hL.tokLen
  have HL := Lib.hid hL
  have HJ := Lib.hid hJ
  have HY := Lib.hid hY
  clear hL hJ hY
  refine callsIn_of_wp Tryd.func39 rfl hF ?_ hro
  simp only [Tryd.ntmps39, List.size_toArray, List.length_cons, List.length_nil, Nat.reduceAdd, Nat.reduceSub, Array.replicate_succ, Array.replicate_zero, List.push_toArray, List.append_toArray, List.nil_append, List.cons_append]
  gi_wp2
  gi_loopw [8, 3, 5] (fun i lv _u wr => ∃ (k : Nat) (pre : List SlV) (cur : List Tok) (W0 : World), (k ≤ n ∧ i = .int .i64 k) ∧ Hid (J pre W0) ∧ Below W0.heap.size W0 wr ∧ (cur.length ≤ k ∧ wr.ownsRow W0.heap.size 26 5 lv cur.length (tokCells cur)) ∧ Below n₀ W wr ∧ Hid (W.heap.size ≤ W0.heap.size) ∧ Hid (pre.length + (linesGo (l.drop k) cur).length = (linesP l).length))
    (fun i _ _ _ => n - (intOf i).toNat)
  case atStart => exact ⟨0, [], [], W, ⟨by omega, rfl⟩, h0, Below.refl _ _, ⟨by simp, World.ownsRow_nil _ _ _ _⟩, Below.refl _ _, Nat.le_refl _, by show _ = _; simp [linesP]⟩
  case round =>
    obtain ⟨k, pre, cur, W0, ⟨hk, rfl⟩, HJ0, hb0, ⟨hck, hown⟩, hbn, HWW, HS⟩ := hrel
    have HB0 := Lib.hid hb0
    have HBn := Lib.hid hbn
    have HO := Lib.hid hown
    have hsz0 := hb0.size
    obtain ⟨Al, cl, rfl, hcl, _⟩ := Rd.of_own_cap hown
    have HJr : Hid (J pre wr) := HJ.out pre W0 wr none HJ0.out (grown_of_below hb0) (fun r e => by cases e)
    clear hb0 hbn hown
    by_cases hlt : k < n
    · obtain ⟨b0, o0, t, hA, hbB, ht, c0, c1, c2, c3, c4⟩ := (HL.out.below HBn.out).tokAt hlt
      subst hA
      have HD := Lib.hid (tdrop_at ht)
      rw [HD.out, linesGo_cons] at HS
      clear ht
      obtain ⟨kind, text, num, at_, line⟩ := t
      simp only at c0 c1 c2 c3 c4
      by_cases h3 : kind = 3
      · subst h3
        rw [if_pos rfl] at HS
        obtain ⟨x, hx⟩ : ∃ x : SlV, slEnc x = #[.slice Al cur.length cl] := ⟨⟨.slice Al cur.length cl, _, _, _, rfl⟩, rfl⟩
        have HX := Lib.hid hx
        have hlen : pre.length < (linesP l).length := by have := HS.out; rw [List.length_cons] at this; omega
        have HJa : Hid (∀ o : Obj, J pre (wr.alloc o)) := fun o => HJ.out pre W0 (wr.alloc o) none HJ0.out (grown_of_below (HB0.out.alloc hsz0 o)) (fun r e => by cases e)
        have HYa := fun o : Obj => HY.out pre x (wr.alloc o) (HJa.out o) hlen
        rw [hx] at HYa
        obtain ⟨fn, tmps, assign, body, hy, hR⟩ := HYa (.cells #[.int .i64 3, .string text, .int .u64 num, .int .i64 at_, .int .i64 line] 26)
        have HBb : Hid (Below n₀ W (wr.alloc (.cells #[.int .i64 3, .string text, .int .u64 num, .int .i64 at_, .int .i64 line] 26))) := HBn.out.alloc (by have := HBn.out.size; omega) _
        have HZb : Hid (W.heap.size ≤ (wr.alloc (.cells #[.int .i64 3, .string text, .int .u64 num, .int .i64 at_, .int .i64 line] 26)).heap.size) := by have := HWW.out; show _ ≤ _; simp; omega
        clear hx HYa
        gi_wp2
        refine hR.mono ?_
        rintro e W3 (⟨rfl, hJ3, hk3⟩ | ⟨rfl, hJx3⟩)
        · have HJ3 := Lib.hid hJ3
          have HK3 := Lib.hid (HBb.out.trans hk3)
          have HZ3 : Hid (W.heap.size ≤ W3.heap.size) := Nat.le_trans HZb.out hk3.size
          clear hJ3 hk3
          gi_wp2
          go_roundw
          case rel => exact ⟨k + 1, pre ++ [x], [], W3, ⟨by omega, by go_num⟩, HJ3, Below.refl _ _, ⟨by simp, World.ownsRow_nil _ _ _ _⟩, HK3.out, HZ3, by show _ = _; rw [← HS.out]; simp; omega⟩
          case measure => simp [intOf]; omega
        · have HJx3 := Lib.hid hJx3
          clear hJx3
          gi_wp2
          refine bodyPost_ret (results_none rfl _ _ _) rfl ?_
          exact ⟨⟨_, rfl⟩, .inr ⟨pre ++ [x], by simp; omega, HJx3.out⟩⟩
      · have hb3 : (kind != 3) = true := by simpa using h3
        rw [if_neg h3] at HS
        have HN : Hid (∀ o : Obj, RdT ((wr.alloc o).alloc (.cells #[.int .i64 kind, .string text, .int .u64 num, .int .i64 at_, .int .i64 line] 26)) (wr.heap.size + 1 + 1) (some ⟨wr.heap.size + 1, 0, none⟩) 1 [⟨kind, text, num, at_, line⟩]) := fun o => Rd.newAt (wr.alloc o) _ _ _ (by simp) (size := 5) (m := 1) rfl (by simp [maxLen])
        gi_wp2_with (gi_at_builtin; refine wpListIn_append_own _ rfl (.tmp 15) (.tmp 17) 22 rfl W0.heap.size 26 i0 _ 5 48 Tryd.underlying22 hi0 hz0 hz1 hz2 rfl (by decide) _ cur.length (tokCells cur) rfl ?c1 ⟨wr.heap.size + 1, 0, none⟩ 1 1 (tokCells [⟨kind, text, num, at_, line⟩]) ?c2 ?c3 ?c4 (tokCells_one _) ?c5 ?c6 ?c7 ?_)
        case c1 => exact (HO.out.alloc _).alloc _
        case c2 => rfl
        case c3 => rfl
        case c4 => exact rd_cells _ (HN.out _) (by decide)
        case c5 => simp only [maxLen]; omega
        case c6 => omega
        case c7 => simp; omega
        intro v5 w5 hown5 hg5 _
        rw [← tokCells_append] at hown5
        have HO5 := Lib.hid hown5
        have HB5 := Lib.hid (below_own ((HB0.out.alloc hsz0 _).alloc (by simp; omega) _) ((HO.out.alloc _).alloc _) hg5 (Nat.le_refl _) (by simp; omega))
        have HB6 := Lib.hid (below_own ((HBn.out.alloc (by have := HBn.out.size; omega) _).alloc (by have := HBn.out.size; simp; omega) _) ((HO.out.alloc _).alloc _) hg5 (Nat.le_trans hn0 HWW.out) (by have := HBn.out.size; simp; omega))
        clear hown5 hg5
        gi_wp2
        go_roundw
        case rel => exact ⟨k + 1, pre, cur ++ [⟨kind, text, num, at_, line⟩], W0, ⟨by omega, by go_num⟩, HJ0, HB5.out, ⟨by simp; omega, by simpa using HO5.out⟩, HB6.out, HWW, HS⟩
        case measure => simp [intOf]; omega
    · obtain rfl : n = k := by omega
      rw [List.drop_of_length_le (by rw [HLl.out]; exact Nat.le_refl _)] at HS
      by_cases hc0 : 0 < cur.length
      · obtain ⟨x, hx⟩ : ∃ x : SlV, slEnc x = #[.slice Al cur.length cl] := ⟨⟨.slice Al cur.length cl, _, _, _, rfl⟩, rfl⟩
        have hne : cur ≠ [] := by intro e; rw [e] at hc0; simp at hc0
        have hS : pre.length + 1 = (linesP l).length := by
          have := HS.out
          rw [linesGo, if_neg hne] at this
          simpa using this
        have hYa := HY.out pre x wr HJr.out (by omega)
        rw [hx] at hYa
        obtain ⟨fn, tmps, assign, body, hy, hR⟩ := hYa
        have HS2 := Lib.hid hS
        clear hx hS hne
        gi_wp2
        refine hR.mono ?_
        rintro e W3 (⟨rfl, hJ3, hk3⟩ | ⟨rfl, hJx3⟩)
        · have HJ3 := Lib.hid hJ3
          clear hJ3 hk3
          gi_wp2
          go_end0
          exact ⟨⟨_, rfl⟩, .inl ⟨pre ++ [x], by simp; exact HS2.out, HJ3.out⟩⟩
        · have HJx3 := Lib.hid hJx3
          clear hJx3
          gi_wp2
          go_end0
          exact ⟨⟨_, rfl⟩, .inr ⟨pre ++ [x], by simp; have := HS2.out; omega, HJx3.out⟩⟩
      · obtain rfl : cur = [] := by
          rcases cur with _ | ⟨a, r⟩
          · rfl
          · simp at hc0
        have hS : pre.length = (linesP l).length := by
          have := HS.out
          rw [linesGo, if_pos rfl] at this
          simpa using this
        have HS2 := Lib.hid hS
        clear hS
        gi_wp2
        go_end0
        exact ⟨⟨_, rfl⟩, .inl ⟨pre, HS2.out, HJr.out⟩⟩
end Go.Proofs.YthfienjmajllpaaDoor
