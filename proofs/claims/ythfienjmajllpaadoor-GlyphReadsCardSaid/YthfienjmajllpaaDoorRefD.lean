/-
  Chapter 2: the reference's lines: contract of tumblerref02.Lines.
-/
import Derived.Test.YthfienjmajllpaaDoorGlyV
import Derived.Test.YthfienjmajllpaaDoorGlyJ
namespace Go.Proofs.YthfienjmajllpaaDoor
open Go.RowKit
set_option linter.unusedVariables false

def LnsR (l : List Tok) (n₀ : Nat) (pre : List SlV) (W : World) : Prop := ∀ (i : Nat) (x : SlV), pre[i]? = some x → ∃ ln, (linesP l)[i]? = some ln ∧ W.ownsRow n₀ 37 5 x.1 ln.length (tokCells ln)
theorem LnsR.kept {l : List Tok} {n₀ : Nat} {pre : List SlV} {W W' : World} {row : Option Nat} (h : LnsR l n₀ pre W) (hg : W.grownBy W' row) (hr : ∀ g cs fz, row = some g → W.heap[g]? = some (.cells cs 37 fz) → False) : LnsR l n₀ pre W' := fun i x hx => by
  obtain ⟨ln, h1, h2⟩ := h i x hx
  refine ⟨ln, h1, h2.kept hg ?_⟩
  cases hv : x.1.ownBlock with
  | none => exact .inl rfl
  | some b =>
    refine .inr fun e2 => ?_
    obtain ⟨c, fz, hb⟩ := own_row h2 hv
    exact hr b c fz e2.symm hb
theorem LnsR.below {l : List Tok} {n₀ : Nat} {pre : List SlV} {W W' : World} (h : LnsR l n₀ pre W) (hb : Below W.heap.size W W') : LnsR l n₀ pre W' := fun i x hx => by
  obtain ⟨ln, h1, h2⟩ := h i x hx
  exact ⟨ln, h1, own_below h2 hb⟩
theorem LnsR.snoc {l : List Tok} {n₀ : Nat} {pre : List SlV} {x : SlV} {W : World} {ln : List Tok} (h : LnsR l n₀ pre W) (h1 : (linesP l)[pre.length]? = some ln) (h2 : W.ownsRow n₀ 37 5 x.1 ln.length (tokCells ln)) : LnsR l n₀ (pre ++ [x]) W := fun i y hy => by
  by_cases hi : i < pre.length
  · rw [List.getElem?_append_left hi] at hy
    exact h i y hy
  · rw [List.getElem?_append_right (by omega)] at hy
    have hi0 : i - pre.length = 0 := by
      by_cases h0 : i - pre.length = 0
      · exact h0
      · rw [List.getElem?_eq_none (by simp; omega)] at hy; cases hy
    rw [hi0] at hy
    obtain rfl : x = y := by simpa using hy
    obtain rfl : i = pre.length := by omega
    exact ⟨ln, h1, h2⟩
theorem info_slR : (Tryd.prog.info? 29).map (fun i => (i.zero, i.size, i.bytes)) = some (some (.slice none 0 0), 1, 24) := by kernel_rfl
def RLinesPost (l : List Tok) (w : World) (e : Ending) (w' : World) : Prop :=
  ∃ A' c' xs, e = .returned (.slice A' xs.length c') ∧ xs.length = (linesP l).length ∧ Rd w' w'.heap.size 1 A' xs.length (xs.map (·.1)) ∧ LnsR l w.heap.size xs w' ∧ Below w.heap.size w w'

set_option maxRecDepth 100000 in
set_option maxHeartbeats 8000000 in
theorem rlines_any (l : List Tok) (A : Option Addr) (n c : Nat) (w : World) (hL : RdT w w.heap.size A n l) (h48 : n ≤ 100000) :
    Calls Tryd.prog 17 #[.slice A n c] w (RLinesPost l w) := by
  obtain ⟨i0, hi0, hz0, hz1, hz2⟩ := info_parts info_rtok
  obtain ⟨i1, hi1, hy0, hy1, hy2⟩ := info_parts info_slR
  have HLl := Lib.hid hL.tokLen
  have HL := Lib.hid hL
  clear hL
  go_enter Tryd.func17, Tryd.ntmps17
  go_wp2
  go_loopw [3, 4, 5] (fun out lv i wr => ∃ (k : Nat) (pre : List SlV) (cur : List Tok) (W0 : World), (k ≤ n ∧ i = .int .i64 k) ∧ (cur.length ≤ k ∧ pre.length ≤ k) ∧ W0.ownsRow w.heap.size 29 1 out pre.length (pre.map (·.1)) ∧ Below W0.heap.size W0 wr ∧ wr.ownsRow W0.heap.size 37 5 lv cur.length (tokCells cur) ∧
    Hid (LnsR l w.heap.size pre W0) ∧ Below w.heap.size w W0 ∧ Hid ((linesP l).drop pre.length = linesGo (l.drop k) cur ∧ pre.length ≤ (linesP l).length)) (fun _ _ i _ => n - (intOf i).toNat)
  case atStart =>
    refine ⟨0, [], [], w.alloc (.cells #[] 29), ⟨by omega, rfl⟩, ⟨by simp, by simp⟩, World.ownsRow_made w #[] 0 (Nat.le_refl _) (by simp [maxLen]) rfl, (Below.refl _ _).alloc (Nat.le_refl _) _, ?_, fun i x hx => by simp at hx, (Below.refl _ _).alloc (Nat.le_refl _) _, by show _ ∧ _; simp [linesP]⟩
    have := World.ownsRow_made (e := 37) (size := 5) (w.alloc (.cells #[] 29)) #[] (base := (w.alloc (.cells #[] 29)).heap.size) 0 (Nat.le_refl _) (by simp [maxLen]) (by simp)
    simpa [tokCells] using this
  case round =>
    obtain ⟨k, pre, cur, W0, ⟨hk, rfl⟩, ⟨hck, hpk⟩, hout, hb0, hown, HLn, hbw, HS⟩ := hrel
    have HB0 := Lib.hid hb0
    have HBw := Lib.hid (hbw.trans (hb0.mono hbw.size))
    have hsz0 := hb0.size
    have hszw := HBw.out.size
    have hwW := hbw.size
    have HO := Lib.hid hown
    have HOut := Lib.hid (own_below hout hb0)
    have HLr := Lib.hid (HLn.out.below hb0)
    have HOut0 := Lib.hid hout
    have HBW0 := Lib.hid hbw
    obtain ⟨Al, cl, rfl, hcl, _⟩ := Rd.of_own_cap hown
    obtain ⟨Ao, co, rfl, hco, _⟩ := Rd.of_own_cap hout
    clear hout hb0 hown hbw
    by_cases hlt : k < n
    · obtain ⟨b0, o0, t, hA, hbB, ht, c0, c1, c2, c3, c4⟩ := (HL.out.below HBw.out).tokAt hlt
      subst hA
      have HD := Lib.hid (tdrop_at ht)
      rw [HD.out, linesGo_cons] at HS
      clear ht
      obtain ⟨kind, text, num, at_, line⟩ := t
      simp only at c0 c1 c2 c3 c4
      by_cases h3 : kind = 3
      · subst h3
        rw [if_pos rfl] at HS
        obtain ⟨x, hx⟩ : ∃ x : SlV, x.1 = .slice Al cur.length cl := ⟨⟨.slice Al cur.length cl, _, _, _, rfl⟩, rfl⟩
        obtain ⟨hd1, hd2⟩ := drop_head HS.out.1
        have HS3 : Hid ((linesP l).drop (pre ++ [x]).length = linesGo (l.drop (k + 1)) [] ∧ (pre ++ [x]).length ≤ (linesP l).length) := by
          show _ ∧ _
          rw [List.length_append]
          exact ⟨hd2, (List.getElem?_eq_some_iff.1 hd1).1⟩
        have HL3 : Hid (LnsR l w.heap.size (pre ++ [x]) wr) := HLr.out.snoc hd1 (by rw [hx]; exact own_base HO.out hwW)
        have HXv : Hid ((pre ++ [x]).map (·.1) = pre.map (·.1) ++ [.slice Al cur.length cl]) := by show _ = _; rw [List.map_append, List.map_cons, hx]; rfl
        have RN : Hid (Rd (wr.alloc (.cells #[.slice Al cur.length cl] 29)) (wr.heap.size + 1) 1 (some ⟨wr.heap.size, 0, none⟩) 1 [.slice Al cur.length cl]) := Rd.newAt wr _ _ _ rfl (size := 1) (m := 1) rfl (by simp [maxLen])
        clear hd1 hd2 hx
        go_wp2_with (at_builtin; refine wpList_app _ (by rfl) (.tmp 20) (.tmp 22) 43 (by rfl) w.heap.size 29 i1 _ 1 24 Tryd.underlying43 hi1 hy0 hy1 hy2 rfl (by decide) (.slice Ao pre.length co) pre.length (pre.map (·.1)) (by rfl) (HOut.out.alloc _) (wr.heap.size + 1) (some ⟨wr.heap.size, 0, none⟩) 1 1 [.slice Al cur.length cl] (by rfl) RN.out (by intro u hu; simp at hu; subst hu; rfl) ?c4 ?c5 ?c6 ?_)
        case c4 => unfold maxLen; omega
        case c5 => omega
        case c6 => first | omega | (simp; omega) | (rw [World.size_alloc]; omega)
        intro v5 w5 hown5 hg5 _
        obtain ⟨A5, c5, hv5, _, _⟩ := Rd.of_own_cap hown5
        subst hv5
        rw [← HXv.out] at hown5
        have HO5 : Hid (w5.ownsRow w.heap.size 29 1 (.slice A5 (pre.length + 1) c5) (pre ++ [x]).length ((pre ++ [x]).map (·.1))) := by
          show World.ownsRow _ _ _ _ _ _ _
          rw [List.length_append]; exact hown5
        have HL5 : Hid (LnsR l w.heap.size (pre ++ [x]) w5) := (HL3.out.kept (World.grownBy_alloc wr _ none) (fun _ _ _ e => by cases e)).kept hg5 (fun g cs fz e hc => by
          obtain ⟨c2, fz2, h2⟩ := own_row (HOut.out.alloc _) e
          rw [h2] at hc; cases hc)
        have HB5 := Lib.hid (below_own (HBw.out.alloc hszw _) (HOut.out.alloc _) hg5 (Nat.le_refl _) (by simp; omega))
        clear hown5 hg5 RN
        go_wp2
        go_roundw
        case rel =>
          refine ⟨k + 1, pre ++ [x], [], w5, ⟨by omega, by go_num⟩, ⟨by simp, by simp; omega⟩, HO5.out, (Below.refl _ _).alloc (Nat.le_refl _) _, ?_, HL5, HB5.out, HS3⟩
          exact World.ownsRow_made w5 #[] 0 (Nat.le_refl _) (by simp [maxLen]) rfl
        case measure => simp [intOf]; omega
      · have hb3 : (kind == 3) = false := by simpa using h3
        rw [if_neg h3] at HS
        have RN : Hid (RdT (wr.alloc (.cells #[.int .i64 kind, .string text, .int .u64 num, .int .i64 at_, .int .i64 line] 37)) (wr.heap.size + 1) (some ⟨wr.heap.size, 0, none⟩) 1 [⟨kind, text, num, at_, line⟩]) := Rd.newAt wr _ _ _ rfl (size := 5) (m := 1) rfl (by simp [maxLen])
        go_wp2_with (at_builtin; refine wpList_app _ (by rfl) (.tmp 25) (.tmp 30) 29 (by rfl) W0.heap.size 37 i0 _ 5 48 Tryd.underlying29 hi0 hz0 hz1 hz2 rfl (by decide) (.slice Al cur.length cl) cur.length (tokCells cur) (by rfl) (HO.out.alloc _) (wr.heap.size + 1) (some ⟨wr.heap.size, 0, none⟩) 1 1 (tokCells [⟨kind, text, num, at_, line⟩]) (by rfl) RN.out (tokCells_one _) ?d4 ?d5 ?d6 ?_)
        case d4 => unfold maxLen; omega
        case d5 => omega
        case d6 => simp; omega
        intro v5 w5 hown5 hg5 _
        obtain ⟨A5, c5, hv5, _, _⟩ := Rd.of_own_cap hown5
        subst hv5
        rw [← tokCells_append] at hown5
        have HO5 : Hid (w5.ownsRow W0.heap.size 37 5 (.slice A5 (cur.length + 1) c5) (cur ++ [(⟨kind, text, num, at_, line⟩ : Tok)]).length (tokCells (cur ++ [(⟨kind, text, num, at_, line⟩ : Tok)]))) := by
          show World.ownsRow _ _ _ _ _ _ _
          rw [List.length_append]; exact hown5
        have HB5 := Lib.hid (below_own (HB0.out.alloc hsz0 _) (HO.out.alloc _) hg5 (Nat.le_refl _) (by simp; omega))
        clear hown5 hg5 RN
        go_wp2
        go_roundw
        case rel => exact ⟨k + 1, pre, _, W0, ⟨by omega, by go_num⟩, ⟨by simp; omega, by omega⟩, HOut0.out, HB5.out, HO5.out, HLn, HBW0.out, HS⟩
        case measure => simp [intOf]; omega
    · obtain rfl : n = k := by omega
      have hdd := HS.out
      rw [List.drop_of_length_le (l := l) (by rw [HLl.out]; exact Nat.le_refl _)] at hdd
      by_cases hc0 : 0 < cur.length
      · have hne : cur ≠ [] := by intro e; rw [e] at hc0; simp at hc0
        rw [linesGo, if_neg hne] at hdd
        obtain ⟨x, hx⟩ : ∃ x : SlV, x.1 = .slice Al cur.length cl := ⟨⟨.slice Al cur.length cl, _, _, _, rfl⟩, rfl⟩
        obtain ⟨hd1, hd2⟩ := drop_head hdd.1
        have HLe : Hid ((pre ++ [x]).length = (linesP l).length) := by
          show _ = _
          have h1 := (List.getElem?_eq_some_iff.1 hd1).1
          have h2 := congrArg List.length hd2
          rw [List.length_drop] at h2
          simp at h2 ⊢
          omega
        have HL3 : Hid (LnsR l w.heap.size (pre ++ [x]) wr) := HLr.out.snoc hd1 (by rw [hx]; exact own_base HO.out hwW)
        have HXv : Hid ((pre ++ [x]).map (·.1) = pre.map (·.1) ++ [.slice Al cur.length cl]) := by show _ = _; rw [List.map_append, List.map_cons, hx]; rfl
        have RN : Hid (Rd (wr.alloc (.cells #[.slice Al cur.length cl] 29)) (wr.heap.size + 1) 1 (some ⟨wr.heap.size, 0, none⟩) 1 [.slice Al cur.length cl]) := Rd.newAt wr _ _ _ rfl (size := 1) (m := 1) rfl (by simp [maxLen])
        clear hd1 hd2 hx hdd hne
        go_wp2_with (at_builtin; refine wpList_app _ (by rfl) (.tmp 35) (.tmp 37) 43 (by rfl) w.heap.size 29 i1 _ 1 24 Tryd.underlying43 hi1 hy0 hy1 hy2 rfl (by decide) (.slice Ao pre.length co) pre.length (pre.map (·.1)) (by rfl) (HOut.out.alloc _) (wr.heap.size + 1) (some ⟨wr.heap.size, 0, none⟩) 1 1 [.slice Al cur.length cl] (by rfl) RN.out (by intro u hu; simp at hu; subst hu; rfl) ?e4 ?e5 ?e6 ?_)
        case e4 => unfold maxLen; omega
        case e5 => omega
        case e6 => first | omega | (simp; omega) | (rw [World.size_alloc]; omega)
        intro v5 w5 hown5 hg5 _
        rw [← HXv.out] at hown5
        obtain ⟨A5, c5, hv5, _, hr5⟩ := Rd.of_own_cap hown5
        subst hv5
        have HR5 : Hid (Rd w5 w5.heap.size 1 A5 (pre ++ [x]).length ((pre ++ [x]).map (·.1))) := by
          show Rd _ _ _ _ _ _
          rw [List.length_append]; exact hr5
        have HL5 : Hid (LnsR l w.heap.size (pre ++ [x]) w5) := (HL3.out.kept (World.grownBy_alloc wr _ none) (fun _ _ _ e => by cases e)).kept hg5 (fun g cs fz e hc => by
          obtain ⟨c2, fz2, h2⟩ := own_row (HOut.out.alloc _) e
          rw [h2] at hc; cases hc)
        have HB5 := Lib.hid (below_own (HBw.out.alloc hszw _) (HOut.out.alloc _) hg5 (Nat.le_refl _) (by simp; omega))
        clear hown5 hg5 RN hr5
        go_wp2
        go_ret
        exact ⟨A5, c5, pre ++ [x], by rw [List.length_append]; rfl, HLe.out, HR5.out, HL5.out, HB5.out⟩
      · obtain rfl : cur = [] := by
          rcases cur with _ | ⟨a, r⟩
          · rfl
          · simp at hc0
        have HLe : Hid (pre.length = (linesP l).length) := by
          show _ = _
          have h1 := congrArg List.length hdd.1
          rw [linesGo, if_pos rfl, List.length_drop] at h1
          have h2 := hdd.2
          simp at h1
          omega
        obtain ⟨_, _, he9, _, hr9⟩ := Rd.of_own_cap HOut.out
        cases he9
        have HR9 := Lib.hid hr9
        clear hdd hr9
        go_wp2
        go_ret
        exact ⟨Ao, co, pre, rfl, HLe.out, HR9.out, HLr.out, HBw.out⟩
end Go.Proofs.YthfienjmajllpaaDoor
