/-
  Chapter 2: the reader in memory; contract of reader.put.
-/
import Derived.Test.YthklmcpjlpaklaaDoorGlyB
import Derived.Test.YthklmcpjlpaklaaDoorOwn2
import Derived.StillTailTactics
import Derived.Laws.OwnMore
import Derived.Handy
import Derived.WalkKit
import Derived.Deep.RegionLaw
namespace Go.Proofs.YthklmcpjlpaklaaDoor
open Go.RowKit
set_option linter.unusedVariables false

/-- The reader, in block g. -/
def Rdr (w : World) (g : Nat) (s : ByteArray) (st : LSt) : Prop :=
  ∃ v, Bk w g 92 #[.string s, v, .int .i64 (st.line : Int), .int .i64 st.fromI, .bool st.remark] ∧ w.ownsRow (g + 1) 74 5 v st.list.length (tokCells st.list)
/-- What stays: all that lies below block g; all above it that is no row of tokens. -/
structure Frm (g : Nat) (w w' : World) : Prop where
  below : Below g w w'
  kept : Lib.OthersKept 74 (some g) w w'
theorem Frm.refl (g : Nat) (w : World) : Frm g w w := ⟨Below.refl _ _, Lib.OthersKept.refl _ _ _⟩
theorem Frm.trans {g : Nat} {a b c : World} (h : Frm g a b) (k : Frm g b c) : Frm g a c := ⟨h.below.trans k.below, h.kept.trans k.kept⟩
theorem info_tok : (Tryd.prog.info? 74).map (fun i => (i.zero, i.size, i.bytes)) = some (some (.agg #[.int .i64 0, .string ⟨#[]⟩, .int .u64 0, .int .i64 0, .int .i64 0]), 5, 48) := by kernel_rfl
def Tok.val (t : Tok) : Value := .agg #[.int .i64 t.kind, .string t.text, .int .u64 t.num, .int .i64 t.at_, .int .i64 t.line]

def PutPost (g : Nat) (s : ByteArray) (st : LSt) (t : Tok) (w : World) (e : Ending) (w' : World) : Prop :=
  e = .returned (.int .i64 (putP st t).1) ∧ Rdr w' g s (putP st t).2 ∧ Frm g w w'

theorem own_row {w : World} {base : Nat} {e : TypeId} {size n : Nat} {v : Value} {xs : List Value} {g : Nat} (h : w.ownsRow base e size v n xs) (hv : v.ownBlock = some g) : ∃ c fz, w.heap[g]? = some (.cells c e fz) := by
  rcases h.2 with ⟨rfl, _⟩ | ⟨g', cap, cur, rfl, _, hg, _⟩
  · simp [Value.ownBlock] at hv
  · obtain rfl : g' = g := by simpa [Value.ownBlock] using hv
    exact ⟨_, _, hg⟩

set_option maxRecDepth 100000 in
set_option maxHeartbeats 4000000 in
theorem put_any (g : Nat) (s : ByteArray) (st : LSt) (t : Tok) (w : World) (hR : Rdr w g s st) (hl : st.list.length ≤ 16384) :
    Calls Tryd.prog 43 #[.pointer (some ⟨g, 0, none⟩), t.val] w (PutPost g s st t w) := by
  obtain ⟨i0, hi0, hz0, hz1, hz2⟩ := info_parts info_tok
  obtain ⟨v, hbk, hown⟩ := hR
  obtain ⟨A, c, rfl, hc, r⟩ := Rd.of_own_cap hown
  have HK := Lib.hid hbk
  have HO := Lib.hid hown
  have hg := hbk.lt
  have k0 := hbk.cell 0
  have k1 := hbk.cell 1
  have k2 := hbk.cell 2
  have k3 := hbk.cell 3
  have k4 := hbk.cell 4
  have f1 := hbk.frozen 1
  simp at k0 k1 k2 k3 k4
  clear hbk hown r
  obtain ⟨n, hn⟩ : ∃ n, st.list.length = n := ⟨_, rfl⟩
  have HN := Lib.hid hn
  rw [hn] at hl k1 HO HK
  clear hn
  obtain ⟨kind, text, num, at_, line⟩ := t
  rw [show (⟨kind, text, num, at_, line⟩ : Tok).val = .agg #[.int .i64 kind, .string text, .int .u64 num, .int .i64 at_, .int .i64 line] from rfl]
  by_cases hfull : 16384 ≤ n
  · have E : Hid (putP st ⟨kind, text, num, at_, line⟩ = (3, st)) := by show _ = _; rw [putP, if_pos (by rw [HN.out]; exact hfull)]
    go_enter Tryd.func43, Tryd.ntmps43
    go_wp2
    go_ret
    refine ⟨ret_int (by rw [E.out]), ?_, (Below.refl _ _).alloc (by omega) _, (Lib.OthersKept.refl _ _ _).alloc _⟩
    rw [E.out]
    exact ⟨_, HK.out.alloc _, by rw [HN.out]; exact HO.out.alloc _⟩
  · have E : Hid (putP st ⟨kind, text, num, at_, line⟩ = (0, { st with list := st.list ++ [⟨kind, text, num, at_, st.line⟩] })) := by show _ = _; rw [putP, if_neg (by rw [HN.out]; exact hfull)]
    go_enter Tryd.func43, Tryd.ntmps43
    go_wp2
    obtain ⟨W1, hW1⟩ : ∃ W1, w.alloc (.cells #[.int .i64 kind, .string text, .int .u64 num, .int .i64 at_, .int .i64 (st.line : Int)] 74) = W1 := ⟨_, rfl⟩
    have B1 : Bk W1 w.heap.size 74 #[.int .i64 kind, .string text, .int .u64 num, .int .i64 at_, .int .i64 (st.line : Int)] := by rw [← hW1]; exact Bk.new w _ _
    have K1 : Hid (Bk W1 g 92 #[.string s, .slice A n c, .int .i64 (st.line : Int), .int .i64 st.fromI, .bool st.remark]) := by rw [← hW1]; exact HK.out.alloc _
    have O1 : Hid (W1.ownsRow (g + 1) 74 5 (.slice A n c) n (tokCells st.list)) := by rw [← hW1]; exact HO.out.alloc _
    have F1 : Hid (Frm g w W1) := by rw [← hW1]; exact ⟨(Below.refl _ _).alloc (by omega) _, (Lib.OthersKept.refl _ _ _).alloc _⟩
    have z1 : W1.heap.size = w.heap.size + 1 := by rw [← hW1]; simp
    have Z1 := Lib.hid z1
    have hg1 : g < W1.heap.size := by omega
    have b0 := B1.cell 0
    have b1 := B1.cell 1
    have b2 := B1.cell 2
    have b3 := B1.cell 3
    have b4 := B1.cell 4
    have m1 := K1.out.cell 1
    have e1 := K1.out.frozen 1
    simp at b0 b1 b2 b3 b4 m1
    rw [hW1]
    clear hW1 B1 k0 k1 k2 k3 k4 f1 z1
    have HOa := Lib.hid ((O1.out.alloc (.cells #[.int .i64 kind, .string text, .int .u64 num, .int .i64 at_, .int .i64 (st.line : Int)] 74)).drew)
    have Ra : Hid (RdT ((W1.alloc (.cells #[.int .i64 kind, .string text, .int .u64 num, .int .i64 at_, .int .i64 (st.line : Int)] 74)).drew) (W1.heap.size + 1) (some ⟨W1.heap.size, 0, none⟩) 1 [⟨kind, text, num, at_, st.line⟩]) := (Rd.newAt W1 _ _ _ rfl (size := 5) (m := 1) rfl (by simp [maxLen])).drew
    have h1 := tokCells_one [⟨kind, text, num, at_, st.line⟩]
    have h63b : n + 1 ≤ maxLen := by simp only [maxLen]; omega
    have hb48 : (n + 1) * 48 ≤ 140737488355328 := by omega
    have hz3 : g + 1 ≤ ((W1.alloc (.cells #[.int .i64 kind, .string text, .int .u64 num, .int .i64 at_, .int .i64 (st.line : Int)] 74)).drew).heap.size := by simp; omega
    go_region_law (
      refine step_app _ (by rfl) (.tmp 20) (.tmp 22) 70 (by rfl) (g + 1) 74 i0 _ 5 48 Tryd.underlying70 hi0 hz0 hz1 hz2 rfl (by decide) _ n _ (by rfl) HOa.out _ _ 1 1 _ (by rfl) Ra.out h1 h63b hb48 hz3 ?_
      intro v5 w5 hown5 hg5 _
      obtain ⟨A5, c5, hv5, _, _⟩ := Rd.of_own_cap hown5
      subst hv5
      rw [← tokCells_append] at hown5
      have HO5 := Lib.hid hown5
      have HK5 : Hid (Bk w5 g 92 #[.string s, .slice A n c, .int .i64 (st.line : Int), .int .i64 st.fromI, .bool st.remark]) := (K1.out.alloc (.cells #[.int .i64 kind, .string text, .int .u64 num, .int .i64 at_, .int .i64 (st.line : Int)] 74)).drew.grown hg5 (fun e => by have := (HOa.out.lt _ e).1; omega)
      have HF5 : Hid (Frm g w w5) := F1.out.trans ⟨below_own ((Below.refl g W1).alloc (by omega) (.cells #[.int .i64 kind, .string text, .int .u64 num, .int .i64 at_, .int .i64 (st.line : Int)] 74)).drew HOa.out hg5 (by omega) (by omega), ((Lib.OthersKept.refl _ _ W1).alloc (.cells #[.int .i64 kind, .string text, .int .u64 num, .int .i64 at_, .int .i64 (st.line : Int)] 74)).drew.grown hg5 (fun g' e => own_row HOa.out e)⟩
      have q1 := HK5.out.cell 1
      have p1 := HK5.out.frozen 1
      simp at q1
      have hg5' := HK5.out.lt
      clear hown5 hg5)
    all_goals
      go_wp2
      go_ret
      refine ⟨ret_int (by rw [E.out]), ?_, HF5.out.trans ⟨(Below.refl _ _).setCell (p := ⟨g, 1, none⟩) (Nat.le_refl _) _, (Lib.OthersKept.refl _ _ _).setCell ⟨g, 1, none⟩ rfl _⟩⟩
      rw [E.out]
      refine ⟨.slice A5 (n + 1) c5, ?_, ?_⟩
      · have h := HK5.out.set_ 1 (.slice A5 (n + 1) c5)
        simp at h
        exact h
      · rw [show (st.list ++ [(⟨kind, text, num, at_, st.line⟩ : Tok)]).length = n + 1 by rw [List.length_append, HN.out]; rfl]
        exact ownsRow_setCell_below HO5.out (a := ⟨g, 1, none⟩) (by simp) _
end Go.Proofs.YthklmcpjlpaklaaDoor
