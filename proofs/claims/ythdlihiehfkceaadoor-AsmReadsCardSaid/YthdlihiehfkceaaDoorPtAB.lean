/-
  Texts of one proof, joined (wip/gen/pack.py): Own2, GlyC, GlyL, AsmB, GlyD.
-/
import Derived.Test.YthdlihiehfkceaaDoorPtAA
import Derived.Deep.AppendLies
import Derived.RegionTactic
import Derived.StillTailTactics
import Derived.Laws.OwnMore
import Derived.Handy
import Derived.WalkKit
import Derived.Deep.RegionLaw
import Derived.RangeFuncNested
import Derived.RangeFuncBound
import Derived.RangeFuncCalls
import Derived.RangeFuncLeaves
import Derived.RangeFuncBox
import Derived.Shelf.Abstract
import Derived.OwnWalkIn
import Derived.TacticsInMore
import Derived.LoopNIn
import Derived.LoopIn
import Derived.Maps.AppendAt
import Derived.Deep.Cut
import Derived.Deep.QuietTactic
import Derived.Deep.DeepCutAuto
namespace Go.Proofs.YthdlihiehfkceaaDoor
open Go.RowKit
set_option linter.unusedVariables false

theorem step_app {P : Program} (w : World) {ops : Array Oper} {o : Oper} {a : Act} {K : Act → World → Prop} {Q : Exit → Act → World → Prop} {E : Prop} (hgd : o.guard = none) (s x : Operand) (t : TypeId)
    (ho : o.op = .call { callee := .builtin .append, args := #[s, x], argTypes := #[t, t] })
    (base : Nat) (e : TypeId) (i : TypeInfo) (z : Value) (size bytes : Nat) (ht : P.underlying t = some (.slice e)) (hi : P.info? e = some i) (hz : i.zero = some z)
    (hsize : i.size = size) (hby : i.bytes = bytes) (hzs : z.cells.size = size) (hsz : 0 < size)
    (v : Value) (n : Nat) (xs : List Value) (hs : a.eval s = v) (hown : w.ownsRow base e size v n xs)
    (B : Nat) (A : Option Addr) (m c : Nat) (news : List Value) (hx : a.eval x = .slice A m c) (hr : Rd w B size A m news) (h1 : ∀ u ∈ news, u.oneCell' = true)
    (h63 : n + m ≤ maxLen) (hbytes : (n + m) * bytes ≤ 140737488355328) (hbase : base ≤ w.heap.size)
    (h : ∀ v' w', w'.ownsRow base e size v' (n + m) (xs ++ news) → w.grownBy w' v.ownBlock → (v'.ownBlock = v.ownBlock ∨ v'.ownBlock = some w.heap.size) → K (a.put o.dst v') w') :
    if Region.wanted o (yielded ops a.tmps) = true then Oper.wp P o a w K Q else E := by
  have hw : Region.wanted o (yielded ops a.tmps) = true := by simp [Region.wanted, hgd]
  rw [if_pos hw]
  obtain ⟨v', w', hrun, h2, h3, h4⟩ := run_app (P := P) w base t o.type e i z size bytes ht hi hz hsize hby hzs hsz v n xs hown B A m c news hr h1 h63 hbytes hbase
  unfold Oper.wp execOp
  simp only [ho, resolve, invoke, builtin, Sem.run_bind, Sem.run_pure, Result.andThen_ok, List.map_toArray, List.map_cons, List.map_nil, hs, hx, hrun]
  exact h v' w' h2 h3 h4
/-- 'append' under a guard that holds. -/
theorem wpList_app_want {P : Program} (w : World) {ops : Array Oper} {rest : List Oper} {o : Oper} {a : Act} {Q : Exit → Act → World → Prop} (hgd : Region.wanted o (yielded ops a.tmps) = true) (s x : Operand) (t : TypeId)
    (ho : o.op = .call { callee := .builtin .append, args := #[s, x], argTypes := #[t, t] })
    (base : Nat) (e : TypeId) (i : TypeInfo) (z : Value) (size bytes : Nat) (ht : P.underlying t = some (.slice e)) (hi : P.info? e = some i) (hz : i.zero = some z)
    (hsize : i.size = size) (hby : i.bytes = bytes) (hzs : z.cells.size = size) (hsz : 0 < size)
    (v : Value) (n : Nat) (xs : List Value) (hs : a.eval s = v) (hown : w.ownsRow base e size v n xs)
    (B : Nat) (A : Option Addr) (m c : Nat) (news : List Value) (hx : a.eval x = .slice A m c) (hr : Rd w B size A m news) (h1 : ∀ u ∈ news, u.oneCell' = true)
    (h63 : n + m ≤ maxLen) (hbytes : (n + m) * bytes ≤ 140737488355328) (hbase : base ≤ w.heap.size)
    (h : ∀ v' w', w'.ownsRow base e size v' (n + m) (xs ++ news) → w.grownBy w' v.ownBlock → (v'.ownBlock = v.ownBlock ∨ v'.ownBlock = some w.heap.size) → wpList P ops Q rest (a.put o.dst v') w') : wpList P ops Q (o :: rest) a w := by
  refine BigFrame.wpList_want hgd fun K hK => ?_
  obtain ⟨v', w', hrun, h2, h3, h4⟩ := run_app (P := P) w base t o.type e i z size bytes ht hi hz hsize hby hzs hsz v n xs hown B A m c news hr h1 h63 hbytes hbase
  unfold Oper.wp execOp
  simp only [ho, resolve, invoke, builtin, Sem.run_bind, Sem.run_pure, Result.andThen_ok, List.map_toArray, List.map_cons, List.map_nil, hs, hx, hrun]
  exact hK _ _ (h v' w' h2 h3 h4)
end Go.Proofs.YthdlihiehfkceaaDoor

namespace Go.Proofs.YthdlihiehfkceaaDoor
open Go.RowKit
set_option linter.unusedVariables false

/-- The reader, in block g. -/
def Rdr (w : World) (g : Nat) (s : ByteArray) (st : LSt) : Prop :=
  ∃ v, Bk w g 103 #[.string s, v, .int .i64 (st.line : Int), .int .i64 st.fromI, .bool st.remark] ∧ w.ownsRow (g + 1) 58 5 v st.list.length (tokCells st.list)
/-- What stays: all that lies below block g; all above it that is no row of tokens. -/
structure Frm (g : Nat) (w w' : World) : Prop where
  below : Below g w w'
  kept : Lib.OthersKept 58 (some g) w w'
theorem Frm.refl (g : Nat) (w : World) : Frm g w w := ⟨Below.refl _ _, Lib.OthersKept.refl _ _ _⟩
theorem Frm.trans {g : Nat} {a b c : World} (h : Frm g a b) (k : Frm g b c) : Frm g a c := ⟨h.below.trans k.below, h.kept.trans k.kept⟩
theorem info_tok : (Tryd.prog.info? 58).map (fun i => (i.zero, i.size, i.bytes)) = some (some (.agg #[.int .i64 0, .string ⟨#[]⟩, .int .u64 0, .int .i64 0, .int .i64 0]), 5, 48) := by kernel_rfl
def Tok.val (t : Tok) : Value := .agg #[.int .i64 t.kind, .string t.text, .int .u64 t.num, .int .i64 t.at_, .int .i64 t.line]

def PutPost (g : Nat) (s : ByteArray) (st : LSt) (t : Tok) (w : World) (e : Ending) (w' : World) : Prop :=
  e = .returned (.int .i64 (putP st t).1) ∧ Rdr w' g s (putP st t).2 ∧ Frm g w w'

theorem own_row {w : World} {base : Nat} {e : TypeId} {size n : Nat} {v : Value} {xs : List Value} {g : Nat} (h : w.ownsRow base e size v n xs) (hv : v.ownBlock = some g) : ∃ c fz, w.heap[g]? = some (.cells c e fz) := by
  rcases h.2 with ⟨rfl, _⟩ | ⟨g', cap, cur, rfl, _, hg, _⟩
  · simp [Value.ownBlock] at hv
  · obtain rfl : g' = g := by simpa [Value.ownBlock] using hv
    exact ⟨_, _, hg⟩

set_option maxRecDepth 100000 in
set_option maxHeartbeats 4000000 in
theorem put_any (g : Nat) (s : ByteArray) (st : LSt) (t : Tok) (w : World) (hR : Rdr w g s st) (hl : st.list.length ≤ 16384) :
    Calls Tryd.prog 72 #[.pointer (some ⟨g, 0, none⟩), t.val] w (PutPost g s st t w) := by
  obtain ⟨i0, hi0, hz0, hz1, hz2⟩ := info_parts info_tok
  obtain ⟨v, hbk, hown⟩ := hR
  obtain ⟨A, c, rfl, hc, r⟩ := Rd.of_own_cap hown
  have HK := Lib.hid hbk
  have HO := Lib.hid hown
  have hg := hbk.lt
  have k0 := hbk.cell 0
  have k1 := hbk.cell 1
  have k2 := hbk.cell 2
  have k3 := hbk.cell 3
  have k4 := hbk.cell 4
  have f1 := hbk.frozen 1
  simp at k0 k1 k2 k3 k4
  clear hbk hown r
  obtain ⟨n, hn⟩ : ∃ n, st.list.length = n := ⟨_, rfl⟩
  have HN := Lib.hid hn
  rw [hn] at hl k1 HO HK
  clear hn
  obtain ⟨kind, text, num, at_, line⟩ := t
  rw [show (⟨kind, text, num, at_, line⟩ : Tok).val = .agg #[.int .i64 kind, .string text, .int .u64 num, .int .i64 at_, .int .i64 line] from rfl]
  by_cases hfull : 16384 ≤ n
  · have E : Hid (putP st ⟨kind, text, num, at_, line⟩ = (3, st)) := by show _ = _; rw [putP, if_pos (by rw [HN.out]; exact hfull)]
    go_enter Tryd.func72, Tryd.ntmps72
    go_wp2
    go_ret
    refine ⟨ret_int (by rw [E.out]), ?_, (Below.refl _ _).alloc (by omega) _, (Lib.OthersKept.refl _ _ _).alloc _⟩
    rw [E.out]
    exact ⟨_, HK.out.alloc _, by rw [HN.out]; exact HO.out.alloc _⟩
  · have E : Hid (putP st ⟨kind, text, num, at_, line⟩ = (0, { st with list := st.list ++ [⟨kind, text, num, at_, st.line⟩] })) := by show _ = _; rw [putP, if_neg (by rw [HN.out]; exact hfull)]
    go_enter Tryd.func72, Tryd.ntmps72
    go_wp2
    obtain ⟨W1, hW1⟩ : ∃ W1, w.alloc (.cells #[.int .i64 kind, .string text, .int .u64 num, .int .i64 at_, .int .i64 (st.line : Int)] 58) = W1 := ⟨_, rfl⟩
    have B1 : Bk W1 w.heap.size 58 #[.int .i64 kind, .string text, .int .u64 num, .int .i64 at_, .int .i64 (st.line : Int)] := by rw [← hW1]; exact Bk.new w _ _
    have K1 : Hid (Bk W1 g 103 #[.string s, .slice A n c, .int .i64 (st.line : Int), .int .i64 st.fromI, .bool st.remark]) := by rw [← hW1]; exact HK.out.alloc _
    have O1 : Hid (W1.ownsRow (g + 1) 58 5 (.slice A n c) n (tokCells st.list)) := by rw [← hW1]; exact HO.out.alloc _
    have F1 : Hid (Frm g w W1) := by rw [← hW1]; exact ⟨(Below.refl _ _).alloc (by omega) _, (Lib.OthersKept.refl _ _ _).alloc _⟩
    have z1 : W1.heap.size = w.heap.size + 1 := by rw [← hW1]; simp
    have Z1 := Lib.hid z1
    have hg1 : g < W1.heap.size := by omega
    have b0 := B1.cell 0
    have b1 := B1.cell 1
    have b2 := B1.cell 2
    have b3 := B1.cell 3
    have b4 := B1.cell 4
    have m1 := K1.out.cell 1
    have e1 := K1.out.frozen 1
    simp at b0 b1 b2 b3 b4 m1
    rw [hW1]
    clear hW1 B1 k0 k1 k2 k3 k4 f1 z1
    have HOa := Lib.hid ((O1.out.alloc (.cells #[.int .i64 kind, .string text, .int .u64 num, .int .i64 at_, .int .i64 (st.line : Int)] 58)).drew)
    have Ra : Hid (RdT ((W1.alloc (.cells #[.int .i64 kind, .string text, .int .u64 num, .int .i64 at_, .int .i64 (st.line : Int)] 58)).drew) (W1.heap.size + 1) (some ⟨W1.heap.size, 0, none⟩) 1 [⟨kind, text, num, at_, st.line⟩]) := (Rd.newAt W1 _ _ _ rfl (size := 5) (m := 1) rfl (by simp [maxLen])).drew
    have h1 := tokCells_one [⟨kind, text, num, at_, st.line⟩]
    have h63b : n + 1 ≤ maxLen := by simp only [maxLen]; omega
    have hb48 : (n + 1) * 48 ≤ 140737488355328 := by omega
    have hz3 : g + 1 ≤ ((W1.alloc (.cells #[.int .i64 kind, .string text, .int .u64 num, .int .i64 at_, .int .i64 (st.line : Int)] 58)).drew).heap.size := by simp; omega
    go_region_law (
      refine step_app _ (by rfl) (.tmp 20) (.tmp 22) 56 (by rfl) (g + 1) 58 i0 _ 5 48 Tryd.underlying56 hi0 hz0 hz1 hz2 rfl (by decide) _ n _ (by rfl) HOa.out _ _ 1 1 _ (by rfl) Ra.out h1 h63b hb48 hz3 ?_
      intro v5 w5 hown5 hg5 _
      obtain ⟨A5, c5, hv5, _, _⟩ := Rd.of_own_cap hown5
      subst hv5
      rw [← tokCells_append] at hown5
      have HO5 := Lib.hid hown5
      have HK5 : Hid (Bk w5 g 103 #[.string s, .slice A n c, .int .i64 (st.line : Int), .int .i64 st.fromI, .bool st.remark]) := (K1.out.alloc (.cells #[.int .i64 kind, .string text, .int .u64 num, .int .i64 at_, .int .i64 (st.line : Int)] 58)).drew.grown hg5 (fun e => by have := (HOa.out.lt _ e).1; omega)
      have HF5 : Hid (Frm g w w5) := F1.out.trans ⟨below_own ((Below.refl g W1).alloc (by omega) (.cells #[.int .i64 kind, .string text, .int .u64 num, .int .i64 at_, .int .i64 (st.line : Int)] 58)).drew HOa.out hg5 (by omega) (by omega), ((Lib.OthersKept.refl _ _ W1).alloc (.cells #[.int .i64 kind, .string text, .int .u64 num, .int .i64 at_, .int .i64 (st.line : Int)] 58)).drew.grown hg5 (fun g' e => own_row HOa.out e)⟩
      have q1 := HK5.out.cell 1
      have p1 := HK5.out.frozen 1
      simp at q1
      have hg5' := HK5.out.lt
      clear hown5 hg5)
    all_goals
      go_wp2
      go_ret
      refine ⟨ret_int (by rw [E.out]), ?_, HF5.out.trans ⟨(Below.refl _ _).setCell (p := ⟨g, 1, none⟩) (Nat.le_refl _) _, (Lib.OthersKept.refl _ _ _).setCell ⟨g, 1, none⟩ rfl _⟩⟩
      rw [E.out]
      refine ⟨.slice A5 (n + 1) c5, ?_, ?_⟩
      · have h := HK5.out.set_ 1 (.slice A5 (n + 1) c5)
        simp at h
        exact h
      · rw [show (st.list ++ [(⟨kind, text, num, at_, st.line⟩ : Tok)]).length = n + 1 by rw [List.length_append, HN.out]; rfl]
        exact ownsRow_setCell_below HO5.out (a := ⟨g, 1, none⟩) (by simp) _
end Go.Proofs.YthdlihiehfkceaaDoor

namespace Go.Proofs.YthdlihiehfkceaaDoor
open Go.RowKit
set_option linter.unusedVariables false

/-- A slice as a value. -/
def SlV : Type := { v : Value // ∃ A n c, v = .slice A n c }
def slEnc (x : SlV) : Array Value := #[x.1]
theorem linesGo_cons (t : Tok) (r line : List Tok) : linesGo (t :: r) line = if t.kind = 3 then line :: linesGo r [] else linesGo r (line ++ [t]) := rfl
theorem linesGo_len_pos {r line : List Tok} (h : line ≠ []) : 0 < (linesGo r line).length := by
  induction r generalizing line with
  | nil => simp [linesGo, h]
  | cons t r ih =>
    rw [linesGo]
    split
    · simp
    · exact ih (by simp)
theorem grown_of_below {W W' : World} (h : Below W.heap.size W W') : W.grownBy W' none := ⟨h.os, h.tape, h.output, h.size, fun k hk _ => h.block k hk⟩
theorem tdrop_at {l : List Tok} {k : Nat} {t : Tok} (h : l[k]? = some t) : l.drop k = t :: l.drop (k + 1) := by
  obtain ⟨hk, rfl⟩ := List.getElem?_eq_some_iff.1 h
  exact List.drop_eq_getElem_cons hk

set_option maxRecDepth 100000 in
set_option maxHeartbeats 4000000 in
theorem lines1_in (F : Fence) (nn : Nat) (hF : F.fn 55) (hro : F.round = none) (hn : 1 ≤ nn) (lp Bn n₀ : Nat) (l : List Tok) (A : Option Addr) (n c : Nat) (J Jx : List SlV → World → Prop)
    (W : World) (hJ : AbidesFrom W.heap.size J)
    (hY : ∀ pre x W1, J pre W1 → pre.length < (linesP l).length → YieldAt F (nn - 1) Tryd.prog lp (slEnc x) W1 fun e W' =>
      (e = .returned (.bool true) ∧ J (pre ++ [x]) W' ∧ Below n₀ W1 W') ∨ (e = .returned (.bool false) ∧ Jx (pre ++ [x]) W'))
    (hn0 : n₀ ≤ W.heap.size) (hBn : W.cell? ⟨Bn, 0, none⟩ = some (.slice A n c)) (hL : RdT W n₀ A n l) (h48 : n ≤ 1000000) (h0 : J [] W) :
    CallsIn F nn Tryd.prog 55 #[.func (.yield lp) #[] #[], .pointer (some ⟨Bn, 0, none⟩)] W fun e W' => (∃ v, e = .returned v) ∧
      ((∃ ys : List SlV, ys.length = (linesP l).length ∧ J ys W') ∨ (∃ pre : List SlV, pre.length ≤ (linesP l).length ∧ Jx pre W')) := by
  obtain ⟨i0, hi0, hz0, hz1, hz2⟩ := info_parts info_tok
  have HLl := Lib.hid hL.tokLen
  have HL := Lib.hid hL
  have HJ := Lib.hid hJ
  have HY := Lib.hid hY
  clear hL hJ hY
  refine callsIn_of_wp Tryd.func55 rfl hF ?_ hro
  simp only [Tryd.ntmps55, List.size_toArray, List.length_cons, List.length_nil, Nat.reduceAdd, Nat.reduceSub, Array.replicate_succ, Array.replicate_zero, List.push_toArray, List.append_toArray, List.nil_append, List.cons_append]
  gi_wp2
  gi_loopw [8, 3, 5] (fun i lv _u wr => ∃ (k : Nat) (pre : List SlV) (cur : List Tok) (W0 : World), (k ≤ n ∧ i = .int .i64 k) ∧ Hid (J pre W0) ∧ Below W0.heap.size W0 wr ∧ (cur.length ≤ k ∧ wr.ownsRow W0.heap.size 58 5 lv cur.length (tokCells cur)) ∧ Below n₀ W wr ∧ Hid (W.heap.size ≤ W0.heap.size) ∧ Hid (pre.length + (linesGo (l.drop k) cur).length = (linesP l).length))
    (fun i _ _ _ => n - (intOf i).toNat)
  case atStart => exact ⟨0, [], [], W, ⟨by omega, rfl⟩, h0, Below.refl _ _, ⟨by simp, World.ownsRow_nil _ _ _ _⟩, Below.refl _ _, Nat.le_refl _, by show _ = _; simp [linesP]⟩
  case round =>
    obtain ⟨k, pre, cur, W0, ⟨hk, rfl⟩, HJ0, hb0, ⟨hck, hown⟩, hbn, HWW, HS⟩ := hrel
    have HB0 := Lib.hid hb0
    have HBn := Lib.hid hbn
    have HO := Lib.hid hown
    have hsz0 := hb0.size
    obtain ⟨Al, cl, rfl, hcl, _⟩ := Rd.of_own_cap hown
    have HJr : Hid (J pre wr) := HJ.out pre W0 wr none HJ0.out (grown_of_below hb0) (fun r e => by cases e)
    clear hb0 hbn hown
    by_cases hlt : k < n
    · obtain ⟨b0, o0, t, hA, hbB, ht, c0, c1, c2, c3, c4⟩ := (HL.out.below HBn.out).tokAt hlt
      subst hA
      have HD := Lib.hid (tdrop_at ht)
      rw [HD.out, linesGo_cons] at HS
      clear ht
      obtain ⟨kind, text, num, at_, line⟩ := t
      simp only at c0 c1 c2 c3 c4
      by_cases h3 : kind = 3
      · subst h3
        rw [if_pos rfl] at HS
        obtain ⟨x, hx⟩ : ∃ x : SlV, slEnc x = #[.slice Al cur.length cl] := ⟨⟨.slice Al cur.length cl, _, _, _, rfl⟩, rfl⟩
        have HX := Lib.hid hx
        have hlen : pre.length < (linesP l).length := by have := HS.out; rw [List.length_cons] at this; omega
        have HJa : Hid (∀ o : Obj, J pre (wr.alloc o)) := fun o => HJ.out pre W0 (wr.alloc o) none HJ0.out (grown_of_below (HB0.out.alloc hsz0 o)) (fun r e => by cases e)
        have HYa := fun o : Obj => HY.out pre x (wr.alloc o) (HJa.out o) hlen
        rw [hx] at HYa
        obtain ⟨fn, tmps, assign, body, hy, hR⟩ := HYa (.cells #[.int .i64 3, .string text, .int .u64 num, .int .i64 at_, .int .i64 line] 58)
        have HBb : Hid (Below n₀ W (wr.alloc (.cells #[.int .i64 3, .string text, .int .u64 num, .int .i64 at_, .int .i64 line] 58))) := HBn.out.alloc (by have := HBn.out.size; omega) _
        have HZb : Hid (W.heap.size ≤ (wr.alloc (.cells #[.int .i64 3, .string text, .int .u64 num, .int .i64 at_, .int .i64 line] 58)).heap.size) := by have := HWW.out; show _ ≤ _; simp; omega
        clear hx HYa
        gi_wp2
        refine hR.mono ?_
        rintro e W3 (⟨rfl, hJ3, hk3⟩ | ⟨rfl, hJx3⟩)
        · have HJ3 := Lib.hid hJ3
          have HK3 := Lib.hid (HBb.out.trans hk3)
          have HZ3 : Hid (W.heap.size ≤ W3.heap.size) := Nat.le_trans HZb.out hk3.size
          clear hJ3 hk3
          gi_wp2
          go_roundw
          case rel => exact ⟨k + 1, pre ++ [x], [], W3, ⟨by omega, by go_num⟩, HJ3, Below.refl _ _, ⟨by simp, World.ownsRow_nil _ _ _ _⟩, HK3.out, HZ3, by show _ = _; rw [← HS.out]; simp; omega⟩
          case measure => simp [intOf]; omega
        · have HJx3 := Lib.hid hJx3
          clear hJx3
          gi_wp2
          refine bodyPost_ret (results_none rfl _ _ _) rfl ?_
          exact ⟨⟨_, rfl⟩, .inr ⟨pre ++ [x], by simp; omega, HJx3.out⟩⟩
      · have hb3 : (kind != 3) = true := by simpa using h3
        rw [if_neg h3] at HS
        have HN : Hid (∀ o : Obj, RdT ((wr.alloc o).alloc (.cells #[.int .i64 kind, .string text, .int .u64 num, .int .i64 at_, .int .i64 line] 58)) (wr.heap.size + 1 + 1) (some ⟨wr.heap.size + 1, 0, none⟩) 1 [⟨kind, text, num, at_, line⟩]) := fun o => Rd.newAt (wr.alloc o) _ _ _ (by simp) (size := 5) (m := 1) rfl (by simp [maxLen])
        gi_wp2_with (gi_at_builtin; refine wpListIn_append_own _ rfl (.tmp 15) (.tmp 17) 56 rfl W0.heap.size 58 i0 _ 5 48 Tryd.underlying56 hi0 hz0 hz1 hz2 rfl (by decide) _ cur.length (tokCells cur) rfl ?c1 ⟨wr.heap.size + 1, 0, none⟩ 1 1 (tokCells [⟨kind, text, num, at_, line⟩]) ?c2 ?c3 ?c4 (tokCells_one _) ?c5 ?c6 ?c7 ?_)
        case c1 => exact (HO.out.alloc _).alloc _
        case c2 => rfl
        case c3 => rfl
        case c4 => exact rd_cells _ (HN.out _) (by decide)
        case c5 => simp only [maxLen]; omega
        case c6 => omega
        case c7 => simp; omega
        intro v5 w5 hown5 hg5 _
        rw [← tokCells_append] at hown5
        have HO5 := Lib.hid hown5
        have HB5 := Lib.hid (below_own ((HB0.out.alloc hsz0 _).alloc (by simp; omega) _) ((HO.out.alloc _).alloc _) hg5 (Nat.le_refl _) (by simp; omega))
        have HB6 := Lib.hid (below_own ((HBn.out.alloc (by have := HBn.out.size; omega) _).alloc (by have := HBn.out.size; simp; omega) _) ((HO.out.alloc _).alloc _) hg5 (Nat.le_trans hn0 HWW.out) (by have := HBn.out.size; simp; omega))
        clear hown5 hg5
        gi_wp2
        go_roundw
        case rel => exact ⟨k + 1, pre, cur ++ [⟨kind, text, num, at_, line⟩], W0, ⟨by omega, by go_num⟩, HJ0, HB5.out, ⟨by simp; omega, by simpa using HO5.out⟩, HB6.out, HWW, HS⟩
        case measure => simp [intOf]; omega
    · obtain rfl : n = k := by omega
      rw [List.drop_of_length_le (by rw [HLl.out]; exact Nat.le_refl _)] at HS
      by_cases hc0 : 0 < cur.length
      · obtain ⟨x, hx⟩ : ∃ x : SlV, slEnc x = #[.slice Al cur.length cl] := ⟨⟨.slice Al cur.length cl, _, _, _, rfl⟩, rfl⟩
        have hne : cur ≠ [] := by intro e; rw [e] at hc0; simp at hc0
        have hS : pre.length + 1 = (linesP l).length := by
          have := HS.out
          rw [linesGo, if_neg hne] at this
          simpa using this
        have hYa := HY.out pre x wr HJr.out (by omega)
        rw [hx] at hYa
        obtain ⟨fn, tmps, assign, body, hy, hR⟩ := hYa
        have HS2 := Lib.hid hS
        clear hx hS hne
        gi_wp2
        refine hR.mono ?_
        rintro e W3 (⟨rfl, hJ3, hk3⟩ | ⟨rfl, hJx3⟩)
        · have HJ3 := Lib.hid hJ3
          clear hJ3 hk3
          gi_wp2
          go_end0
          exact ⟨⟨_, rfl⟩, .inl ⟨pre ++ [x], by simp; exact HS2.out, HJ3.out⟩⟩
        · have HJx3 := Lib.hid hJx3
          clear hJx3
          gi_wp2
          go_end0
          exact ⟨⟨_, rfl⟩, .inr ⟨pre ++ [x], by simp; have := HS2.out; omega, HJx3.out⟩⟩
      · obtain rfl : cur = [] := by
          rcases cur with _ | ⟨a, r⟩
          · rfl
          · simp at hc0
        have hS : pre.length = (linesP l).length := by
          have := HS.out
          rw [linesGo, if_pos rfl] at this
          simpa using this
        have HS2 := Lib.hid hS
        clear hS
        gi_wp2
        go_end0
        exact ⟨⟨_, rfl⟩, .inl ⟨pre, HS2.out, HJr.out⟩⟩
end Go.Proofs.YthdlihiehfkceaaDoor

namespace Go.Proofs.YthdlihiehfkceaaDoor
open Go.RowKit
set_option linter.unusedVariables false

theorem a_grown_set (w : World) (g k : Nat) (v : Value) : w.grownBy (w.setCell ⟨g, k, none⟩ v) (some g) := by
  refine ⟨rfl, rfl, rfl, by simp [World.setCell], fun i hi hne => ?_⟩
  simp only [World.setCell]
  rw [Array.getElem?_modify, if_neg (fun e => hne (by rw [e]))]
theorem grown_more {w w' : World} (h : w.grownBy w' none) (r : Option Nat) : w.grownBy w' r := ⟨h.os, h.tape, h.output, h.size, fun k hk _ => h.block k hk (by simp)⟩
/-- An order in block g. -/
abbrev BkO (w : World) (g : Nat) (o : Ord) : Prop := Bk w g 111 o.cells.toArray
def TakePost (g c : Nat) (t : Tok) (o : Ord) (w : World) (e : Ending) (w' : World) : Prop :=
  e = .returned (.bool (takeP c t o).2) ∧ BkO w' g (takeP c t o).1 ∧ w.grownBy w' (some g)
theorem TakePost.mk {g c : Nat} {t : Tok} {o o' : Ord} {b b' : Bool} {w w' : World} (h : takeP c t o = (o', b)) (hb : b' = b) (h1 : BkO w' g o') (h2 : w.grownBy w' (some g)) : TakePost g c t o w (.returned (.bool b')) w' := by
  subst hb
  unfold TakePost
  rw [h]
  exact ⟨rfl, h1, h2⟩
theorem BkO.five {w : World} {g : Nat} {o : Ord} (h : BkO w g o) (k : Nat) (v : Value) (o' : Ord) (he : o.cells.toArray.setIfInBounds k v = o'.cells.toArray) : BkO (w.setCell ⟨g, k, none⟩ v) g o' := by
  have := Bk.set_ h k v
  rw [he] at this
  exact this
section
variable {c : Nat} {t : Tok} {o : Ord}
theorem takeP_a {v : Int} (hn : (if t.kind = 0 then regP t.text else -1) = v) : takeP 97 t o = ({ o with i := { o.i with a := v } }, decide (0 ≤ v)) := by subst hn; rfl
theorem takeP_b {v : Int} (hn : (if t.kind = 0 then regP t.text else -1) = v) : takeP 98 t o = ({ o with i := { o.i with b := v } }, decide (0 ≤ v)) := by subst hn; rfl
theorem takeP_c {v : Int} (hn : (if t.kind = 0 then regP t.text else -1) = v) : takeP 99 t o = ({ o with i := { o.i with c := v } }, decide (0 ≤ v)) := by subst hn; rfl
theorem takeP_i : takeP 105 t o = ({ o with i := { o.i with imm := t.num } }, decide (t.kind = 1)) := rfl
theorem takeP_l : takeP 108 t o = ({ o with name := t.text }, decide (t.kind = 0) && freeP t.text) := rfl
theorem takeP_w (h : c ≠ 97 ∧ c ≠ 98 ∧ c ≠ 99 ∧ c ≠ 105 ∧ c ≠ 108) (hw : wordP c ≠ ⟨#[]⟩) : takeP c t o = (o, decide (t.kind = 0) && decide (t.text = wordP c)) := by
  unfold takeP
  simp only [if_neg h.1, if_neg h.2.1, if_neg h.2.2.1, if_neg h.2.2.2.1, if_neg h.2.2.2.2, if_pos hw]
theorem takeP_s (h : c ≠ 97 ∧ c ≠ 98 ∧ c ≠ 99 ∧ c ≠ 105 ∧ c ≠ 108) (hw : wordP c = ⟨#[]⟩) : takeP c t o = (o, decide (t.kind = 2) && decide (t.text = Utf8.encode (c : Int))) := by
  unfold takeP
  simp only [if_neg h.1, if_neg h.2.1, if_neg h.2.2.1, if_neg h.2.2.2.1, if_neg h.2.2.2.2]
  rw [if_neg (by simp [hw])]
end

set_option maxHeartbeats 4000000 in
theorem take_a (g : Nat) (o : Ord) (t : Tok) (w : World) (hg : BkO w g o) :
    Calls Tryd.prog 76 #[.pointer (some ⟨g, 0, none⟩), .int .i32 97, t.val] w (TakePost g 97 t o w) := by
  obtain ⟨kd, tx, nu, ta, tl⟩ := t
  obtain ⟨⟨oo, oa, ob, oc, om⟩, on, oat⟩ := o
  have hlt := hg.lt
  obtain ⟨q, hq⟩ : ∃ q, regP tx = q := ⟨_, rfl⟩
  by_cases hk0 : kd = 0
  all_goals
    first
      | have e0 : (kd == 0) = false := beq_eq_false_iff_ne.2 hk0
      | have e0 : (kd == 0) = true := beq_iff_eq.2 hk0
    have HK := Lib.hid hk0
    clear hk0
    go_enter Tryd.func76, Tryd.ntmps76
    simp only [Tok.val]
    go_upto_region 1 with fail
    obtain ⟨W0, hW0⟩ : ∃ W0, w.alloc (.cells #[.int .i64 kd, .string tx, .int .u64 nu, .int .i64 ta, .int .i64 tl] 58) = W0 := ⟨_, rfl⟩
    rw [hW0]
    have hgr : w.grownBy W0 (some g) := by rw [← hW0]; exact grown_more (World.grownBy_alloc _ _ _) _
    have hO : BkO W0 g ⟨⟨oo, oa, ob, oc, om⟩, on, oat⟩ := by rw [← hW0]; exact Bk.alloc hg _
    have hT : Bk W0 w.heap.size 58 #[.int .i64 kd, .string tx, .int .u64 nu, .int .i64 ta, .int .i64 tl] := by rw [← hW0]; exact Bk.new _ _ _
    have t0 : W0.cell? ⟨w.heap.size, 0, none⟩ = some (.int .i64 kd) := hT.cell 0
    have t1 : W0.cell? ⟨w.heap.size, 1, none⟩ = some (.string tx) := hT.cell 1
    have t2 : W0.cell? ⟨w.heap.size, 2, none⟩ = some (.int .u64 nu) := hT.cell 2
    have f1 := hO.frozen 1
    have f2 := hO.frozen 2
    have f3 := hO.frozen 3
    have f4 := hO.frozen 4
    have f5 := hO.frozen 5
    have c0 : W0.cell? ⟨g, 0, none⟩ = some (.int .i64 oo) := hO.cell 0
    have c1 : W0.cell? ⟨g, 1, none⟩ = some (.int .i64 oa) := hO.cell 1
    have c2 : W0.cell? ⟨g, 2, none⟩ = some (.int .i64 ob) := hO.cell 2
    have c3 : W0.cell? ⟨g, 3, none⟩ = some (.int .i64 oc) := hO.cell 3
    have c4 : W0.cell? ⟨g, 4, none⟩ = some (.int .u64 om) := hO.cell 4
    have c5 : W0.cell? ⟨g, 5, none⟩ = some (.string on) := hO.cell 5
    have c6 : W0.cell? ⟨g, 6, none⟩ = some (.int .i64 oat) := hO.cell 6
    have HO := Lib.hid hO
    have HG := Lib.hid hgr
    have HQ := Lib.hid hq
    clear hW0 hgr hO hT hq hg
    try go_wp2_with (go_at_call 75; refine (register_any _ _).mono ?_; rintro e w' ⟨rfl, rfl⟩; rw [HQ.out])
    all_goals
      go_ret
      first
        | exact .mk (takeP_a ((if_pos HK.out).trans HQ.out)) rfl (BkO.five HO.out 1 _ _ rfl) (HG.out.andThen (a_grown_set _ _ _ _) (fun j hj => Or.inr hj))
        | exact .mk (takeP_a (if_neg HK.out)) rfl (BkO.five HO.out 1 _ _ rfl) (HG.out.andThen (a_grown_set _ _ _ _) (fun j hj => Or.inr hj))

set_option maxHeartbeats 4000000 in
theorem take_b (g : Nat) (o : Ord) (t : Tok) (w : World) (hg : BkO w g o) :
    Calls Tryd.prog 76 #[.pointer (some ⟨g, 0, none⟩), .int .i32 98, t.val] w (TakePost g 98 t o w) := by
  obtain ⟨kd, tx, nu, ta, tl⟩ := t
  obtain ⟨⟨oo, oa, ob, oc, om⟩, on, oat⟩ := o
  have hlt := hg.lt
  obtain ⟨q, hq⟩ : ∃ q, regP tx = q := ⟨_, rfl⟩
  by_cases hk0 : kd = 0
  all_goals
    first
      | have e0 : (kd == 0) = false := beq_eq_false_iff_ne.2 hk0
      | have e0 : (kd == 0) = true := beq_iff_eq.2 hk0
    have HK := Lib.hid hk0
    clear hk0
    go_enter Tryd.func76, Tryd.ntmps76
    simp only [Tok.val]
    go_upto_region 1 with fail
    obtain ⟨W0, hW0⟩ : ∃ W0, w.alloc (.cells #[.int .i64 kd, .string tx, .int .u64 nu, .int .i64 ta, .int .i64 tl] 58) = W0 := ⟨_, rfl⟩
    rw [hW0]
    have hgr : w.grownBy W0 (some g) := by rw [← hW0]; exact grown_more (World.grownBy_alloc _ _ _) _
    have hO : BkO W0 g ⟨⟨oo, oa, ob, oc, om⟩, on, oat⟩ := by rw [← hW0]; exact Bk.alloc hg _
    have hT : Bk W0 w.heap.size 58 #[.int .i64 kd, .string tx, .int .u64 nu, .int .i64 ta, .int .i64 tl] := by rw [← hW0]; exact Bk.new _ _ _
    have t0 : W0.cell? ⟨w.heap.size, 0, none⟩ = some (.int .i64 kd) := hT.cell 0
    have t1 : W0.cell? ⟨w.heap.size, 1, none⟩ = some (.string tx) := hT.cell 1
    have t2 : W0.cell? ⟨w.heap.size, 2, none⟩ = some (.int .u64 nu) := hT.cell 2
    have f1 := hO.frozen 1
    have f2 := hO.frozen 2
    have f3 := hO.frozen 3
    have f4 := hO.frozen 4
    have f5 := hO.frozen 5
    have c0 : W0.cell? ⟨g, 0, none⟩ = some (.int .i64 oo) := hO.cell 0
    have c1 : W0.cell? ⟨g, 1, none⟩ = some (.int .i64 oa) := hO.cell 1
    have c2 : W0.cell? ⟨g, 2, none⟩ = some (.int .i64 ob) := hO.cell 2
    have c3 : W0.cell? ⟨g, 3, none⟩ = some (.int .i64 oc) := hO.cell 3
    have c4 : W0.cell? ⟨g, 4, none⟩ = some (.int .u64 om) := hO.cell 4
    have c5 : W0.cell? ⟨g, 5, none⟩ = some (.string on) := hO.cell 5
    have c6 : W0.cell? ⟨g, 6, none⟩ = some (.int .i64 oat) := hO.cell 6
    have HO := Lib.hid hO
    have HG := Lib.hid hgr
    have HQ := Lib.hid hq
    clear hW0 hgr hO hT hq hg
    try go_wp2_with (go_at_call 75; refine (register_any _ _).mono ?_; rintro e w' ⟨rfl, rfl⟩; rw [HQ.out])
    all_goals
      go_ret
      first
        | exact .mk (takeP_b ((if_pos HK.out).trans HQ.out)) rfl (BkO.five HO.out 2 _ _ rfl) (HG.out.andThen (a_grown_set _ _ _ _) (fun j hj => Or.inr hj))
        | exact .mk (takeP_b (if_neg HK.out)) rfl (BkO.five HO.out 2 _ _ rfl) (HG.out.andThen (a_grown_set _ _ _ _) (fun j hj => Or.inr hj))

set_option maxHeartbeats 4000000 in
theorem take_c (g : Nat) (o : Ord) (t : Tok) (w : World) (hg : BkO w g o) :
    Calls Tryd.prog 76 #[.pointer (some ⟨g, 0, none⟩), .int .i32 99, t.val] w (TakePost g 99 t o w) := by
  obtain ⟨kd, tx, nu, ta, tl⟩ := t
  obtain ⟨⟨oo, oa, ob, oc, om⟩, on, oat⟩ := o
  have hlt := hg.lt
  obtain ⟨q, hq⟩ : ∃ q, regP tx = q := ⟨_, rfl⟩
  by_cases hk0 : kd = 0
  all_goals
    first
      | have e0 : (kd == 0) = false := beq_eq_false_iff_ne.2 hk0
      | have e0 : (kd == 0) = true := beq_iff_eq.2 hk0
    have HK := Lib.hid hk0
    clear hk0
    go_enter Tryd.func76, Tryd.ntmps76
    simp only [Tok.val]
    go_upto_region 1 with fail
    obtain ⟨W0, hW0⟩ : ∃ W0, w.alloc (.cells #[.int .i64 kd, .string tx, .int .u64 nu, .int .i64 ta, .int .i64 tl] 58) = W0 := ⟨_, rfl⟩
    rw [hW0]
    have hgr : w.grownBy W0 (some g) := by rw [← hW0]; exact grown_more (World.grownBy_alloc _ _ _) _
    have hO : BkO W0 g ⟨⟨oo, oa, ob, oc, om⟩, on, oat⟩ := by rw [← hW0]; exact Bk.alloc hg _
    have hT : Bk W0 w.heap.size 58 #[.int .i64 kd, .string tx, .int .u64 nu, .int .i64 ta, .int .i64 tl] := by rw [← hW0]; exact Bk.new _ _ _
    have t0 : W0.cell? ⟨w.heap.size, 0, none⟩ = some (.int .i64 kd) := hT.cell 0
    have t1 : W0.cell? ⟨w.heap.size, 1, none⟩ = some (.string tx) := hT.cell 1
    have t2 : W0.cell? ⟨w.heap.size, 2, none⟩ = some (.int .u64 nu) := hT.cell 2
    have f1 := hO.frozen 1
    have f2 := hO.frozen 2
    have f3 := hO.frozen 3
    have f4 := hO.frozen 4
    have f5 := hO.frozen 5
    have c0 : W0.cell? ⟨g, 0, none⟩ = some (.int .i64 oo) := hO.cell 0
    have c1 : W0.cell? ⟨g, 1, none⟩ = some (.int .i64 oa) := hO.cell 1
    have c2 : W0.cell? ⟨g, 2, none⟩ = some (.int .i64 ob) := hO.cell 2
    have c3 : W0.cell? ⟨g, 3, none⟩ = some (.int .i64 oc) := hO.cell 3
    have c4 : W0.cell? ⟨g, 4, none⟩ = some (.int .u64 om) := hO.cell 4
    have c5 : W0.cell? ⟨g, 5, none⟩ = some (.string on) := hO.cell 5
    have c6 : W0.cell? ⟨g, 6, none⟩ = some (.int .i64 oat) := hO.cell 6
    have HO := Lib.hid hO
    have HG := Lib.hid hgr
    have HQ := Lib.hid hq
    clear hW0 hgr hO hT hq hg
    try go_wp2_with (go_at_call 75; refine (register_any _ _).mono ?_; rintro e w' ⟨rfl, rfl⟩; rw [HQ.out])
    all_goals
      go_ret
      first
        | exact .mk (takeP_c ((if_pos HK.out).trans HQ.out)) rfl (BkO.five HO.out 3 _ _ rfl) (HG.out.andThen (a_grown_set _ _ _ _) (fun j hj => Or.inr hj))
        | exact .mk (takeP_c (if_neg HK.out)) rfl (BkO.five HO.out 3 _ _ rfl) (HG.out.andThen (a_grown_set _ _ _ _) (fun j hj => Or.inr hj))

set_option maxHeartbeats 4000000 in
theorem take_i (g : Nat) (o : Ord) (t : Tok) (w : World) (hg : BkO w g o) :
    Calls Tryd.prog 76 #[.pointer (some ⟨g, 0, none⟩), .int .i32 105, t.val] w (TakePost g 105 t o w) := by
  obtain ⟨kd, tx, nu, ta, tl⟩ := t
  obtain ⟨⟨oo, oa, ob, oc, om⟩, on, oat⟩ := o
  have hlt := hg.lt
  obtain ⟨q, hq⟩ : ∃ q, regP tx = q := ⟨_, rfl⟩
  by_cases hk0 : kd = 0
  all_goals
    first
      | have e0 : (kd == 0) = false := beq_eq_false_iff_ne.2 hk0
      | have e0 : (kd == 0) = true := beq_iff_eq.2 hk0
    have HK := Lib.hid hk0
    clear hk0
    go_enter Tryd.func76, Tryd.ntmps76
    simp only [Tok.val]
    go_upto_region 1 with fail
    obtain ⟨W0, hW0⟩ : ∃ W0, w.alloc (.cells #[.int .i64 kd, .string tx, .int .u64 nu, .int .i64 ta, .int .i64 tl] 58) = W0 := ⟨_, rfl⟩
    rw [hW0]
    have hgr : w.grownBy W0 (some g) := by rw [← hW0]; exact grown_more (World.grownBy_alloc _ _ _) _
    have hO : BkO W0 g ⟨⟨oo, oa, ob, oc, om⟩, on, oat⟩ := by rw [← hW0]; exact Bk.alloc hg _
    have hT : Bk W0 w.heap.size 58 #[.int .i64 kd, .string tx, .int .u64 nu, .int .i64 ta, .int .i64 tl] := by rw [← hW0]; exact Bk.new _ _ _
    have t0 : W0.cell? ⟨w.heap.size, 0, none⟩ = some (.int .i64 kd) := hT.cell 0
    have t1 : W0.cell? ⟨w.heap.size, 1, none⟩ = some (.string tx) := hT.cell 1
    have t2 : W0.cell? ⟨w.heap.size, 2, none⟩ = some (.int .u64 nu) := hT.cell 2
    have f1 := hO.frozen 1
    have f2 := hO.frozen 2
    have f3 := hO.frozen 3
    have f4 := hO.frozen 4
    have f5 := hO.frozen 5
    have c0 : W0.cell? ⟨g, 0, none⟩ = some (.int .i64 oo) := hO.cell 0
    have c1 : W0.cell? ⟨g, 1, none⟩ = some (.int .i64 oa) := hO.cell 1
    have c2 : W0.cell? ⟨g, 2, none⟩ = some (.int .i64 ob) := hO.cell 2
    have c3 : W0.cell? ⟨g, 3, none⟩ = some (.int .i64 oc) := hO.cell 3
    have c4 : W0.cell? ⟨g, 4, none⟩ = some (.int .u64 om) := hO.cell 4
    have c5 : W0.cell? ⟨g, 5, none⟩ = some (.string on) := hO.cell 5
    have c6 : W0.cell? ⟨g, 6, none⟩ = some (.int .i64 oat) := hO.cell 6
    have HO := Lib.hid hO
    have HG := Lib.hid hgr
    have HQ := Lib.hid hq
    clear hW0 hgr hO hT hq hg
    by_cases hk1 : kd = 1
    all_goals
      first
        | have e1 : (kd == 1) = false := beq_eq_false_iff_ne.2 hk1
        | have e1 : (kd == 1) = true := beq_iff_eq.2 hk1
      have HK1 := Lib.hid hk1
      clear hk1
      try go_wp2_with (go_at_call 75; refine (register_any _ _).mono ?_; rintro e w' ⟨rfl, rfl⟩; rw [HQ.out])
      all_goals
        go_ret
        first
          | exact .mk takeP_i (decide_eq_true HK1.out).symm (BkO.five HO.out 4 _ _ rfl) (HG.out.andThen (a_grown_set _ _ _ _) (fun j hj => Or.inr hj))
          | exact .mk takeP_i (decide_eq_false HK1.out).symm (BkO.five HO.out 4 _ _ rfl) (HG.out.andThen (a_grown_set _ _ _ _) (fun j hj => Or.inr hj))

set_option maxHeartbeats 4000000 in
theorem take_l (g : Nat) (o : Ord) (t : Tok) (w : World) (hg : BkO w g o) :
    Calls Tryd.prog 76 #[.pointer (some ⟨g, 0, none⟩), .int .i32 108, t.val] w (TakePost g 108 t o w) := by
  obtain ⟨kd, tx, nu, ta, tl⟩ := t
  obtain ⟨⟨oo, oa, ob, oc, om⟩, on, oat⟩ := o
  have hlt := hg.lt
  obtain ⟨q, hq⟩ : ∃ q, regP tx = q := ⟨_, rfl⟩
  by_cases hk0 : kd = 0
  all_goals
    first
      | have e0 : (kd == 0) = false := beq_eq_false_iff_ne.2 hk0
      | have e0 : (kd == 0) = true := beq_iff_eq.2 hk0
    have HK := Lib.hid hk0
    clear hk0
    go_enter Tryd.func76, Tryd.ntmps76
    simp only [Tok.val]
    go_upto_region 1 with fail
    obtain ⟨W0, hW0⟩ : ∃ W0, w.alloc (.cells #[.int .i64 kd, .string tx, .int .u64 nu, .int .i64 ta, .int .i64 tl] 58) = W0 := ⟨_, rfl⟩
    rw [hW0]
    have hgr : w.grownBy W0 (some g) := by rw [← hW0]; exact grown_more (World.grownBy_alloc _ _ _) _
    have hO : BkO W0 g ⟨⟨oo, oa, ob, oc, om⟩, on, oat⟩ := by rw [← hW0]; exact Bk.alloc hg _
    have hT : Bk W0 w.heap.size 58 #[.int .i64 kd, .string tx, .int .u64 nu, .int .i64 ta, .int .i64 tl] := by rw [← hW0]; exact Bk.new _ _ _
    have t0 : W0.cell? ⟨w.heap.size, 0, none⟩ = some (.int .i64 kd) := hT.cell 0
    have t1 : W0.cell? ⟨w.heap.size, 1, none⟩ = some (.string tx) := hT.cell 1
    have t2 : W0.cell? ⟨w.heap.size, 2, none⟩ = some (.int .u64 nu) := hT.cell 2
    have f1 := hO.frozen 1
    have f2 := hO.frozen 2
    have f3 := hO.frozen 3
    have f4 := hO.frozen 4
    have f5 := hO.frozen 5
    have c0 : W0.cell? ⟨g, 0, none⟩ = some (.int .i64 oo) := hO.cell 0
    have c1 : W0.cell? ⟨g, 1, none⟩ = some (.int .i64 oa) := hO.cell 1
    have c2 : W0.cell? ⟨g, 2, none⟩ = some (.int .i64 ob) := hO.cell 2
    have c3 : W0.cell? ⟨g, 3, none⟩ = some (.int .i64 oc) := hO.cell 3
    have c4 : W0.cell? ⟨g, 4, none⟩ = some (.int .u64 om) := hO.cell 4
    have c5 : W0.cell? ⟨g, 5, none⟩ = some (.string on) := hO.cell 5
    have c6 : W0.cell? ⟨g, 6, none⟩ = some (.int .i64 oat) := hO.cell 6
    have HO := Lib.hid hO
    have HG := Lib.hid hgr
    have HQ := Lib.hid hq
    clear hW0 hgr hO hT hq hg
    try go_wp2_with (first | (go_at_call 75; refine (register_any _ _).mono ?_; rintro e w' ⟨rfl, rfl⟩; rw [HQ.out]) | (go_at_call 56; refine (free_any _ _).mono ?_; rintro e w' ⟨rfl, hbf⟩; have HO2 := Lib.hid ((BkO.five HO.out 5 (.string tx) ⟨⟨oo, oa, ob, oc, om⟩, tx, oat⟩ rfl).below hbf (BkO.five HO.out 5 (.string tx) ⟨⟨oo, oa, ob, oc, om⟩, tx, oat⟩ rfl).lt); have HG2 := Lib.hid ((HG.out.andThen (a_grown_set _ g 5 (.string tx)) (fun j hj => Or.inr hj)).andThen (grown_of_below hbf) (fun j hj => by cases hj)); clear hbf))
    all_goals
      go_ret
      first
        | exact .mk takeP_l (by rw [decide_eq_true HK.out]; rfl) HO2.out HG2.out
        | exact .mk takeP_l (by rw [decide_eq_false HK.out]; rfl) (BkO.five HO.out 5 _ _ rfl) (HG.out.andThen (a_grown_set _ _ _ _) (fun j hj => Or.inr hj))

set_option maxHeartbeats 4000000 in
theorem take_w (g : Nat) (o : Ord) (c : Nat) (t : Tok) (w : World) (hg : BkO w g o) (hc : c ≠ 97 ∧ c ≠ 98 ∧ c ≠ 99 ∧ c ≠ 105 ∧ c ≠ 108) (hw : wordP c ≠ ⟨#[]⟩) :
    Calls Tryd.prog 76 #[.pointer (some ⟨g, 0, none⟩), .int .i32 c, t.val] w (TakePost g c t o w) := by
  obtain ⟨kd, tx, nu, ta, tl⟩ := t
  obtain ⟨⟨oo, oa, ob, oc, om⟩, on, oat⟩ := o
  have hlt := hg.lt
  obtain ⟨q, hq⟩ : ∃ q, regP tx = q := ⟨_, rfl⟩
  have n97 : ((c : Int) == 97) = false := beq_eq_false_iff_ne.2 (by omega)
  have n98 : ((c : Int) == 98) = false := beq_eq_false_iff_ne.2 (by omega)
  have n99 : ((c : Int) == 99) = false := beq_eq_false_iff_ne.2 (by omega)
  have n105 : ((c : Int) == 105) = false := beq_eq_false_iff_ne.2 (by omega)
  have n108 : ((c : Int) == 108) = false := beq_eq_false_iff_ne.2 (by omega)
  have HC := Lib.hid hc
  obtain ⟨W, hW⟩ : ∃ W, wordP c = W := ⟨_, rfl⟩
  have HWn := Lib.hid hw
  rw [hW] at hw
  have HW := Lib.hid hW
  have hwe : (W.toList == []) = false := by
    rw [beq_eq_false_iff_ne]
    intro e
    rw [ByteArray.toList_eq] at e
    exact hw (ByteArray.ext (Array.toList_inj.1 e))
  have hwt := bytes_eq tx W
  clear hc hw hW
  by_cases hk0 : kd = 0
  all_goals
    first
      | have e0 : (kd == 0) = false := beq_eq_false_iff_ne.2 hk0
      | have e0 : (kd == 0) = true := beq_iff_eq.2 hk0
    have HK := Lib.hid hk0
    clear hk0
    go_enter Tryd.func76, Tryd.ntmps76
    simp only [Tok.val]
    go_upto_region 1 with fail
    obtain ⟨W0, hW0⟩ : ∃ W0, w.alloc (.cells #[.int .i64 kd, .string tx, .int .u64 nu, .int .i64 ta, .int .i64 tl] 58) = W0 := ⟨_, rfl⟩
    rw [hW0]
    have hgr : w.grownBy W0 (some g) := by rw [← hW0]; exact grown_more (World.grownBy_alloc _ _ _) _
    have hO : BkO W0 g ⟨⟨oo, oa, ob, oc, om⟩, on, oat⟩ := by rw [← hW0]; exact Bk.alloc hg _
    have hT : Bk W0 w.heap.size 58 #[.int .i64 kd, .string tx, .int .u64 nu, .int .i64 ta, .int .i64 tl] := by rw [← hW0]; exact Bk.new _ _ _
    have t0 : W0.cell? ⟨w.heap.size, 0, none⟩ = some (.int .i64 kd) := hT.cell 0
    have t1 : W0.cell? ⟨w.heap.size, 1, none⟩ = some (.string tx) := hT.cell 1
    have t2 : W0.cell? ⟨w.heap.size, 2, none⟩ = some (.int .u64 nu) := hT.cell 2
    have f1 := hO.frozen 1
    have f2 := hO.frozen 2
    have f3 := hO.frozen 3
    have f4 := hO.frozen 4
    have f5 := hO.frozen 5
    have HO := Lib.hid hO
    have HG := Lib.hid hgr
    have HQ := Lib.hid hq
    clear hW0 hgr hO hT hq hg
    by_cases hx : tx = W
    all_goals
      first
        | rw [decide_eq_true hx] at hwt
        | rw [decide_eq_false hx] at hwt
      have HX := Lib.hid hx
      clear hx
      try go_wp2_with (first | (go_at_call 75; refine (register_any _ _).mono ?_; rintro e w' ⟨rfl, rfl⟩; rw [HQ.out]) | (go_at_call 49; refine (word_any _ _).mono ?_; rintro e w' ⟨rfl, rfl⟩; rw [HW.out]))
      all_goals
        go_ret
        first
          | exact .mk (takeP_w HC.out HWn.out) (by rw [decide_eq_false HK.out]; rfl) HO.out HG.out
          | exact .mk (takeP_w HC.out HWn.out) (by rw [HW.out, decide_eq_true HX.out, decide_eq_true HK.out]; rfl) HO.out HG.out
          | exact .mk (takeP_w HC.out HWn.out) (by rw [HW.out, decide_eq_false HX.out, decide_eq_true HK.out]; rfl) HO.out HG.out

set_option maxHeartbeats 4000000 in
theorem take_s (g : Nat) (o : Ord) (c : Nat) (t : Tok) (w : World) (hg : BkO w g o) (hc : c ≠ 97 ∧ c ≠ 98 ∧ c ≠ 99 ∧ c ≠ 105 ∧ c ≠ 108) (hw : wordP c = ⟨#[]⟩) :
    Calls Tryd.prog 76 #[.pointer (some ⟨g, 0, none⟩), .int .i32 c, t.val] w (TakePost g c t o w) := by
  obtain ⟨kd, tx, nu, ta, tl⟩ := t
  obtain ⟨⟨oo, oa, ob, oc, om⟩, on, oat⟩ := o
  have hlt := hg.lt
  obtain ⟨q, hq⟩ : ∃ q, regP tx = q := ⟨_, rfl⟩
  have n97 : ((c : Int) == 97) = false := beq_eq_false_iff_ne.2 (by omega)
  have n98 : ((c : Int) == 98) = false := beq_eq_false_iff_ne.2 (by omega)
  have n99 : ((c : Int) == 99) = false := beq_eq_false_iff_ne.2 (by omega)
  have n105 : ((c : Int) == 105) = false := beq_eq_false_iff_ne.2 (by omega)
  have n108 : ((c : Int) == 108) = false := beq_eq_false_iff_ne.2 (by omega)
  have HC := Lib.hid hc
  have HW := Lib.hid hw
  have hcv : ∀ Wd, (convert 21 9 (.int .i32 (c : Int))).run Tryd.prog Wd = .ok (.string (Utf8.encode (c : Int))) Wd := fun Wd => run_convert_int_string Wd _ _ _ _ (by kernel_rfl) Tryd.underlying9
  obtain ⟨E, hE⟩ : ∃ E, Utf8.encode (c : Int) = E := ⟨_, rfl⟩
  rw [hE] at hcv
  have HE := Lib.hid hE
  have hwt := bytes_eq tx E
  clear hc hw hE
  by_cases hk0 : kd = 0
  all_goals
    first
      | have e0 : (kd == 0) = false := beq_eq_false_iff_ne.2 hk0
      | have e0 : (kd == 0) = true := beq_iff_eq.2 hk0
    have HK := Lib.hid hk0
    clear hk0
    go_enter Tryd.func76, Tryd.ntmps76
    simp only [Tok.val]
    go_upto_region 1 with fail
    obtain ⟨W0, hW0⟩ : ∃ W0, w.alloc (.cells #[.int .i64 kd, .string tx, .int .u64 nu, .int .i64 ta, .int .i64 tl] 58) = W0 := ⟨_, rfl⟩
    rw [hW0]
    have hgr : w.grownBy W0 (some g) := by rw [← hW0]; exact grown_more (World.grownBy_alloc _ _ _) _
    have hO : BkO W0 g ⟨⟨oo, oa, ob, oc, om⟩, on, oat⟩ := by rw [← hW0]; exact Bk.alloc hg _
    have hT : Bk W0 w.heap.size 58 #[.int .i64 kd, .string tx, .int .u64 nu, .int .i64 ta, .int .i64 tl] := by rw [← hW0]; exact Bk.new _ _ _
    have t0 : W0.cell? ⟨w.heap.size, 0, none⟩ = some (.int .i64 kd) := hT.cell 0
    have t1 : W0.cell? ⟨w.heap.size, 1, none⟩ = some (.string tx) := hT.cell 1
    have t2 : W0.cell? ⟨w.heap.size, 2, none⟩ = some (.int .u64 nu) := hT.cell 2
    have f1 := hO.frozen 1
    have f2 := hO.frozen 2
    have f3 := hO.frozen 3
    have f4 := hO.frozen 4
    have f5 := hO.frozen 5
    have HO := Lib.hid hO
    have HG := Lib.hid hgr
    have HQ := Lib.hid hq
    clear hW0 hgr hO hT hq hg
    by_cases hx : tx = E
    all_goals
      first
        | rw [decide_eq_true hx] at hwt
        | rw [decide_eq_false hx] at hwt
      have HX := Lib.hid hx
      clear hx
      by_cases hk2 : kd = 2
      all_goals
        first
          | have e2 : (kd == 2) = false := beq_eq_false_iff_ne.2 hk2
          | have e2 : (kd == 2) = true := beq_iff_eq.2 hk2
        have HK2 := Lib.hid hk2
        clear hk2
        try go_wp2_with (first | (go_at_call 75; refine (register_any _ _).mono ?_; rintro e w' ⟨rfl, rfl⟩; rw [HQ.out]) | (go_at_call 49; refine (word_any _ _).mono ?_; rintro e w' ⟨rfl, rfl⟩; rw [HW.out]))
        all_goals
          go_ret
          first
            | exact .mk (takeP_s HC.out HW.out) (by rw [decide_eq_false HK2.out]; rfl) HO.out HG.out
            | exact .mk (takeP_s HC.out HW.out) (by rw [HE.out, decide_eq_true HX.out, decide_eq_true HK2.out]; rfl) HO.out HG.out
            | exact .mk (takeP_s HC.out HW.out) (by rw [HE.out, decide_eq_false HX.out, decide_eq_true HK2.out]; rfl) HO.out HG.out

theorem take_any (g : Nat) (o : Ord) (c : Nat) (t : Tok) (w : World) (hg : BkO w g o) :
    Calls Tryd.prog 76 #[.pointer (some ⟨g, 0, none⟩), .int .i32 c, t.val] w (TakePost g c t o w) := by
  by_cases h : c = 97 ∨ c = 98 ∨ c = 99 ∨ c = 105 ∨ c = 108
  · rcases h with rfl | rfl | rfl | rfl | rfl
    · exact take_a g o t w hg
    · exact take_b g o t w hg
    · exact take_c g o t w hg
    · exact take_i g o t w hg
    · exact take_l g o t w hg
  · have hc : c ≠ 97 ∧ c ≠ 98 ∧ c ≠ 99 ∧ c ≠ 105 ∧ c ≠ 108 := by omega
    by_cases hw : wordP c = ⟨#[]⟩
    · exact take_s g o c t w hg hc hw
    · exact take_w g o c t w hg hc hw
end Go.Proofs.YthdlihiehfkceaaDoor

namespace Go.Proofs.YthdlihiehfkceaaDoor
open Go.RowKit
set_option linter.unusedVariables false

theorem Rdr.below {w w' : World} {g : Nat} {s : ByteArray} {st : LSt} (h : Rdr w g s st) (hb : Below w.heap.size w w') : Rdr w' g s st := by
  obtain ⟨v, hk, ho⟩ := h
  exact ⟨v, hk.below hb hk.lt, own_below ho hb⟩
theorem Rdr.lt {w : World} {g : Nat} {s : ByteArray} {st : LSt} (h : Rdr w g s st) : g < w.heap.size := by
  obtain ⟨v, hk, _⟩ := h
  exact hk.lt
theorem Rdr.drew {w : World} {g : Nat} {s : ByteArray} {st : LSt} (h : Rdr w g s st) : Rdr w.drew g s st := by
  obtain ⟨v, hk, ho⟩ := h
  exact ⟨v, hk.drew, ho.drew⟩
theorem Frm.of_below {g : Nat} {w w' : World} (hg : g ≤ w.heap.size) (hb : Below w.heap.size w w') : Frm g w w' :=
  ⟨hb.mono hg, fun k o hk _ _ => (hb.block k (Array.getElem?_eq_some_iff.1 hk).1).trans hk⟩
theorem Frm.setCell {g : Nat} {a w : World} (h : Frm g a w) (j : Nat) (v : Value) : Frm g a (w.setCell ⟨g, j, none⟩ v) :=
  ⟨h.below.setCell (p := ⟨g, j, none⟩) (Nat.le_refl _) v, h.kept.setCell ⟨g, j, none⟩ rfl v⟩
/-- The reader's cells. -/
theorem Rdr.cells {w : World} {g : Nat} {s : ByteArray} {st : LSt} (h : Rdr w g s st) : ∃ A c, st.list.length ≤ c ∧ w.cell? ⟨g, 0, none⟩ = some (.string s) ∧ w.cell? ⟨g, 1, none⟩ = some (.slice A st.list.length c) ∧ w.cell? ⟨g, 2, none⟩ = some (.int .i64 (st.line : Int)) ∧ w.cell? ⟨g, 3, none⟩ = some (.int .i64 st.fromI) ∧ w.cell? ⟨g, 4, none⟩ = some (.bool st.remark) ∧ (∀ i, w.frozen? ⟨g, i, none⟩ = false) ∧ RdT w w.heap.size A st.list.length st.list ∧ w.ownsRow (g + 1) 58 5 (.slice A st.list.length c) st.list.length (tokCells st.list) := by
  obtain ⟨v, hk, ho⟩ := h
  obtain ⟨A, c, rfl, hc, r⟩ := Rd.of_own_cap ho
  refine ⟨A, c, hc, ?_, ?_, ?_, ?_, ?_, fun i => hk.frozen i, r, ho⟩
  · rw [hk.cell]; rfl
  · rw [hk.cell]; rfl
  · rw [hk.cell]; rfl
  · rw [hk.cell]; rfl
  · rw [hk.cell]; rfl
theorem Rdr.from {w : World} {g : Nat} {s : ByteArray} {st : LSt} (h : Rdr w g s st) (x : Option Nat) : Rdr (w.setCell ⟨g, 3, none⟩ (.int .i64 ({ st with from_ := x } : LSt).fromI)) g s { st with from_ := x } := by
  obtain ⟨v, hk, ho⟩ := h
  refine ⟨v, ?_, ownsRow_setCell_below ho (a := ⟨g, 3, none⟩) (by simp) _⟩
  have := hk.set_ 3 (.int .i64 ({ st with from_ := x } : LSt).fromI)
  simp at this
  exact this
theorem Rdr.remark {w : World} {g : Nat} {s : ByteArray} {st : LSt} (h : Rdr w g s st) (x : Bool) : Rdr (w.setCell ⟨g, 4, none⟩ (.bool x)) g s { st with remark := x } := by
  obtain ⟨v, hk, ho⟩ := h
  refine ⟨v, ?_, ownsRow_setCell_below ho (a := ⟨g, 4, none⟩) (by simp) _⟩
  have := hk.set_ 4 (.bool x)
  simp at this
  exact this
theorem Rdr.line {w : World} {g : Nat} {s : ByteArray} {st : LSt} (h : Rdr w g s st) (x : Nat) : Rdr (w.setCell ⟨g, 2, none⟩ (.int .i64 (x : Int))) g s { st with line := x } := by
  obtain ⟨v, hk, ho⟩ := h
  refine ⟨v, ?_, ownsRow_setCell_below ho (a := ⟨g, 2, none⟩) (by simp) _⟩
  have := hk.set_ 2 (.int .i64 (x : Int))
  simp at this
  exact this

theorem str_cut {P : Program} {t : TypeId} (ht : P.underlying t = some .string) {s W : ByteArray} {a z : Nat} (h1 : a ≤ z) (h2 : z ≤ s.size) (hW : s.extract a z = W) (w : World) :
    (Instr.slice t (.string s) (some (.int .i64 a)) (some (.int .i64 z)) none).run P w = .ok (.string W) w := by
  rw [run_slice_string w t s .i64 .i64 a z ht (by omega) (by omega) (by omega), Int.toNat_natCast, Int.toNat_natCast, hW]

def ShutPost (g : Nat) (s : ByteArray) (tz : Nat) (st : LSt) (w : World) (e : Ending) (w' : World) : Prop :=
  e = .returned (.tuple #[.int .i64 (shutP s tz st).1, .int .i64 (shutP s tz st).2.1]) ∧ Rdr w' g s (shutP s tz st).2.2 ∧ Frm g w w'
theorem ShutPost.mk {g : Nat} {s : ByteArray} {tz : Nat} {st st' : LSt} {w w' : World} {p e : Int} (h : shutP s tz st = (p, e, st')) (hr : Rdr w' g s st') (hf : Frm g w w') :
    ShutPost g s tz st w (.returned (.tuple #[.int .i64 p, .int .i64 e])) w' := by
  refine ⟨by rw [h], by rw [h]; exact hr, hf⟩
theorem shutP_some {s : ByteArray} {tz a : Nat} {st : LSt} {W : ByteArray} (h : st.from_ = some a) (hW : s.extract a tz = W) : shutP s tz st =
    (if headIs W then match numP W.data.toList with
      | none => ((a : Int), 22, { st with from_ := none })
      | some n => ((a : Int), putP { st with from_ := none } { kind := 1, text := ⟨#[]⟩, num := n, at_ := a, line := 0 })
    else if 24 < W.size then ((a : Int), 21, { st with from_ := none }) else ((a : Int), putP { st with from_ := none } { kind := 0, text := W, num := 0, at_ := a, line := 0 })) := by
  subst hW
  rw [shutP, h]
  rfl
theorem headIs_at {W : ByteArray} (h : 0 < W.size) : headIs W = isDigit (W[0]'h).toNat := by
  have e : W.data.toList = (W[0]'h) :: W.data.toList.drop 1 := by
    have := drop_cons W 0 h
    simpa using this
  rw [headIs, e]

set_option maxRecDepth 100000 in
set_option maxHeartbeats 4000000 in
theorem shut_any (g : Nat) (s : ByteArray) (tz : Nat) (st : LSt) (w : World) (hR : Rdr w g s st) (hl : st.list.length ≤ 16384) (hs : s.size ≤ 65536) (hto : tz ≤ s.size) (hfrom : ∀ a, st.from_ = some a → a < tz) :
    Calls Tryd.prog 54 #[.pointer (some ⟨g, 0, none⟩), .int .i64 (tz : Int)] w (ShutPost g s tz st w) := by
  have hg := hR.lt
  obtain ⟨A, c, hc, k0, k1, k2, k3, k4, kf, _, _⟩ := hR.cells
  have f3 := kf 3
  clear kf hc
  cases hf : st.from_ with
  | none =>
    have e3 : st.fromI = -1 := by rw [LSt.fromI, hf]
    rw [e3] at k3
    have HE : Hid (shutP s tz st = (0, 0, st)) := by show _ = _; rw [shutP, hf]
    have HR := Lib.hid hR
    clear hf hR hfrom e3
    go_enter Tryd.func54, Tryd.ntmps54
    go_wp2
    go_ret2
    exact .mk HE.out HR.out (Frm.refl _ _)
  | some a =>
    have hat := hfrom a hf
    have e3 : st.fromI = (a : Int) := by rw [LSt.fromI, hf]
    rw [e3] at k3
    obtain ⟨W, hW⟩ : ∃ W, s.extract a tz = W := ⟨_, rfl⟩
    have hWs : W.size = tz - a := by rw [← hW, ByteArray.size_extract]; omega
    have HE := Lib.hid (shutP_some hf hW)
    have HR1 : Hid (Rdr (w.setCell ⟨g, 3, none⟩ (.int .i64 (-1))) g s { st with from_ := none }) := hR.from none
    have HF1 : Hid (Frm g w (w.setCell ⟨g, 3, none⟩ (.int .i64 (-1)))) := (Frm.refl g w).setCell 3 _
    have HL1 : Hid (({ st with from_ := none } : LSt).list.length ≤ 16384) := hl
    have hszz : (w.setCell ⟨g, 3, none⟩ (.int .i64 (-1))).heap.size = w.heap.size := by simp
    obtain ⟨st1, hst1⟩ : ∃ st1, ({ st with from_ := none } : LSt) = st1 := ⟨_, rfl⟩
    rw [hst1] at HE HR1 HL1
    have HW := Lib.hid hW
    have hW63 : W.size ≤ maxLen := by unfold maxLen; omega
    clear hf hR hfrom e3 hl hst1
    go_enter Tryd.func54, Tryd.ntmps54
    go_upto_region 5 with fail
    obtain ⟨w1, hw1⟩ : ∃ w1, w.setCell ⟨g, 3, none⟩ (.int .i64 (-1)) = w1 := ⟨_, rfl⟩
    rw [hw1] at HR1 HF1 hszz
    obtain ⟨A, c, hc, k0, k1, k2, k3, k4, kf, _, _⟩ := HR1.out.cells
    rw [hw1]
    clear hw1 hc kf
    have hW0 : 0 < W.size := by omega
    have HH := Lib.hid (headIs_at hW0)
    have hsl := str_cut (P := Tryd.prog) Tryd.underlying9 (by omega) hto HW.out
    obtain ⟨c0, hc0⟩ : ∃ c0, (W[0]'hW0).toNat = c0 := ⟨_, rfl⟩
    have hcr : c0 ≤ 255 := by have := (W[0]'hW0).toNat_lt; omega
    have hrun : ∀ Wd, (Instr.index 9 (.string W) (.int .i64 0)).run Tryd.prog Wd = .ok (.int .u8 (c0 : Int)) Wd := fun Wd => by
      rw [← hc0, run_index_string Wd _ _ _ _ Tryd.underlying9, dif_pos ⟨by omega, by omega⟩]; rfl
    rw [hc0] at HH
    clear hc0 hW
    have HFA : Hid (∀ o : Obj, Frm g w1 (w1.alloc o)) := fun o => Frm.of_below (by omega) ((Below.refl _ _).alloc (Nat.le_refl _) o)
    have HRA : Hid (∀ o : Obj, Rdr (w1.alloc o) g s st1) := fun o => HR1.out.below ((Below.refl _ _).alloc (Nat.le_refl _) o)
    cases hd : isDigit c0
    · have HD := Lib.hid hd
      rw [hd] at HH
      clear hd
      go_wp2_with fail
      refine (digit_is _ HD.out).mono ?_
      rintro e w' ⟨rfl, rfl⟩
      by_cases h24 : 24 < W.size
      · have HE2 : Hid (shutP s tz st = ((a : Int), 21, st1)) := by
          show _ = _
          rw [HE.out, HH.out, if_neg (by simp), if_pos h24]
        go_wp2
        go_ret2
        exact .mk HE2.out (HRA.out _) (HF1.out.trans (HFA.out _))
      · have HE2 : Hid (shutP s tz st = ((a : Int), putP st1 { kind := 0, text := W, num := 0, at_ := a, line := 0 })) := by
          show _ = _
          rw [HE.out, HH.out, if_neg (by simp), if_neg h24]
        go_wp2_with fail
        refine (put_any g s st1 { kind := 0, text := W, num := 0, at_ := a, line := 0 } _ (HRA.out _) HL1.out).mono ?_
        rintro e w2 ⟨rfl, hr2, hf2⟩
        have HR2 := Lib.hid hr2
        have HF2 := Lib.hid hf2
        clear hr2 hf2
        go_wp2
        go_ret2
        exact .mk HE2.out HR2.out (HF1.out.trans ((HFA.out _).trans HF2.out))
    · have HD := Lib.hid hd
      rw [hd] at HH
      clear hd
      go_wp2_with fail
      refine (digit_is _ HD.out).mono ?_
      rintro e w' ⟨rfl, rfl⟩
      go_wp2_with fail
      refine (number_any W hW63 _).mono ?_
      rintro e w2 ⟨rfl, hb2⟩
      have HF2 : Hid (Frm g w1 w2) := (HFA.out _).trans (Frm.of_below (by simp; omega) hb2)
      have HR2 : Hid (Rdr w2 g s st1) := (HRA.out _).below hb2
      have B2 : Hid (Bk w2 w.heap.size 58 #[.int .i64 0, .string W, .int .u64 0, .int .i64 (a : Int), .int .i64 0]) := by
        rw [← hszz]; exact (Bk.new w1 _ _).below hb2 (by simp)
      have hz2 := B2.out.lt
      cases hn : numP W.data.toList with
      | none =>
        have HE2 : Hid (shutP s tz st = ((a : Int), 22, st1)) := by
          show _ = _
          rw [HE.out, HH.out, if_pos rfl, hn]
        clear hb2 hn
        go_wp2
        go_ret2
        exact .mk HE2.out HR2.out (HF1.out.trans HF2.out)
      | some n =>
        have HE2 : Hid (shutP s tz st = ((a : Int), putP st1 { kind := 1, text := ⟨#[]⟩, num := n, at_ := a, line := 0 })) := by
          show _ = _
          rw [HE.out, HH.out, if_pos rfl, hn]
        have b0 := B2.out.cell 0
        have b1 := B2.out.cell 1
        have b2 := B2.out.cell 2
        have b3 := B2.out.cell 3
        have b4 := B2.out.cell 4
        have f0 := B2.out.frozen 0
        have f1 := B2.out.frozen 1
        have f2 := B2.out.frozen 2
        have f3 := B2.out.frozen 3
        have f4 := B2.out.frozen 4
        simp at b0 b1 b2 b3 b4
        have hbw : Below w1.heap.size w1 w2 := ((Below.refl _ _).alloc (Nat.le_refl _) _).trans (hb2.mono (by simp))
        have hst : ∀ (x : World) (j : Nat) (v : Value), Below w1.heap.size w1 x → Below w1.heap.size w1 (x.setCell ⟨w.heap.size, j, none⟩ v) := fun x j v hx => hx.setCell (p := ⟨w.heap.size, j, none⟩) (by rw [hszz]; exact Nat.le_refl _) v
        have HB5 := Lib.hid (hst _ 4 (.int .i64 0) (hst _ 3 (.int .i64 (a : Int)) (hst _ 2 (.int .u64 (n : Int)) (hst _ 1 (.string ⟨#[]⟩) (hst _ 0 (.int .i64 1) hbw)))))
        have HR5 := Lib.hid (HR1.out.below HB5.out)
        have HF5 := Lib.hid (Frm.of_below (g := g) (by omega) HB5.out)
        clear hb2 hn hbw hst
        go_wp2_with fail
        refine (put_any g s st1 { kind := 1, text := ⟨#[]⟩, num := n, at_ := a, line := 0 } _ HR5.out HL1.out).mono ?_
        rintro e w6 ⟨rfl, hr6, hf6⟩
        have HR6 := Lib.hid hr6
        have HF6 := Lib.hid hf6
        clear hr6 hf6
        go_wp2
        go_ret2
        exact .mk HE2.out HR6.out (HF1.out.trans (HF5.out.trans HF6.out))
end Go.Proofs.YthdlihiehfkceaaDoor
