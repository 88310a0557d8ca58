/-
  Chapter 19: contract of tumblerref19.Clear. Chapter 19: contracts of tumblerref04.Goes, tumblerref19.One. Printed by gen/ljd.py.
-/
import Derived.Test.YtddaeaimimdonaaLjM
import Derived.Test.YtddaeaimimdonaaLkDP
import Derived.Test.YtddaeaimimdonaaLkB
import Derived.Test.YtddaeaimimdonaaLkEP
import Derived.Deep.RegionLaw
namespace Go.Proofs.Ytddaeaimimdonaa
open Go.RowKit
set_option linter.unusedVariables false

def clearN (code : List Ins) (q : Nat) : List Ins := ((List.range q).filter fun r => code.any fun i => usesOf i r).map setI
theorem clearN_snoc (code : List Ins) (q : Nat) : clearN code (q + 1) = clearN code q ++ (if (code.any fun i => usesOf i q) = true then [setI q] else []) := by
  unfold clearN
  rw [List.range_succ, List.filter_append, List.map_append]
  by_cases h : (code.any fun i => usesOf i q) = true
  · rw [if_pos h]; simp only [List.filter_cons, h, if_true, List.filter_nil, List.map_cons, List.map_nil]
  · have h : (code.any fun i => usesOf i q) = false := by simpa using h
    rw [if_neg (by rw [h]; decide)]; simp only [List.filter_cons, h, List.filter_nil]; rfl
theorem clearN_len (code : List Ins) (q : Nat) : (clearN code q).length ≤ q := by
  unfold clearN
  rw [List.length_map]
  exact Nat.le_trans (List.length_filter_le _ _) (by simp)
theorem any_take_snoc {l : List Ins} {k : Nat} {i : Ins} (hi : l[k]? = some i) (r : Nat) : ((l.take (k + 1)).any fun i => usesOf i r) = (((l.take k).any fun i => usesOf i r) || usesOf i r) := by
  rw [List.take_add_one, hi, List.any_append]; simp
def ROut (w : World) (V : Value) (base : Nat) (L : List Ins) : Prop := w.ownsRow base 43 5 V L.length (insCells L)
set_option maxRecDepth 100000 in
set_option maxHeartbeats 8000000 in
theorem rclear_any (code : List Ins) (A : Option Addr) (n c : Nat) (d0 d1 d2 d3 v0 v1 v2 v3 : Int) (w : World) (hr : RdI w w.heap.size A n code) :
    Calls Try.prog 47 #[.agg #[.slice A n c, .int .i64 d0, .int .u64 v0, .int .i64 d1, .int .u64 v1, .int .i64 d2, .int .u64 v2, .int .i64 d3, .int .u64 v3]] w
      fun e w' => ∃ v, e = .returned v ∧ ROut w' v w.heap.size (clearL code) ∧ Below w.heap.size w w' := by
  obtain ⟨i0, hi0, hz0, hz1, hz2⟩ := info_parts info_insL
  have HR := Lib.hid hr
  have HLen := Lib.hid hr.insLen
  have h63 := hr.le
  unfold maxLen at h63
  clear hr
  go_enter Try.func47, Try.ntmps47
  go_upto_region 2 with fail
  obtain ⟨W1, hW1⟩ : ∃ W1, w.alloc (.cells #[.slice A n c, .int .i64 d0, .int .u64 v0, .int .i64 d1, .int .u64 v1, .int .i64 d2, .int .u64 v2, .int .i64 d3, .int .u64 v3] 112) = W1 := ⟨_, rfl⟩
  rw [hW1]
  have z1 : W1.heap.size = w.heap.size + 1 := by rw [← hW1]; simp
  obtain ⟨W2, hW2⟩ : ∃ W2, W1.alloc (.cells #[] 43) = W2 := ⟨_, rfl⟩
  rw [hW2]
  have HX : Hid (Bk W2 w.heap.size 112 #[.slice A n c, .int .i64 d0, .int .u64 v0, .int .i64 d1, .int .u64 v1, .int .i64 d2, .int .u64 v2, .int .i64 d3, .int .u64 v3]) := by show Bk _ _ _ _; rw [← hW2, ← hW1]; exact (Bk.new _ _ _).alloc _
  have HB : Hid (Below w.heap.size w W2) := by show Below _ _ _; rw [← hW2, ← hW1]; exact ((Below.refl _ _).alloc (Nat.le_refl _) _).alloc (by simp) _
  have HO : Hid (ROut W2 (.slice (some ⟨w.heap.size + 1, 0, none⟩) 0 0) w.heap.size (clearN code 0)) := by
    show W2.ownsRow w.heap.size 43 5 _ 0 []
    rw [← hW2, ← z1]; exact own_new W1 #[] _ (size := 5) (m := 0) rfl (by simp [maxLen]) (by omega)
  clear hW1 hW2 z1
  go_wp2
  go_loopw [3, 4, 5, 6] (fun s3 r _a _b wr => ∃ (q : Nat) (ov : Value), (q ≤ 16 ∧ r = .int .i64 q) ∧ ov = s3 ∧ Hid (ROut wr ov w.heap.size (clearN code q)) ∧ Hid (Below w.heap.size w wr) ∧ Hid (Bk wr w.heap.size 112 #[.slice A n c, .int .i64 d0, .int .u64 v0, .int .i64 d1, .int .u64 v1, .int .i64 d2, .int .u64 v2, .int .i64 d3, .int .u64 v3])) (fun _ r _ _ _ => 16 - (intOf r).toNat)
  case atStart => exact ⟨0, _, ⟨by omega, rfl⟩, rfl, HO, HB, HX⟩
  case round =>
    clear HO HB HX
    obtain ⟨q, ov, ⟨hq, rfl⟩, rfl, HOq, HBq, HXq⟩ := hrel
    by_cases hlt : q < 16
    · have hlti : (q : Int) < 16 := by omega
      obtain ⟨V, hV⟩ : ∃ V, wr = V := ⟨_, rfl⟩
      rw [hV] at HOq HBq HXq ⊢
      clear hV
      go_wp2
      go_loopw [5, 6] (fun u i wi => ∃ k : Nat, (k ≤ n ∧ i = .int .i64 k) ∧ u = .bool ((code.take k).any fun i => usesOf i q) ∧ Hid (Below V.heap.size V wi)) (fun _ i _ => n - (intOf i).toNat)
      case atStart => exact ⟨0, ⟨by omega, rfl⟩, by simp, Below.refl _ _⟩
      case round =>
        obtain ⟨k, ⟨hk, rfl⟩, rfl, HBi⟩ := hrel
        have HXi := Lib.hid (HXq.out.below HBi.out HXq.out.lt)
        have HB2 := Lib.hid (HBq.out.trans (HBi.out.mono HBq.out.size))
        have x0 : wr.cell? ⟨w.heap.size, 0, none⟩ = some (.slice A n c) := (HXi.out.cell 0).trans rfl
        by_cases hlk : k < n
        · have hlki : (k : Int) < (n : Int) := by omega
          obtain ⟨b, o, i, rfl, hbB, hi, c0, c1, c2, c3, c4⟩ := (HR.out.below HB2.out).insAt hlk
          have HSn := Lib.hid (any_take_snoc hi q)
          obtain ⟨op, ia, ib, ic, imm⟩ := i
          simp only at c0 c1 c2 c3 c4
          clear hi
          cases hu : ((code.take k).any fun i => usesOf i q)
          · rw [hu] at HSn
            clear hu
            go_wp2_with fail
            refine (ruses_any op ia ib ic imm q _).mono ?_
            rintro e W4 ⟨rfl, hb4⟩
            have HB4 := Lib.hid (HBi.out.trans (hb4.mono HBi.out.size))
            clear hb4
            go_wp2
            go_roundw
            case rel => exact ⟨k + 1, ⟨by omega, by go_num⟩, by rw [HSn.out, Bool.false_or], HB4⟩
            case measure => simp [intOf]; omega
          · rw [hu] at HSn
            clear hu
            go_wp2
            go_roundw
            case rel => exact ⟨k + 1, ⟨by omega, by go_num⟩, by rw [HSn.out, Bool.true_or], HBi⟩
            case measure => simp [intOf]; omega
        · obtain rfl : n = k := by omega
          have HAll : Hid (code.take n = code) := List.take_of_length_le (by rw [HLen.out]; exact Nat.le_refl _)
          rw [HAll.out]
          have HO2 := Lib.hid (show ROut wr ov w.heap.size (clearN code q) from own_below HOq.out HBi.out)
          have HLn : Hid ((clearN code q).length ≤ 16) := by show _ ≤ _; have := clearN_len code q; omega
          cases hu : (code.any fun i => usesOf i q)
          · have HE : Hid (clearN code (q + 1) = clearN code q) := by show _ = _; rw [clearN_snoc, if_neg (by rw [hu]; decide)]; simp
            clear hu
            go_wp2
            go_roundw
            case rel => exact ⟨q + 1, _, ⟨by omega, by go_num⟩, rfl, (by show ROut _ _ _ _; rw [HE.out]; exact HO2.out), HB2, HXi⟩
            case measure => simp [intOf]; omega
          · obtain ⟨OL, hOL⟩ : ∃ OL, clearN code q = OL := ⟨_, rfl⟩
            have HE : Hid (clearN code (q + 1) = OL ++ [⟨0, (q : Int), 0, 0, 0⟩]) := by show _ = _; rw [← hOL, clearN_snoc, if_pos hu]; rfl
            rw [hOL] at HO2 HLn
            clear hOL hu
            have HOa := Lib.hid (HO2.out.alloc (.cells #[.int .i64 0, .int .i64 (q : Int), .int .i64 0, .int .i64 0, .int .u64 0] 43))
            have HBa := Lib.hid (HB2.out.alloc HB2.out.size (.cells #[.int .i64 0, .int .i64 (q : Int), .int .i64 0, .int .i64 0, .int .u64 0] 43))
            have HXa := Lib.hid (HXi.out.alloc (.cells #[.int .i64 0, .int .i64 (q : Int), .int .i64 0, .int .i64 0, .int .u64 0] 43))
            have hz3 : w.heap.size ≤ (wr.alloc (.cells #[.int .i64 0, .int .i64 (q : Int), .int .i64 0, .int .i64 0, .int .u64 0] 43)).heap.size := HBa.out.size
            have Ra : Hid (RdI (wr.alloc (.cells #[.int .i64 0, .int .i64 (q : Int), .int .i64 0, .int .i64 0, .int .u64 0] 43)) (wr.heap.size + 1) (some ⟨wr.heap.size, 0, none⟩) 1 [⟨0, (q : Int), 0, 0, 0⟩]) := Rd.new wr _ _ (size := 5) (m := 1) rfl (by simp [maxLen])
            have tok1 : True := trivial
            go_wp2_with (first
              | (at_builtin
                 have _t := tok1
                 go_must (
                   refine wpList_app _ rfl (.tmp 30) (.tmp 33) 23 rfl w.heap.size 43 i0 _ 5 40 Try.underlying23 hi0 hz0 hz1 hz2 rfl (by omega) _ _ _ rfl HOa.out _ _ 1 _ _ rfl Ra.out (insCells_one _) ?_ ?_ ?_ ?_
                   · have := HLn.out; simp only [maxLen]; omega
                   · have := HLn.out; omega
                   · exact hz3
                   intro v5 w5 hown5 hg5 _
                   have HO5 := Lib.hid hown5
                   have HX5 := Lib.hid (HXa.out.grown hg5 (HXa.out.ne_own HOa.out (by decide)))
                   have HB5 := Lib.hid (below_own HBa.out HOa.out hg5 (Nat.le_refl _) HBa.out.size)
                   clear hown5 hg5 _t tok1))
              | fail)
            go_roundw
            case rel => exact ⟨q + 1, _, ⟨by omega, by go_num⟩, rfl, (by show ROut _ _ _ _; rw [HE.out]; unfold ROut; rw [insCells_append, List.length_append]; exact HO5.out), HB5, HX5⟩
            case measure => simp [intOf]; omega
    · obtain rfl : q = 16 := by omega
      go_wp2
      go_ret
      exact ⟨_, rfl, HOq.out, HBq.out⟩
end Go.Proofs.Ytddaeaimimdonaa
namespace Go.Proofs.Ytddaeaimimdonaa
open Go.RowKit
set_option linter.unusedVariables false

set_option maxRecDepth 100000 in
theorem rgoes_any (op : Int) (w : World) :
    Calls Try.prog 66 #[.int .i64 op] w fun e w' => e = .returned (.bool (decide (17 ≤ op ∧ op ≤ 19))) ∧ w = w' := by
  go_enter Try.func66, Try.ntmps66
  go_wp2
  all_goals
    go_ret
    refine ⟨ret_bool ?_, rfl⟩
    rw [Bool.eq_iff_iff]
    simp_all
    try omega
/-- What an instruction of a right part is like. -/
structure OneR (i : Ins) (n : Nat) (args : List PArg) : Prop where
  ok : OneOk i n args
  flat : i.op = 17 ∨ i.op = 18 ∨ i.op = 19 → i.b = 0 ∧ i.c = 0
def ROne (w : World) (L : List Ins) (e : Ending) (w' : World) : Prop := ∃ v, e = .returned v ∧ ROut w' v w.heap.size L ∧ Below w.heap.size w w'
theorem ROne.mk {w W : World} {L : List Ins} {i : Ins} (hL : L = [i]) (hb : Below w.heap.size w W) (g : Nat) (hg : g = W.heap.size) : ROne w L (.returned (.slice (some ⟨g, 0, none⟩) 1 1)) (W.alloc (.cells i.cells.toArray 43)) := by
  subst hg hL
  exact ⟨_, rfl, own_new W _ _ (size := 5) (m := 1) rfl (by simp [maxLen]) hb.size, hb.alloc hb.size _⟩
theorem ROne.mk2 {w W W' : World} {L : List Ins} {i : Ins} {e : Ending} (hL : L = [i]) (hb : Below w.heap.size w W) (he : e = .returned (.slice (some ⟨W.heap.size, 0, none⟩) 1 1)) (hw : W' = W.alloc (.cells i.cells.toArray 43)) : ROne w L e W' := by
  subst he hw
  exact ROne.mk hL hb _ rfl
theorem rdI_newAt (W : World) (i : Ins) : RdI (W.alloc (.cells i.cells.toArray 43)) (W.heap.size + 1) (some ⟨W.heap.size, 0, none⟩) 1 [i] := Rd.new W _ _ (size := 5) (m := 1) rfl (by simp [maxLen])
set_option maxRecDepth 100000 in
set_option maxHeartbeats 16000000 in
theorem jone_any (at_ j n c kk : Nat) (A : Option Addr) (code : List Ins) (d0 d1 d2 d3 v0 v1 v2 v3 : Int) (w : World) (hr : RdI w w.heap.size A n code) (hj : j < n)
    (hi : ∀ i, code[j]? = some i → OneR i n [⟨d0, v0⟩, ⟨d1, v1⟩, ⟨d2, v2⟩, ⟨d3, v3⟩]) (hk : kk ≤ 10) (hn : n ≤ 1000) (hatb : at_ + beforeL code n ≤ 100000) :
    Calls Try.prog 48 #[.agg #[.slice A n c, .int .i64 d0, .int .u64 v0, .int .i64 d1, .int .u64 v1, .int .i64 d2, .int .u64 v2, .int .i64 d3, .int .u64 v3], .int .i64 kk, .int .i64 j, .int .i64 at_] w (ROne w (oneL code [⟨d0, v0⟩, ⟨d1, v1⟩, ⟨d2, v2⟩, ⟨d3, v3⟩] kk at_ j)) := by
  obtain ⟨i0, hi0, hz0, hz1, hz2⟩ := info_parts info_insL
  obtain ⟨b, o, i, rfl, hbB, hic, c0, c1, c2, c3, c4⟩ := hr.insAt hj
  have hok := hi i hic
  have hll := hr.insLen
  have hE : oneL code [⟨d0, v0⟩, ⟨d1, v1⟩, ⟨d2, v2⟩, ⟨d3, v3⟩] kk at_ j = if i.op = 17 ∨ i.op = 18 ∨ i.op = 19 then [{ i with imm := ((at_ + beforeL code i.imm.toNat : Nat) : Int) }]
      else if i.op = 8 then [handedP i.a ([⟨d0, v0⟩, ⟨d1, v1⟩, ⟨d2, v2⟩, ⟨d3, v3⟩].getD i.imm.toNat ⟨0, 0⟩)]
      else if i.op = 20 then ⟨1, 12 + (kk : Int), i.a, 0, 0⟩ :: (if j + 1 < n then [⟨17, 0, 0, 0, ((at_ + beforeL code n : Nat) : Int)⟩] else [])
      else [i] := by
    unfold oneL
    rw [List.getD_eq_getElem?_getD, hic, hll]; rfl
  obtain ⟨L, hL⟩ : ∃ L, oneL code [⟨d0, v0⟩, ⟨d1, v1⟩, ⟨d2, v2⟩, ⟨d3, v3⟩] kk at_ j = L := ⟨_, rfl⟩
  rw [hL] at hE ⊢
  have HE := Lib.hid hE
  have HR := Lib.hid hr
  have HOK := Lib.hid hok
  have HAtb := Lib.hid hatb
  obtain ⟨op, ia, ib, ic, imm⟩ := i
  simp only at c0 c1 c2 c3 c4
  clear hL hr hic hi hE hll hok hatb
  go_enter Try.func48, Try.ntmps48
  go_upto_region 2 with fail
  obtain ⟨W2, hW2⟩ : ∃ W2, (w.alloc (.cells #[.slice (some ⟨b, o, none⟩) n c, .int .i64 d0, .int .u64 v0, .int .i64 d1, .int .u64 v1, .int .i64 d2, .int .u64 v2, .int .i64 d3, .int .u64 v3] 112)).alloc (.cells #[.int .i64 op, .int .i64 ia, .int .i64 ib, .int .i64 ic, .int .u64 imm] 43) = W2 := ⟨_, rfl⟩
  rw [hW2]
  have HX : Hid (Bk W2 w.heap.size 112 #[.slice (some ⟨b, o, none⟩) n c, .int .i64 d0, .int .u64 v0, .int .i64 d1, .int .u64 v1, .int .i64 d2, .int .u64 v2, .int .i64 d3, .int .u64 v3]) := by show Bk _ _ _ _; rw [← hW2]; exact (Bk.new _ _ _).alloc _
  have HI : Hid (Bk W2 (w.heap.size + 1) 43 #[.int .i64 op, .int .i64 ia, .int .i64 ib, .int .i64 ic, .int .u64 imm]) := by show Bk _ _ _ _; rw [← hW2]; exact bk_new2 _ _ _ _
  have HB : Hid (Below w.heap.size w W2) := by show Below _ _ _; rw [← hW2]; exact ((Below.refl _ _).alloc (Nat.le_refl _) _).alloc (by simp) _
  have HR2 : Hid (RdI W2 W2.heap.size (some ⟨b, o, none⟩) n code) := (HR.out.below HB.out).more HB.out.size
  have y0 : W2.cell? ⟨w.heap.size + 1, 0, none⟩ = some (.int .i64 op) := (HI.out.cell 0).trans rfl
  clear hW2 c0 c1 c2 c3 c4
  go_wp2_with fail
  refine (rgoes_any op _).mono ?_
  rintro e w3 ⟨rfl, rfl⟩
  by_cases h17 : 17 ≤ op ∧ op ≤ 19
  · rw [decide_eq_true h17]
    have h3 : op = 17 ∨ op = 18 ∨ op = 19 := by omega
    obtain ⟨im0, im1⟩ := HOK.out.ok.go h3
    obtain ⟨fl0, fl1⟩ := HOK.out.flat h3
    simp only at im0 im1 fl0 fl1
    obtain ⟨m, rfl⟩ : ∃ m : Nat, imm = (m : Int) := ⟨imm.toNat, by omega⟩
    have hm : m ≤ n := by omega
    obtain ⟨T, hT⟩ : ∃ T : Nat, beforeL code m = T := ⟨_, rfl⟩
    have hTb : at_ + T ≤ 100000 := by have := beforeL_mono code hm; have := HAtb.out; omega
    have hTw : IntKind.u64.wrap ((at_ : Int) + (T : Int)) = (at_ : Int) + (T : Int) := by rw [IntKind.wrap_u64]; omega
    have hmw : IntKind.i64.wrap (m : Int) = m := IntWalk.i64_in _ (by omega)
    have HLt : Hid (L = [⟨op, ia, 0, 0, (at_ : Int) + (T : Int)⟩]) := by
      show _ = _
      rw [HE.out, if_pos h3, ← hT]
      simp only [Int.toNat_natCast, fl0, fl1, Int.natCast_add]
    have HT := Lib.hid hT
    have HTw := Lib.hid hTw
    have HSw : Hid (IntKind.i64.wrap ((at_ : Int) + (T : Int)) = (at_ : Int) + (T : Int)) := IntWalk.i64_in _ (by omega)
    clear h17 h3 im0 im1 fl0 fl1 hT hTw
    have y1 : W2.cell? ⟨w.heap.size + 1, 1, none⟩ = some (.int .i64 ia) := (HI.out.cell 1).trans rfl
    have y2 : W2.cell? ⟨w.heap.size + 1, 2, none⟩ = some (.int .i64 ib) := (HI.out.cell 2).trans rfl
    have y3 : W2.cell? ⟨w.heap.size + 1, 3, none⟩ = some (.int .i64 ic) := (HI.out.cell 3).trans rfl
    have y4 : W2.cell? ⟨w.heap.size + 1, 4, none⟩ = some (.int .u64 m) := (HI.out.cell 4).trans rfl
    have x0 : W2.cell? ⟨w.heap.size, 0, none⟩ = some (.slice (some ⟨b, o, none⟩) n c) := (HX.out.cell 0).trans rfl
    have x1 : W2.cell? ⟨w.heap.size, 1, none⟩ = some (.int .i64 d0) := (HX.out.cell 1).trans rfl
    have x2 : W2.cell? ⟨w.heap.size, 2, none⟩ = some (.int .u64 v0) := (HX.out.cell 2).trans rfl
    have x3 : W2.cell? ⟨w.heap.size, 3, none⟩ = some (.int .i64 d1) := (HX.out.cell 3).trans rfl
    have x4 : W2.cell? ⟨w.heap.size, 4, none⟩ = some (.int .u64 v1) := (HX.out.cell 4).trans rfl
    have x5 : W2.cell? ⟨w.heap.size, 5, none⟩ = some (.int .i64 d2) := (HX.out.cell 5).trans rfl
    have x6 : W2.cell? ⟨w.heap.size, 6, none⟩ = some (.int .u64 v2) := (HX.out.cell 6).trans rfl
    have x7 : W2.cell? ⟨w.heap.size, 7, none⟩ = some (.int .i64 d3) := (HX.out.cell 7).trans rfl
    have x8 : W2.cell? ⟨w.heap.size, 8, none⟩ = some (.int .u64 v3) := (HX.out.cell 8).trans rfl
    clear y2 y3
    go_upto_region 3 with fail
    go_region_law (
      go_simp
      go_at_call 67
      refine (rbefore_any code _ n c m d0 d1 d2 d3 v0 v1 v2 v3 _ HR2.out.drew hm hn).mono ?_
      rintro e wn ⟨rfl, hbn⟩
      rw [HT.out]
      have HBn := Lib.hid (HB.out.drew.trans (hbn.mono HB.out.size))
      have HIn := Lib.hid (HI.out.drew.below hbn HI.out.lt)
      have z0 : wn.cell? ⟨w.heap.size + 1, 0, none⟩ = some (.int .i64 op) := (HIn.out.cell 0).trans rfl
      have z1 : wn.cell? ⟨w.heap.size + 1, 1, none⟩ = some (.int .i64 ia) := (HIn.out.cell 1).trans rfl
      have z2 : wn.cell? ⟨w.heap.size + 1, 2, none⟩ = some (.int .i64 ib) := (HIn.out.cell 2).trans rfl
      have z3 : wn.cell? ⟨w.heap.size + 1, 3, none⟩ = some (.int .i64 ic) := (HIn.out.cell 3).trans rfl
      have z4 : wn.cell? ⟨w.heap.size + 1, 4, none⟩ = some (.int .u64 m) := (HIn.out.cell 4).trans rfl
      clear hbn z2 z3)
    all_goals
      go_wp2
      go_ret
      exact ROne.mk2 (i := ⟨op, ia, 0, 0, (at_ : Int) + (T : Int)⟩) HLt.out HBn.out rfl (by rw [HSw.out, HTw.out]; rfl)

  rw [decide_eq_false h17]
  have h3 : ¬ (op = 17 ∨ op = 18 ∨ op = 19) := by omega
  by_cases h8 : op = 8
  · subst h8
    obtain ⟨im0, im1⟩ := HOK.out.ok.arg rfl
    simp only at im0 im1
    have HLt : Hid (L = [handedP ia ([⟨d0, v0⟩, ⟨d1, v1⟩, ⟨d2, v2⟩, ⟨d3, v3⟩].getD imm.toNat ⟨0, 0⟩)]) := by show _ = _; rw [HE.out, if_neg h3, if_pos rfl]
    clear h17 h3
    have y1 : W2.cell? ⟨w.heap.size + 1, 1, none⟩ = some (.int .i64 ia) := (HI.out.cell 1).trans rfl
    have y2 : W2.cell? ⟨w.heap.size + 1, 2, none⟩ = some (.int .i64 ib) := (HI.out.cell 2).trans rfl
    have y3 : W2.cell? ⟨w.heap.size + 1, 3, none⟩ = some (.int .i64 ic) := (HI.out.cell 3).trans rfl
    have y4 : W2.cell? ⟨w.heap.size + 1, 4, none⟩ = some (.int .u64 imm) := (HI.out.cell 4).trans rfl
    have x0 : W2.cell? ⟨w.heap.size, 0, none⟩ = some (.slice (some ⟨b, o, none⟩) n c) := (HX.out.cell 0).trans rfl
    have x1 : W2.cell? ⟨w.heap.size, 1, none⟩ = some (.int .i64 d0) := (HX.out.cell 1).trans rfl
    have x2 : W2.cell? ⟨w.heap.size, 2, none⟩ = some (.int .u64 v0) := (HX.out.cell 2).trans rfl
    have x3 : W2.cell? ⟨w.heap.size, 3, none⟩ = some (.int .i64 d1) := (HX.out.cell 3).trans rfl
    have x4 : W2.cell? ⟨w.heap.size, 4, none⟩ = some (.int .u64 v1) := (HX.out.cell 4).trans rfl
    have x5 : W2.cell? ⟨w.heap.size, 5, none⟩ = some (.int .i64 d2) := (HX.out.cell 5).trans rfl
    have x6 : W2.cell? ⟨w.heap.size, 6, none⟩ = some (.int .u64 v2) := (HX.out.cell 6).trans rfl
    have x7 : W2.cell? ⟨w.heap.size, 7, none⟩ = some (.int .i64 d3) := (HX.out.cell 7).trans rfl
    have x8 : W2.cell? ⟨w.heap.size, 8, none⟩ = some (.int .u64 v3) := (HX.out.cell 8).trans rfl
    have hm4 : imm = 0 ∨ imm = 1 ∨ imm = 2 ∨ imm = 3 := by omega
    clear im0 im1
    rcases hm4 with rfl | rfl | rfl | rfl
    · have HL2 : Hid (L = [handedP ia ⟨d0, v0⟩]) := HLt.out
      have HV : Hid (d0 = 1 → 0 ≤ v0 ∧ v0 ≤ 1000) := fun h => HOK.out.ok.ar ⟨d0, v0⟩ (by simp) h
      go_upto_region 6 with fail
      obtain ⟨Wa, hWa⟩ : ∃ Wa, W2.alloc (.cells #[.int .i64 d0, .int .u64 v0] 109) = Wa := ⟨_, rfl⟩
      rw [hWa]
      have HXa : Hid (Bk Wa W2.heap.size 109 #[.int .i64 d0, .int .u64 v0]) := by show Bk _ _ _ _; rw [← hWa]; exact Bk.new _ _ _
      have HIa : Hid (Bk Wa (w.heap.size + 1) 43 #[.int .i64 8, .int .i64 ia, .int .i64 ib, .int .i64 ic, .int .u64 0]) := by show Bk _ _ _ _; rw [← hWa]; exact HI.out.alloc _
      have HBa : Hid (Below w.heap.size w Wa) := by show Below _ _ _; rw [← hWa]; exact HB.out.alloc HB.out.size _
      have a0 : Wa.cell? ⟨W2.heap.size, 0, none⟩ = some (.int .i64 d0) := (HXa.out.cell 0).trans rfl
      have a1 : Wa.cell? ⟨W2.heap.size, 1, none⟩ = some (.int .u64 v0) := (HXa.out.cell 1).trans rfl
      have z1 : Wa.cell? ⟨w.heap.size + 1, 1, none⟩ = some (.int .i64 ia) := (HIa.out.cell 1).trans rfl
      clear hWa
      by_cases e0 : d0 = 0
      · have e0b : (d0 == 0) = true := by simpa using e0
        have HL3 : Hid (L = [⟨0, ia, 0, 0, v0⟩]) := by show _ = _; rw [HL2.out]; unfold handedP; rw [if_pos e0]
        clear e0
        go_wp2
        go_ret
        exact ROne.mk (i := ⟨0, ia, 0, 0, v0⟩) HL3.out HBa.out _ rfl
      · have e0b : (d0 == 0) = false := by simpa using e0
        by_cases e1 : d0 = 1
        · have e1b : (d0 == 1) = true := by simpa using e1
          obtain ⟨g0, g1⟩ := HV.out e1
          have hw1 : IntKind.i64.wrap v0 = v0 := IntWalk.i64_in _ (by omega)
          have HL3 : Hid (L = [⟨1, ia, 12 + v0, 0, 0⟩]) := by show _ = _; rw [HL2.out]; unfold handedP; rw [if_neg e0, if_pos e1]
          clear e0 e1
          go_wp2
          go_ret
          exact ROne.mk (i := ⟨1, ia, 12 + v0, 0, 0⟩) HL3.out HBa.out _ rfl
        · have e1b : (d0 == 1) = false := by simpa using e1
          have HL3 : Hid (L = [⟨8, ia, 0, 0, v0⟩]) := by show _ = _; rw [HL2.out]; unfold handedP; rw [if_neg e0, if_neg e1]
          clear e0 e1
          go_wp2
          go_ret
          exact ROne.mk (i := ⟨8, ia, 0, 0, v0⟩) HL3.out HBa.out _ rfl
    · have HL2 : Hid (L = [handedP ia ⟨d1, v1⟩]) := HLt.out
      have HV : Hid (d1 = 1 → 0 ≤ v1 ∧ v1 ≤ 1000) := fun h => HOK.out.ok.ar ⟨d1, v1⟩ (by simp) h
      go_upto_region 6 with fail
      obtain ⟨Wa, hWa⟩ : ∃ Wa, W2.alloc (.cells #[.int .i64 d1, .int .u64 v1] 109) = Wa := ⟨_, rfl⟩
      rw [hWa]
      have HXa : Hid (Bk Wa W2.heap.size 109 #[.int .i64 d1, .int .u64 v1]) := by show Bk _ _ _ _; rw [← hWa]; exact Bk.new _ _ _
      have HIa : Hid (Bk Wa (w.heap.size + 1) 43 #[.int .i64 8, .int .i64 ia, .int .i64 ib, .int .i64 ic, .int .u64 1]) := by show Bk _ _ _ _; rw [← hWa]; exact HI.out.alloc _
      have HBa : Hid (Below w.heap.size w Wa) := by show Below _ _ _; rw [← hWa]; exact HB.out.alloc HB.out.size _
      have a0 : Wa.cell? ⟨W2.heap.size, 0, none⟩ = some (.int .i64 d1) := (HXa.out.cell 0).trans rfl
      have a1 : Wa.cell? ⟨W2.heap.size, 1, none⟩ = some (.int .u64 v1) := (HXa.out.cell 1).trans rfl
      have z1 : Wa.cell? ⟨w.heap.size + 1, 1, none⟩ = some (.int .i64 ia) := (HIa.out.cell 1).trans rfl
      clear hWa
      by_cases e0 : d1 = 0
      · have e0b : (d1 == 0) = true := by simpa using e0
        have HL3 : Hid (L = [⟨0, ia, 0, 0, v1⟩]) := by show _ = _; rw [HL2.out]; unfold handedP; rw [if_pos e0]
        clear e0
        go_wp2
        go_ret
        exact ROne.mk (i := ⟨0, ia, 0, 0, v1⟩) HL3.out HBa.out _ rfl
      · have e0b : (d1 == 0) = false := by simpa using e0
        by_cases e1 : d1 = 1
        · have e1b : (d1 == 1) = true := by simpa using e1
          obtain ⟨g0, g1⟩ := HV.out e1
          have hw1 : IntKind.i64.wrap v1 = v1 := IntWalk.i64_in _ (by omega)
          have HL3 : Hid (L = [⟨1, ia, 12 + v1, 0, 0⟩]) := by show _ = _; rw [HL2.out]; unfold handedP; rw [if_neg e0, if_pos e1]
          clear e0 e1
          go_wp2
          go_ret
          exact ROne.mk (i := ⟨1, ia, 12 + v1, 0, 0⟩) HL3.out HBa.out _ rfl
        · have e1b : (d1 == 1) = false := by simpa using e1
          have HL3 : Hid (L = [⟨8, ia, 0, 0, v1⟩]) := by show _ = _; rw [HL2.out]; unfold handedP; rw [if_neg e0, if_neg e1]
          clear e0 e1
          go_wp2
          go_ret
          exact ROne.mk (i := ⟨8, ia, 0, 0, v1⟩) HL3.out HBa.out _ rfl
    · have HL2 : Hid (L = [handedP ia ⟨d2, v2⟩]) := HLt.out
      have HV : Hid (d2 = 1 → 0 ≤ v2 ∧ v2 ≤ 1000) := fun h => HOK.out.ok.ar ⟨d2, v2⟩ (by simp) h
      go_upto_region 6 with fail
      obtain ⟨Wa, hWa⟩ : ∃ Wa, W2.alloc (.cells #[.int .i64 d2, .int .u64 v2] 109) = Wa := ⟨_, rfl⟩
      rw [hWa]
      have HXa : Hid (Bk Wa W2.heap.size 109 #[.int .i64 d2, .int .u64 v2]) := by show Bk _ _ _ _; rw [← hWa]; exact Bk.new _ _ _
      have HIa : Hid (Bk Wa (w.heap.size + 1) 43 #[.int .i64 8, .int .i64 ia, .int .i64 ib, .int .i64 ic, .int .u64 2]) := by show Bk _ _ _ _; rw [← hWa]; exact HI.out.alloc _
      have HBa : Hid (Below w.heap.size w Wa) := by show Below _ _ _; rw [← hWa]; exact HB.out.alloc HB.out.size _
      have a0 : Wa.cell? ⟨W2.heap.size, 0, none⟩ = some (.int .i64 d2) := (HXa.out.cell 0).trans rfl
      have a1 : Wa.cell? ⟨W2.heap.size, 1, none⟩ = some (.int .u64 v2) := (HXa.out.cell 1).trans rfl
      have z1 : Wa.cell? ⟨w.heap.size + 1, 1, none⟩ = some (.int .i64 ia) := (HIa.out.cell 1).trans rfl
      clear hWa
      by_cases e0 : d2 = 0
      · have e0b : (d2 == 0) = true := by simpa using e0
        have HL3 : Hid (L = [⟨0, ia, 0, 0, v2⟩]) := by show _ = _; rw [HL2.out]; unfold handedP; rw [if_pos e0]
        clear e0
        go_wp2
        go_ret
        exact ROne.mk (i := ⟨0, ia, 0, 0, v2⟩) HL3.out HBa.out _ rfl
      · have e0b : (d2 == 0) = false := by simpa using e0
        by_cases e1 : d2 = 1
        · have e1b : (d2 == 1) = true := by simpa using e1
          obtain ⟨g0, g1⟩ := HV.out e1
          have hw1 : IntKind.i64.wrap v2 = v2 := IntWalk.i64_in _ (by omega)
          have HL3 : Hid (L = [⟨1, ia, 12 + v2, 0, 0⟩]) := by show _ = _; rw [HL2.out]; unfold handedP; rw [if_neg e0, if_pos e1]
          clear e0 e1
          go_wp2
          go_ret
          exact ROne.mk (i := ⟨1, ia, 12 + v2, 0, 0⟩) HL3.out HBa.out _ rfl
        · have e1b : (d2 == 1) = false := by simpa using e1
          have HL3 : Hid (L = [⟨8, ia, 0, 0, v2⟩]) := by show _ = _; rw [HL2.out]; unfold handedP; rw [if_neg e0, if_neg e1]
          clear e0 e1
          go_wp2
          go_ret
          exact ROne.mk (i := ⟨8, ia, 0, 0, v2⟩) HL3.out HBa.out _ rfl
    · have HL2 : Hid (L = [handedP ia ⟨d3, v3⟩]) := HLt.out
      have HV : Hid (d3 = 1 → 0 ≤ v3 ∧ v3 ≤ 1000) := fun h => HOK.out.ok.ar ⟨d3, v3⟩ (by simp) h
      go_upto_region 6 with fail
      obtain ⟨Wa, hWa⟩ : ∃ Wa, W2.alloc (.cells #[.int .i64 d3, .int .u64 v3] 109) = Wa := ⟨_, rfl⟩
      rw [hWa]
      have HXa : Hid (Bk Wa W2.heap.size 109 #[.int .i64 d3, .int .u64 v3]) := by show Bk _ _ _ _; rw [← hWa]; exact Bk.new _ _ _
      have HIa : Hid (Bk Wa (w.heap.size + 1) 43 #[.int .i64 8, .int .i64 ia, .int .i64 ib, .int .i64 ic, .int .u64 3]) := by show Bk _ _ _ _; rw [← hWa]; exact HI.out.alloc _
      have HBa : Hid (Below w.heap.size w Wa) := by show Below _ _ _; rw [← hWa]; exact HB.out.alloc HB.out.size _
      have a0 : Wa.cell? ⟨W2.heap.size, 0, none⟩ = some (.int .i64 d3) := (HXa.out.cell 0).trans rfl
      have a1 : Wa.cell? ⟨W2.heap.size, 1, none⟩ = some (.int .u64 v3) := (HXa.out.cell 1).trans rfl
      have z1 : Wa.cell? ⟨w.heap.size + 1, 1, none⟩ = some (.int .i64 ia) := (HIa.out.cell 1).trans rfl
      clear hWa
      by_cases e0 : d3 = 0
      · have e0b : (d3 == 0) = true := by simpa using e0
        have HL3 : Hid (L = [⟨0, ia, 0, 0, v3⟩]) := by show _ = _; rw [HL2.out]; unfold handedP; rw [if_pos e0]
        clear e0
        go_wp2
        go_ret
        exact ROne.mk (i := ⟨0, ia, 0, 0, v3⟩) HL3.out HBa.out _ rfl
      · have e0b : (d3 == 0) = false := by simpa using e0
        by_cases e1 : d3 = 1
        · have e1b : (d3 == 1) = true := by simpa using e1
          obtain ⟨g0, g1⟩ := HV.out e1
          have hw1 : IntKind.i64.wrap v3 = v3 := IntWalk.i64_in _ (by omega)
          have HL3 : Hid (L = [⟨1, ia, 12 + v3, 0, 0⟩]) := by show _ = _; rw [HL2.out]; unfold handedP; rw [if_neg e0, if_pos e1]
          clear e0 e1
          go_wp2
          go_ret
          exact ROne.mk (i := ⟨1, ia, 12 + v3, 0, 0⟩) HL3.out HBa.out _ rfl
        · have e1b : (d3 == 1) = false := by simpa using e1
          have HL3 : Hid (L = [⟨8, ia, 0, 0, v3⟩]) := by show _ = _; rw [HL2.out]; unfold handedP; rw [if_neg e0, if_neg e1]
          clear e0 e1
          go_wp2
          go_ret
          exact ROne.mk (i := ⟨8, ia, 0, 0, v3⟩) HL3.out HBa.out _ rfl
  have h8b : (op == 8) = false := by simpa using h8
  by_cases h20 : op = 20
  · subst h20
    have HLt : Hid (L = ⟨1, 12 + (kk : Int), ia, 0, 0⟩ :: (if j + 1 < n then [⟨17, 0, 0, 0, ((at_ + beforeL code n : Nat) : Int)⟩] else [])) := by show _ = _; rw [HE.out, if_neg h3, if_neg h8, if_pos rfl]
    clear h17 h3 h8
    have y1 : W2.cell? ⟨w.heap.size + 1, 1, none⟩ = some (.int .i64 ia) := (HI.out.cell 1).trans rfl
    have y2 : W2.cell? ⟨w.heap.size + 1, 2, none⟩ = some (.int .i64 ib) := (HI.out.cell 2).trans rfl
    have y3 : W2.cell? ⟨w.heap.size + 1, 3, none⟩ = some (.int .i64 ic) := (HI.out.cell 3).trans rfl
    have y4 : W2.cell? ⟨w.heap.size + 1, 4, none⟩ = some (.int .u64 imm) := (HI.out.cell 4).trans rfl
    have x0 : W2.cell? ⟨w.heap.size, 0, none⟩ = some (.slice (some ⟨b, o, none⟩) n c) := (HX.out.cell 0).trans rfl
    have x1 : W2.cell? ⟨w.heap.size, 1, none⟩ = some (.int .i64 d0) := (HX.out.cell 1).trans rfl
    have x2 : W2.cell? ⟨w.heap.size, 2, none⟩ = some (.int .u64 v0) := (HX.out.cell 2).trans rfl
    have x3 : W2.cell? ⟨w.heap.size, 3, none⟩ = some (.int .i64 d1) := (HX.out.cell 3).trans rfl
    have x4 : W2.cell? ⟨w.heap.size, 4, none⟩ = some (.int .u64 v1) := (HX.out.cell 4).trans rfl
    have x5 : W2.cell? ⟨w.heap.size, 5, none⟩ = some (.int .i64 d2) := (HX.out.cell 5).trans rfl
    have x6 : W2.cell? ⟨w.heap.size, 6, none⟩ = some (.int .u64 v2) := (HX.out.cell 6).trans rfl
    have x7 : W2.cell? ⟨w.heap.size, 7, none⟩ = some (.int .i64 d3) := (HX.out.cell 7).trans rfl
    have x8 : W2.cell? ⟨w.heap.size, 8, none⟩ = some (.int .u64 v3) := (HX.out.cell 8).trans rfl
    go_upto_region 13 with fail
    obtain ⟨Wa, hWa⟩ : ∃ Wa, W2.alloc (.cells (⟨1, 12 + (kk : Int), ia, 0, 0⟩ : Ins).cells.toArray 43) = Wa := ⟨_, rfl⟩
    have HOa : Hid (ROut Wa (.slice (some ⟨W2.heap.size, 0, none⟩) 1 1) w.heap.size [⟨1, 12 + (kk : Int), ia, 0, 0⟩]) := by show Wa.ownsRow _ _ _ _ 1 _; rw [← hWa]; exact own_new W2 _ _ (size := 5) (m := 1) rfl (by simp [maxLen]) HB.out.size
    have HBa : Hid (Below w.heap.size w Wa) := by show Below _ _ _; rw [← hWa]; exact HB.out.alloc HB.out.size _
    have HXa : Hid (Bk Wa w.heap.size 112 #[.slice (some ⟨b, o, none⟩) n c, .int .i64 d0, .int .u64 v0, .int .i64 d1, .int .u64 v1, .int .i64 d2, .int .u64 v2, .int .i64 d3, .int .u64 v3]) := by show Bk _ _ _ _; rw [← hWa]; exact HX.out.alloc _
    have HRa : Hid (RdI Wa Wa.heap.size (some ⟨b, o, none⟩) n code) := (HR.out.below HBa.out).more HBa.out.size
    replace hWa : W2.alloc (.cells #[.int .i64 1, .int .i64 (12 + (kk : Int)), .int .i64 ia, .int .i64 0, .int .u64 0] 43) = Wa := hWa
    rw [hWa]
    clear hWa x0 x1 x2 x3 x4 x5 x6 x7 x8 y0 y1 y2 y3 y4

    have x0 : Wa.cell? ⟨w.heap.size, 0, none⟩ = some (.slice (some ⟨b, o, none⟩) n c) := (HXa.out.cell 0).trans rfl
    have x1 : Wa.cell? ⟨w.heap.size, 1, none⟩ = some (.int .i64 d0) := (HXa.out.cell 1).trans rfl
    have x2 : Wa.cell? ⟨w.heap.size, 2, none⟩ = some (.int .u64 v0) := (HXa.out.cell 2).trans rfl
    have x3 : Wa.cell? ⟨w.heap.size, 3, none⟩ = some (.int .i64 d1) := (HXa.out.cell 3).trans rfl
    have x4 : Wa.cell? ⟨w.heap.size, 4, none⟩ = some (.int .u64 v1) := (HXa.out.cell 4).trans rfl
    have x5 : Wa.cell? ⟨w.heap.size, 5, none⟩ = some (.int .i64 d2) := (HXa.out.cell 5).trans rfl
    have x6 : Wa.cell? ⟨w.heap.size, 6, none⟩ = some (.int .u64 v2) := (HXa.out.cell 6).trans rfl
    have x7 : Wa.cell? ⟨w.heap.size, 7, none⟩ = some (.int .i64 d3) := (HXa.out.cell 7).trans rfl
    have x8 : Wa.cell? ⟨w.heap.size, 8, none⟩ = some (.int .u64 v3) := (HXa.out.cell 8).trans rfl
    by_cases hl : j + 1 < n
    · have hli : (j : Int) + 1 < (n : Int) := by omega
      obtain ⟨T, hT⟩ : ∃ T : Nat, beforeL code n = T := ⟨_, rfl⟩
      have hTb : at_ + T ≤ 100000 := by have := HAtb.out; omega
      have hTw : IntKind.u64.wrap ((at_ : Int) + (T : Int)) = (at_ : Int) + (T : Int) := by rw [IntKind.wrap_u64]; omega
      have HL3 : Hid (L = [⟨1, 12 + (kk : Int), ia, 0, 0⟩] ++ [⟨17, 0, 0, 0, (at_ : Int) + (T : Int)⟩]) := by
        show _ = _
        rw [HLt.out, if_pos hl, hT, Int.natCast_add]; rfl
      have HT := Lib.hid hT
      clear hT hl
      go_wp2_with fail
      refine (rbefore_any code _ n c n d0 d1 d2 d3 v0 v1 v2 v3 _ HRa.out (Nat.le_refl _) hn).mono ?_
      rintro e wb ⟨rfl, hbb⟩
      rw [HT.out]
      have HOb := Lib.hid (show ROut wb _ _ _ from own_below HOa.out hbb)
      have HBb := Lib.hid (HBa.out.trans (hbb.mono HBa.out.size))
      clear hbb x0 x1 x2 x3 x4 x5 x6 x7 x8
      have HOc := Lib.hid (HOb.out.alloc (.cells #[.int .i64 17, .int .i64 0, .int .i64 0, .int .i64 0, .int .u64 ((at_ : Int) + (T : Int))] 43))
      have HBc := Lib.hid (HBb.out.alloc HBb.out.size (.cells #[.int .i64 17, .int .i64 0, .int .i64 0, .int .i64 0, .int .u64 ((at_ : Int) + (T : Int))] 43))
      have hz3 : w.heap.size ≤ (wb.alloc (.cells #[.int .i64 17, .int .i64 0, .int .i64 0, .int .i64 0, .int .u64 ((at_ : Int) + (T : Int))] 43)).heap.size := HBc.out.size
      have Ra : Hid (RdI (wb.alloc (.cells #[.int .i64 17, .int .i64 0, .int .i64 0, .int .i64 0, .int .u64 ((at_ : Int) + (T : Int))] 43)) (wb.heap.size + 1) (some ⟨wb.heap.size, 0, none⟩) 1 [⟨17, 0, 0, 0, (at_ : Int) + (T : Int)⟩]) := rdI_newAt wb ⟨17, 0, 0, 0, (at_ : Int) + (T : Int)⟩
      have tok1 : True := trivial
      go_wp2_with (first
        | (at_builtin
           have _t := tok1
           go_must (
             refine wpList_app _ rfl (.tmp 83) (.tmp 93) 23 rfl w.heap.size 43 i0 _ 5 40 Try.underlying23 hi0 hz0 hz1 hz2 rfl (by omega) _ 1 _ rfl HOc.out _ _ 1 _ _ rfl Ra.out (insCells_one _) ?_ ?_ ?_ ?_
             · simp [maxLen]
             · simp
             · exact hz3
             intro v5 w5 hown5 hg5 _
             have HO5 := Lib.hid hown5
             have HB5 := Lib.hid (below_own HBc.out HOc.out hg5 (Nat.le_refl _) HBc.out.size)
             clear hown5 hg5 _t tok1))
        | fail)
      go_ret
      exact ⟨_, rfl, by rw [HL3.out]; exact HO5.out, HB5.out⟩
    · have hli : ¬ ((j : Int) + 1 < (n : Int)) := by omega
      have HL3 : Hid (L = [⟨1, 12 + (kk : Int), ia, 0, 0⟩]) := by show _ = _; rw [HLt.out, if_neg hl]
      clear hl
      go_wp2
      go_ret
      exact ⟨_, rfl, by rw [HL3.out]; exact HOa.out, HBa.out⟩
  have h20b : (op == 20) = false := by simpa using h20
  have HLt : Hid (L = [⟨op, ia, ib, ic, imm⟩]) := by show _ = _; rw [HE.out, if_neg h3, if_neg h8, if_neg h20]
  clear h17 h3 h8 h20
  have y1 : W2.cell? ⟨w.heap.size + 1, 1, none⟩ = some (.int .i64 ia) := (HI.out.cell 1).trans rfl
  have y2 : W2.cell? ⟨w.heap.size + 1, 2, none⟩ = some (.int .i64 ib) := (HI.out.cell 2).trans rfl
  have y3 : W2.cell? ⟨w.heap.size + 1, 3, none⟩ = some (.int .i64 ic) := (HI.out.cell 3).trans rfl
  have y4 : W2.cell? ⟨w.heap.size + 1, 4, none⟩ = some (.int .u64 imm) := (HI.out.cell 4).trans rfl
  go_wp2
  go_ret
  exact ROne.mk (i := ⟨op, ia, ib, ic, imm⟩) HLt.out HB.out _ rfl
end Go.Proofs.Ytddaeaimimdonaa
