import Derived.Test.YtjggmimaolddkaaOrAA
import Derived.Test.YtjggmimaolddkaaOrBB
import Derived.Test.YtjggmimaolddkaaRows
import Derived.Handy
import Derived.WalkLawsBesides
import Derived.WalkSpells
import Derived.Outline
import Derived.Deep.Cut
import Derived.Test.YtjggmimaolddkaaOrAT
import Derived.Test.YtjggmimaolddkaaOrBA
import Derived.Test.YtjggmimaolddkaaOrAR
namespace Go.Proofs.Ytjggmimaolddkaa
open Go.RowKit
set_option linter.unusedVariables false
theorem info_rc7 : (Try.prog.info? 71).map (fun i => (i.zero, i.size, i.bytes)) = some (some (.agg #[.int .i64 0, .int .i64 0, .int .i64 0, .int .u64 0, .int .u64 0, .int .u64 0, .int .u64 0, .int .i64 0, .int .i64 0, .int .i64 0, .bool false, .int .i64 0, .int .u64 0]), 13, 104) := by kernel_rfl
theorem rcCells_one (l : List Rc7) : ∀ u ∈ rcCells l, u.oneCell' = true := by
 intro u hu
 obtain ⟨r, _, hx⟩ := List.mem_flatMap.1 hu
 simp only [Rc7.cells, List.mem_cons, List.not_mem_nil, or_false] at hx
 rcases hx with rfl | rfl | rfl | rfl | rfl | rfl | rfl | rfl | rfl | rfl | rfl | rfl | rfl <;> rfl
set_option maxRecDepth 100000 in
set_option maxHeartbeats 4000000 in
theorem records_any (l : List Rc7) (A : Option Addr) (n c : Nat) (w : World) (hr : RdR w w.heap.size A n l) (hn : n ≤ 100000) :
 Calls Try.prog 9 #[.slice A n c] w fun e w' => ∃ v, e = .returned v ∧ w'.ownsRow w.heap.size 71 13 v n (rcCells l) ∧ Below w.heap.size w w' := by
 obtain ⟨i0, hi0, hz0, hz1, hz2⟩ := info_parts info_rc7
 have hlen := hr.rcLen
 have HR := Lib.hid hr
 have HLen := Lib.hid hlen
 clear hr hlen
 go_enter Try.func9, Try.ntmps9
 have OWN0 : Hid ((w.alloc (.cells #[] 71)).ownsRow w.heap.size 71 13 (.slice (some ⟨w.heap.size, 0, none⟩) 0 0) 0 (rcCells [])) := World.ownsRow_made w #[] 0 (Nat.le_refl _) (by simp [maxLen]) rfl
 have HB0 : Hid (Below w.heap.size w (w.alloc (.cells #[] 71))) := (Below.refl _ _).alloc (Nat.le_refl _) _
 go_wp2
 go_loopw [3, 9] (fun ov i wr => ∃ k : Nat, (k ≤ n ∧ i = .int .i64 k) ∧ Hid (wr.ownsRow w.heap.size 71 13 ov k (rcCells (l.take k))) ∧ Hid (Below w.heap.size w wr)) (fun _ i _ => n - (intOf i).toNat)
 case atStart => exact ⟨0, ⟨by omega, rfl⟩, OWN0.out, HB0.out⟩
 case round =>
  obtain ⟨k, ⟨hk, rfl⟩, HO, HB⟩ := hrel
  obtain ⟨ov', co, rfl, hkc, _⟩ := Rd.of_own_cap HO.out
  by_cases hlt : k < n
  ·have hlti : (k : Int) < (n : Int) := by omega
   obtain ⟨b, o, r, rfl, hb, hrk, hc⟩ := (HR.out.below HB.out).rcAt hlt
   have HTk : Hid (l.take (k + 1) = l.take k ++ [r]) := by show _ = _; rw [List.take_add_one, hrk]; rfl
   obtain ⟨rw_, rt, rp, x0, x1, x2, x3, rf, rl, rs, rd, rc, rv⟩ := r
   have d0 := hc 0 _ rfl
   have d1 := hc 1 _ rfl
   have d2 := hc 2 _ rfl
   have d3 := hc 3 _ rfl
   have d4 := hc 4 _ rfl
   have d5 := hc 5 _ rfl
   have d6 := hc 6 _ rfl
   have d7 := hc 7 _ rfl
   have d8 := hc 8 _ rfl
   have d9 := hc 9 _ rfl
   have d10 := hc 10 _ rfl
   have d11 := hc 11 _ rfl
   have d12 := hc 12 _ rfl
   simp only [← Nat.add_assoc, Nat.add_zero] at d0 d1 d2 d3 d4 d5 d6 d7 d8 d9 d10 d11 d12
   clear hc hrk
   go_upto_region 5 with fail
   obtain ⟨W1, hW1⟩ : ∃ W1, wr.alloc (.cells #[.int .i64 rw_, .int .i64 rt, .int .i64 rp, .int .u64 x0, .int .u64 x1, .int .u64 x2, .int .u64 x3, .int .i64 rf, .int .i64 rl, .int .i64 rs, .bool rd, .int .i64 rc, .int .u64 rv] 41) = W1 := ⟨_, rfl⟩
   rw [hW1]
   have HI1 : Hid (Bk W1 wr.heap.size 41 #[.int .i64 rw_, .int .i64 rt, .int .i64 rp, .int .u64 x0, .int .u64 x1, .int .u64 x2, .int .u64 x3, .int .i64 rf, .int .i64 rl, .int .i64 rs, .bool rd, .int .i64 rc, .int .u64 rv]) := by show Bk _ _ _ _; rw [← hW1]; exact Bk.new _ _ _
   have HO1 : Hid (W1.ownsRow w.heap.size 71 13 (.slice ov' k co) k (rcCells (l.take k))) := by show World.ownsRow _ _ _ _ _ _ _; rw [← hW1]; exact HO.out.alloc _
   have HB1 : Hid (Below w.heap.size w W1) := by show Below _ _ _; rw [← hW1]; exact HB.out.alloc HB.out.size _
   clear hW1 d0 d1 d2 d3 d4 d5 d6 d7 d8 d9 d10 d11 d12
   have j0 := (HI1.out.cell 0).trans rfl
   have j1 := (HI1.out.cell 1).trans rfl
   have j2 := (HI1.out.cell 2).trans rfl
   have j3 := (HI1.out.cell 3).trans rfl
   have j4 := (HI1.out.cell 4).trans rfl
   have j5 := (HI1.out.cell 5).trans rfl
   have j6 := (HI1.out.cell 6).trans rfl
   have j7 := (HI1.out.cell 7).trans rfl
   have j8 := (HI1.out.cell 8).trans rfl
   have j9 := (HI1.out.cell 9).trans rfl
   have j10 := (HI1.out.cell 10).trans rfl
   have j11 := (HI1.out.cell 11).trans rfl
   have j12 := (HI1.out.cell 12).trans rfl
   have HOa := Lib.hid (HO1.out.alloc (.cells #[.int .i64 rw_, .int .i64 rt, .int .i64 rp, .int .u64 x0, .int .u64 x1, .int .u64 x2, .int .u64 x3, .int .i64 rf, .int .i64 rl, .int .i64 rs, .bool rd, .int .i64 rc, .int .u64 rv] 71))
   have HBa := Lib.hid (HB1.out.alloc HB1.out.size (.cells #[.int .i64 rw_, .int .i64 rt, .int .i64 rp, .int .u64 x0, .int .u64 x1, .int .u64 x2, .int .u64 x3, .int .i64 rf, .int .i64 rl, .int .i64 rs, .bool rd, .int .i64 rc, .int .u64 rv] 71))
   have hz3 := HBa.out.size
   have Ra : Hid (Rd (W1.alloc (.cells #[.int .i64 rw_, .int .i64 rt, .int .i64 rp, .int .u64 x0, .int .u64 x1, .int .u64 x2, .int .u64 x3, .int .i64 rf, .int .i64 rl, .int .i64 rs, .bool rd, .int .i64 rc, .int .u64 rv] 71)) (W1.heap.size + 1) 13 (some ⟨W1.heap.size, 0, none⟩) 1 (rcCells [⟨rw_, rt, rp, x0, x1, x2, x3, rf, rl, rs, rd, rc, rv⟩])) := Rd.new W1 _ _ (size := 13) (m := 1) rfl (by simp [maxLen])
   go_wp2_with (
    at_builtin
    go_must (
     refine wpList_app _ rfl (.tmp 13) (.tmp 15) 29 rfl w.heap.size 71 i0 _ 13 104 Try.underlying29 hi0 hz0 hz1 hz2 rfl (by omega) _ k _ rfl HOa.out _ _ 1 _ _ rfl Ra.out (rcCells_one _) ?_ ?_ ?_ ?_
     ·simp only [maxLen]; omega
     ·omega
     ·exact hz3
     intro v5 w5 hown5 hg5 _
     have HO5 := Lib.hid hown5
     have HB5 := Lib.hid (below_own HBa.out HOa.out hg5 (Nat.le_refl _) hz3)
     clear hown5 hg5))
   go_roundw
   case rel =>
    refine ⟨k + 1, ⟨by omega, by go_num⟩, ?_, HB5.out⟩
    show World.ownsRow _ _ _ _ _ _ _
    rw [HTk.out, show ∀ a b : List Rc7, rcCells (a ++ b) = rcCells a ++ rcCells b from fun a b => by simp [rcCells]]
    exact HO5.out
   case measure => simp [intOf]; omega
  ·obtain rfl : k = n := by omega
   have hO := HO.out
   rw [List.take_of_length_le (by rw [HLen.out]; exact Nat.le_refl _)] at hO
   have HOf := Lib.hid hO
   clear hO
   go_wp2
   go_ret
   exact ⟨_, rfl, HOf.out, HB.out⟩
end Go.Proofs.Ytjggmimaolddkaa
namespace Go.Proofs.Ytjggmimaolddkaa
open Go.RowKit
set_option linter.unusedVariables false
theorem info_rw7 : (Try.prog.info? 85).map (fun i => (i.zero, i.size, i.bytes)) = some (some (.agg #[.int .i64 0, .int .i64 0, .int .i64 0, .int .i64 0, .int .u64 0, .slice none 0 0]), 6, 64) := by kernel_rfl
theorem rwCells_one {l : List Rw7} (hl : ∀ r ∈ l, r.Ok) : ∀ u ∈ rwCells l, u.oneCell' = true := by
 intro u hu
 obtain ⟨r, hr, hx⟩ := List.mem_flatMap.1 hu
 obtain ⟨A, n, c, e⟩ := (hl r hr).nv
 simp only [Rw7.cells, List.mem_cons, List.not_mem_nil, or_false] at hx
 rcases hx with rfl | rfl | rfl | rfl | rfl | rfl
 ·rfl
 ·rfl
 ·rfl
 ·rfl
 ·rfl
 ·rw [e]; rfl
set_option maxRecDepth 100000 in
set_option maxHeartbeats 4000000 in
theorem rows_any (l : List Rw7) (hl : ∀ r ∈ l, r.Ok) (A : Option Addr) (n c : Nat) (w : World) (hr : RdW7 w w.heap.size A n l) (hn : n ≤ 100000) :
 Calls Try.prog 13 #[.slice A n c] w fun e w' => ∃ v, e = .returned v ∧ w'.ownsRow w.heap.size 85 6 v n (rwCells l) ∧ Below w.heap.size w w' := by
 obtain ⟨i0, hi0, hz0, hz1, hz2⟩ := info_parts info_rw7
 have hlen := hr.rwLen
 have HR := Lib.hid hr
 have HLen := Lib.hid hlen
 have HOk := Lib.hid hl
 clear hr hlen hl
 go_enter Try.func13, Try.ntmps13
 have OWN0 : Hid ((w.alloc (.cells #[] 85)).ownsRow w.heap.size 85 6 (.slice (some ⟨w.heap.size, 0, none⟩) 0 0) 0 (rwCells [])) := World.ownsRow_made w #[] 0 (Nat.le_refl _) (by simp [maxLen]) rfl
 have HB0 : Hid (Below w.heap.size w (w.alloc (.cells #[] 85))) := (Below.refl _ _).alloc (Nat.le_refl _) _
 go_wp2
 go_loopw [3, 9] (fun ov i wr => ∃ k : Nat, (k ≤ n ∧ i = .int .i64 k) ∧ Hid (wr.ownsRow w.heap.size 85 6 ov k (rwCells (l.take k))) ∧ Hid (Below w.heap.size w wr)) (fun _ i _ => n - (intOf i).toNat)
 case atStart => exact ⟨0, ⟨by omega, rfl⟩, OWN0.out, HB0.out⟩
 case round =>
  obtain ⟨k, ⟨hk, rfl⟩, HO, HB⟩ := hrel
  obtain ⟨ov', co, rfl, hkc, _⟩ := Rd.of_own_cap HO.out
  by_cases hlt : k < n
  ·have hlti : (k : Int) < (n : Int) := by omega
   obtain ⟨b, o, r, rfl, hb, hrk, hc⟩ := (HR.out.below HB.out).rwAt hlt
   have HTk : Hid (l.take (k + 1) = l.take k ++ [r]) := by show _ = _; rw [List.take_add_one, hrk]; rfl
   have HRo := Lib.hid (HOk.out r (List.mem_of_getElem? hrk))
   obtain ⟨nA, nn, nc, hnv⟩ := HRo.out.nv
   obtain ⟨rat, rwho, rtag, rco, rva, rnv⟩ := r
   simp only at hnv
   subst hnv
   have d0 := hc 0 _ rfl
   have d1 := hc 1 _ rfl
   have d2 := hc 2 _ rfl
   have d3 := hc 3 _ rfl
   have d4 := hc 4 _ rfl
   have d5 := hc 5 _ rfl
   simp only [← Nat.add_assoc, Nat.add_zero] at d0 d1 d2 d3 d4 d5
   clear hc hrk
   go_upto_region 5 with fail
   obtain ⟨W1, hW1⟩ : ∃ W1, wr.alloc (.cells #[.int .i64 rat, .int .i64 rwho, .int .i64 rtag, .int .i64 rco, .int .u64 rva, .slice nA nn nc] 36) = W1 := ⟨_, rfl⟩
   rw [hW1]
   have HI1 : Hid (Bk W1 wr.heap.size 36 #[.int .i64 rat, .int .i64 rwho, .int .i64 rtag, .int .i64 rco, .int .u64 rva, .slice nA nn nc]) := by show Bk _ _ _ _; rw [← hW1]; exact Bk.new _ _ _
   have HO1 : Hid (W1.ownsRow w.heap.size 85 6 (.slice ov' k co) k (rwCells (l.take k))) := by show World.ownsRow _ _ _ _ _ _ _; rw [← hW1]; exact HO.out.alloc _
   have HB1 : Hid (Below w.heap.size w W1) := by show Below _ _ _; rw [← hW1]; exact HB.out.alloc HB.out.size _
   clear hW1 d0 d1 d2 d3 d4 d5
   have j0 := (HI1.out.cell 0).trans rfl
   have j1 := (HI1.out.cell 1).trans rfl
   have j2 := (HI1.out.cell 2).trans rfl
   have j3 := (HI1.out.cell 3).trans rfl
   have j4 := (HI1.out.cell 4).trans rfl
   have j5 := (HI1.out.cell 5).trans rfl
   have HOa := Lib.hid (HO1.out.alloc (.cells #[.int .i64 rat, .int .i64 rwho, .int .i64 rtag, .int .i64 rco, .int .u64 rva, .slice nA nn nc] 85))
   have HBa := Lib.hid (HB1.out.alloc HB1.out.size (.cells #[.int .i64 rat, .int .i64 rwho, .int .i64 rtag, .int .i64 rco, .int .u64 rva, .slice nA nn nc] 85))
   have hz3 := HBa.out.size
   have Ra : Hid (Rd (W1.alloc (.cells #[.int .i64 rat, .int .i64 rwho, .int .i64 rtag, .int .i64 rco, .int .u64 rva, .slice nA nn nc] 85)) (W1.heap.size + 1) 6 (some ⟨W1.heap.size, 0, none⟩) 1 (rwCells [⟨rat, rwho, rtag, rco, rva, .slice nA nn nc⟩])) := Rd.new W1 _ _ (size := 6) (m := 1) rfl (by simp [maxLen])
   have HOne : Hid (∀ u ∈ rwCells [(⟨rat, rwho, rtag, rco, rva, .slice nA nn nc⟩ : Rw7)], u.oneCell' = true) := rwCells_one (fun r hr => by simp at hr; subst hr; exact HRo.out)
   go_wp2_with (
    at_builtin
    go_must (
     refine wpList_app _ rfl (.tmp 13) (.tmp 15) 56 rfl w.heap.size 85 i0 _ 6 64 Try.underlying56 hi0 hz0 hz1 hz2 rfl (by omega) _ k _ rfl HOa.out _ _ 1 _ _ rfl Ra.out HOne.out ?_ ?_ ?_ ?_
     ·simp only [maxLen]; omega
     ·omega
     ·exact hz3
     intro v5 w5 hown5 hg5 _
     have HO5 := Lib.hid hown5
     have HB5 := Lib.hid (below_own HBa.out HOa.out hg5 (Nat.le_refl _) hz3)
     clear hown5 hg5))
   go_roundw
   case rel =>
    refine ⟨k + 1, ⟨by omega, by go_num⟩, ?_, HB5.out⟩
    show World.ownsRow _ _ _ _ _ _ _
    rw [HTk.out, show ∀ a b : List Rw7, rwCells (a ++ b) = rwCells a ++ rwCells b from fun a b => by simp [rwCells]]
    exact HO5.out
   case measure => simp [intOf]; omega
  ·obtain rfl : k = n := by omega
   have hO := HO.out
   rw [List.take_of_length_le (by rw [HLen.out]; exact Nat.le_refl _)] at hO
   have HOf := Lib.hid hO
   clear hO
   go_wp2
   go_ret
   exact ⟨_, rfl, HOf.out, HB.out⟩
end Go.Proofs.Ytjggmimaolddkaa
namespace Go.Proofs.Ytjggmimaolddkaa
open Go.RowKit
set_option linter.unusedVariables false
set_option linter.unusedSimpArgs false
theorem BX.boxed {s : MSt} {xs : List PBox} (h : BX s.blocks xs) : Boxed6 s xs := by
 refine ⟨?_, fun x => ?_, fun b hb => (h.is_ b.h b.words).2 hb⟩
 ·rw [List.pairwise_map]; exact h.up
 ·rw [List.mem_map]
  constructor
  ·rintro ⟨b, hb, rfl⟩
   exact ⟨(h.ok b hb).1, by rw [(h.is_ b.h b.words).2 hb]; rfl⟩
  ·rintro ⟨_, hs⟩
   obtain ⟨ws, hws⟩ := Option.isSome_iff_exists.1 hs
   exact ⟨_, (h.is_ x ws).1 hws, rfl⟩
set_option maxRecDepth 100000 in
set_option maxHeartbeats 16000000 in
theorem same17_any (B n sb mb : Nat) (s : MSt) (A : Option Addr) (bn bc : Nat) (xs : List PBox) (w : World) (h : StIn w B n sb mb s) (hn : n ≤ 1000000000) (hx : RdX w w.heap.size A bn xs) (hb : Boxed6 s xs) (hbn : bn ≤ 1000000) :
 Calls Try.prog 14 #[.pointer (some ⟨sb, 0, none⟩), .agg (u64s s.roots ++ [Value.slice A bn bc]).toArray] w fun e w' => e = .returned (.bool true) ∧ w.grownBy w' none := by
 obtain ⟨z0, z1, z2, z3, z4, z5, z6, z7, z8, z9, z10, z11, z12, z13, z14, z15, hz⟩ := sixteen h.roots
 have HS := Lib.hid h
 have HX := Lib.hid hx
 have HXl := Lib.hid hx.len
 have HB := Lib.hid hb
 have HZ := Lib.hid hz
 have hlt := h.st.lt
 rw [hz]
 simp only [u64s, List.map_cons, List.map_nil, List.cons_append, List.nil_append]
 clear h hx hb hz
 go_enter Try.func14, Try.ntmps14
 go_upto_region 1 with fail
 obtain ⟨W1, hW1⟩ : ∃ W1, w.alloc (.cells #[.int .u64 z0, .int .u64 z1, .int .u64 z2, .int .u64 z3, .int .u64 z4, .int .u64 z5, .int .u64 z6, .int .u64 z7, .int .u64 z8, .int .u64 z9, .int .u64 z10, .int .u64 z11, .int .u64 z12, .int .u64 z13, .int .u64 z14, .int .u64 z15, .slice A bn bc] 53) = W1 := ⟨_, rfl⟩
 have hx1 : Bk W1 w.heap.size 53 (u64s s.roots ++ [Value.slice A bn bc]).toArray := by rw [← hW1, HZ.out]; exact Bk.new _ _ _
 have hg1 : w.grownBy W1 none := by rw [← hW1]; exact World.grownBy_alloc _ _ _
 rw [hW1]
 have HX1 := Lib.hid hx1
 have HG1 := Lib.hid hg1
 have HBw := Lib.hid (show Below w.heap.size w W1 by rw [← hW1]; exact (Below.refl _ _).alloc (Nat.le_refl _) _)
 have HS1 := Lib.hid (HS.out.more hg1)
 obtain ⟨gx, hgx⟩ : ∃ gx, w.heap.size = gx := ⟨_, rfl⟩
 rw [hgx] at HX1 HX HBw hlt ⊢
 have HLt1 : Hid (gx < W1.heap.size) := HX1.out.lt
 have HGx := Lib.hid hgx
 clear hW1 hx1 hg1 hgx
 go_wp2
 go_loopw [10, 5] (fun i _a wr => ∃ q : Nat, (q ≤ 16 ∧ i = .int .i64 q) ∧ Hid (Below W1.heap.size W1 wr)) (fun i _ _ => 16 - (intOf i).toNat)
 case atStart => exact ⟨0, ⟨by omega, rfl⟩, Below.refl _ _⟩
 case round =>
  obtain ⟨q, ⟨hq, rfl⟩, HBq⟩ := hrel
  have HSq := Lib.hid (HS1.out.more (bk_grown_below HBq.out))
  have HXq := Lib.hid (HX1.out.below HBq.out HX1.out.lt)
  by_cases hlq : q < 16
  ·have hlqi : (q : Int) < 16 := by omega
   obtain ⟨v, hv⟩ : ∃ v, s.roots.getD q 0 = v := ⟨_, rfl⟩
   have hvc : wr.cell? ⟨gx, q, none⟩ = some (.int .u64 v) := by
    rw [HXq.out.cell, List.getElem?_toArray, List.getElem?_append_left (by simp [u64s, HSq.out.roots]; exact hlq), u64s, List.getElem?_map, ← hv, List.getD_eq_getElem?_getD, List.getElem?_eq_getElem (by rw [HSq.out.roots]; exact hlq)]
    rfl
   have hrt : rootAt s (q : Int) = v := by
    unfold rootAt
    rw [if_neg (by omega), ← hv]; simp
   have HRt := Lib.hid hrt
   have hvv : (v != v) = false := by simp
   clear hv hrt
   go_upto_region 4 with fail
   go_region_law (
    go_simp
    go_at_call 17
    refine (root_at _ _ _ _ s (q : Int) _ (HSq.out.more (grown_drew _ _))).mono ?_
    rintro e wn ⟨rfl, rfl⟩
    rw [HRt.out])
   all_goals
    go_wp2
    go_roundw
    case rel => exact ⟨q + 1, ⟨by omega, by go_num⟩, HBq.out.drew⟩
    case measure => simp [intOf]; omega
  ·obtain rfl : q = 16 := by omega
   obtain ⟨V, hV⟩ : ∃ V, wr = V := ⟨_, rfl⟩
   have HS2 := Lib.hid HSq.out
   have HX2 := Lib.hid HXq.out
   have HB2 : Hid (Below W1.heap.size W1 wr) := HBq.out
   rw [hV] at HS2 HX2 HB2 ⊢
   clear hV
   have x16 : V.cell? ⟨gx, 16, none⟩ = some (.slice A bn bc) := by rw [HX2.out.cell, HZ.out]; rfl
   have HBV := Lib.hid (HBw.out.trans (HB2.out.mono (Nat.le_of_lt HLt1.out)))
   go_wp2
   go_loopw [25, 7, 8, 9] (fun i _a _b _c wr => ∃ p : Nat, (p ≤ bn ∧ i = .int .i64 p) ∧ Hid (Below V.heap.size V wr)) (fun i _ _ _ _ => bn - (intOf i).toNat)
   case atStart => exact ⟨0, ⟨by omega, rfl⟩, Below.refl _ _⟩
   case round =>
    obtain ⟨p, ⟨hp, rfl⟩, HBp⟩ := hrel
    have HVz : Hid (V.heap.size ≤ wr.heap.size) := HBp.out.size
    have HBVp := Lib.hid (HBV.out.trans (HBp.out.mono (Nat.le_trans (Nat.le_of_lt HLt1.out) HB2.out.size)))
    by_cases hlp : p < bn
    ·have hlpi : (p : Int) < (bn : Int) := by omega
     obtain ⟨b, o, x, x0, x1, x2, x3, x4, x5, x6, x7, rfl, hbB, hxp, c0, d0, d1, d2, d3, d4, d5, d6, d7⟩ := (HX.out.below HBVp.out).at_ hlp
     have hux := (HX.out.ok _ (List.mem_of_getElem? hxp)).1
     have hsw := HB.out.word _ (List.mem_of_getElem? hxp)
     simp only at hux hsw
     have HUx := Lib.hid hux
     have HSw := Lib.hid hsw
     clear hxp hux hsw
     go_upto_region 10 with fail
     obtain ⟨W2, hW2⟩ : ∃ W2, wr.alloc (.cells #[.int .u64 x, .int .u64 x0, .int .u64 x1, .int .u64 x2, .int .u64 x3, .int .u64 x4, .int .u64 x5, .int .u64 x6, .int .u64 x7] 93) = W2 := ⟨_, rfl⟩
     have hk2 : Bk W2 wr.heap.size 93 #[.int .u64 x, .int .u64 x0, .int .u64 x1, .int .u64 x2, .int .u64 x3, .int .u64 x4, .int .u64 x5, .int .u64 x6, .int .u64 x7] := by rw [← hW2]; exact Bk.new _ _ _
     have hb2 : Below wr.heap.size wr W2 := by rw [← hW2]; exact (Below.refl _ _).alloc (Nat.le_refl _) _
     rw [hW2]
     have HK2 := Lib.hid hk2
     have HB22 := Lib.hid hb2
     have e0 : W2.cell? ⟨wr.heap.size, 0, none⟩ = some (.int .u64 x) := (hk2.cell 0).trans rfl
     have HS3 := Lib.hid (HS2.out.more (bk_grown_below (HBp.out.trans (hb2.mono HBp.out.size))))
     obtain ⟨gb, hgb⟩ : ∃ gb, wr.heap.size = gb := ⟨_, rfl⟩
     rw [hgb] at e0 HK2 ⊢
     clear hW2 hk2 hb2 c0 d0 d1 d2 d3 d4 d5 d6 d7
     go_wp2_with fail
     refine (block_any _ _ _ _ s x _ HS3.out HUx.out).mono ?_
     rintro e W3 ⟨rfl, hb3⟩
     have hbo : blockOf s x = [x0, x1, x2, x3, x4, x5, x6, x7] := by unfold blockOf; rw [HSw.out]; rfl
     rw [hbo, HSw.out]
     simp only [blkV, List.map_cons, List.map_nil, Option.isSome_some]
     have HK3 := Lib.hid (HK2.out.below hb3 HK2.out.lt)
     have HB3 := Lib.hid (HBp.out.trans ((HB22.out.trans (hb3.mono HB22.out.size)).mono HVz.out))
     clear hb3 hbo e0
     go_upto_region 11 with fail
     obtain ⟨W4, hW4⟩ : ∃ W4, W3.alloc (.cells #[.int .u64 x0, .int .u64 x1, .int .u64 x2, .int .u64 x3, .int .u64 x4, .int .u64 x5, .int .u64 x6, .int .u64 x7] 91) = W4 := ⟨_, rfl⟩
     have hk4 : Bk W4 W3.heap.size 91 #[.int .u64 x0, .int .u64 x1, .int .u64 x2, .int .u64 x3, .int .u64 x4, .int .u64 x5, .int .u64 x6, .int .u64 x7] := by rw [← hW4]; exact Bk.new _ _ _
     have hk5 : Bk W4 gb 93 #[.int .u64 x, .int .u64 x0, .int .u64 x1, .int .u64 x2, .int .u64 x3, .int .u64 x4, .int .u64 x5, .int .u64 x6, .int .u64 x7] := by rw [← hW4]; exact HK3.out.alloc _
     have hb4 : Below W3.heap.size W3 W4 := by rw [← hW4]; exact (Below.refl _ _).alloc (Nat.le_refl _) _
     rw [hW4]
     obtain ⟨gw, hgw⟩ : ∃ gw, W3.heap.size = gw := ⟨_, rfl⟩
     have HB4 := Lib.hid (HB3.out.trans (hb4.mono HB3.out.size))
     rw [hgw] at hk4 ⊢
     have f0 : W4.cell? ⟨gw, 0, none⟩ = some (.int .u64 x0) := (hk4.cell 0).trans rfl
     have f1 : W4.cell? ⟨gw, 1, none⟩ = some (.int .u64 x1) := (hk4.cell 1).trans rfl
     have f2 : W4.cell? ⟨gw, 2, none⟩ = some (.int .u64 x2) := (hk4.cell 2).trans rfl
     have f3 : W4.cell? ⟨gw, 3, none⟩ = some (.int .u64 x3) := (hk4.cell 3).trans rfl
     have f4 : W4.cell? ⟨gw, 4, none⟩ = some (.int .u64 x4) := (hk4.cell 4).trans rfl
     have f5 : W4.cell? ⟨gw, 5, none⟩ = some (.int .u64 x5) := (hk4.cell 5).trans rfl
     have f6 : W4.cell? ⟨gw, 6, none⟩ = some (.int .u64 x6) := (hk4.cell 6).trans rfl
     have f7 : W4.cell? ⟨gw, 7, none⟩ = some (.int .u64 x7) := (hk4.cell 7).trans rfl
     have h0 : W4.cell? ⟨gb, 0, none⟩ = some (.int .u64 x) := (hk5.cell 0).trans rfl
     have h1 : W4.cell? ⟨gb, 1, none⟩ = some (.int .u64 x0) := (hk5.cell 1).trans rfl
     have h2 : W4.cell? ⟨gb, 2, none⟩ = some (.int .u64 x1) := (hk5.cell 2).trans rfl
     have h3 : W4.cell? ⟨gb, 3, none⟩ = some (.int .u64 x2) := (hk5.cell 3).trans rfl
     have h4 : W4.cell? ⟨gb, 4, none⟩ = some (.int .u64 x3) := (hk5.cell 4).trans rfl
     have h5 : W4.cell? ⟨gb, 5, none⟩ = some (.int .u64 x4) := (hk5.cell 5).trans rfl
     have h6 : W4.cell? ⟨gb, 6, none⟩ = some (.int .u64 x5) := (hk5.cell 6).trans rfl
     have h7 : W4.cell? ⟨gb, 7, none⟩ = some (.int .u64 x6) := (hk5.cell 7).trans rfl
     have h8 : W4.cell? ⟨gb, 8, none⟩ = some (.int .u64 x7) := (hk5.cell 8).trans rfl
     obtain ⟨i24, hi24⟩ : ∃ i, Try.prog.info? 31 = some i := Option.isSome_iff_exists.1 (by kernel_rfl)
     have hc24 : Try.prog.cellsOf 31 = 1 := by kernel_rfl
     have hne := fun W => neq_u64s (P := Try.prog) W 8 91 31 Try.underlying91 Try.underlying31 hi24 hc24 [x0, x1, x2, x3, x4, x5, x6, x7] [x0, x1, x2, x3, x4, x5, x6, x7] rfl rfl
     simp only [List.map_cons, List.map_nil, decide_true, Bool.not_true] at hne
     have hm : Try.prog.eqGuardType Try.prog.depth 91 = false := by kernel_rfl
     clear hi24 hc24 hW4 hk4 hk5 hb4 hgw
     go_wp2
     go_roundw
     case rel => exact ⟨p + 1, ⟨by omega, by go_num⟩, HB4.out⟩
     case measure => simp [intOf]; omega
    ·obtain rfl : bn = p := by omega
     have HXp := Lib.hid (HX2.out.below HBp.out HX2.out.lt)
     have HSp := Lib.hid (HS2.out.more (bk_grown_below HBp.out))
     have y16 : wr.cell? ⟨gx, 16, none⟩ = some (.slice A bn bc) := by rw [HXp.out.cell, HZ.out]; rfl
     have HLn : Hid (∀ ss, KeysOf s.blocks ss → ss.length = bn) := fun ss hk => by
      have hp : ss.Perm (xs.map PBox.h) := by
       have hnd : (xs.map PBox.h).Nodup := HB.out.rise.imp fun h => Int.ne_of_lt h
       exact (List.perm_ext_iff_of_nodup hk.1 hnd).2 fun x => (hk.2 x).trans (HB.out.all x).symm
      rw [hp.length_eq, List.length_map, HXl.out]
     go_upto_region 14 with fail
     refine wp_region_held_drew (S := (fun w' => w'.cell? ⟨gx, 16, none⟩ = some (.slice A bn bc))) (by kernel_rfl) ?_ (fun hHeld => ?_)
     ·exact y16
     refine takeA 0 ?_
     try simp only [Act.put, pS]
     refine takeA 3 ?_
     try simp only [Act.put, pS]
     refine takeA 4 ?_
     try simp only [Act.put, pS]
     refine takeA 5 ?_
     try simp only [Act.put, pS]
     refine comeH 1 rfl rfl rfl rfl (by kernel_rfl) (by rfl) (fun K hK => ?_)
     go_simp
     refine (handles_many _ _ _ _ s _ (HSp.out.more (grown_drew _ _)) (by omega) (fun ss hk => by have e := HLn.out ss hk; omega)).mono ?_
     rintro e wf ⟨hv, ss, rfl, hks, hsort, hrow, hbf⟩
     obtain ⟨hA, hc, rfl, hrr⟩ := Rd.of_own hrow
     rw [HLn.out ss hks]
     have y16' : wf.cell? ⟨gx, 16, none⟩ = some (.slice A bn bc) := (hbf.cell (p := ⟨gx, 16, none⟩) HXp.out.lt).trans y16
     have HBf := Lib.hid (HBVp.out.drew.trans (hbf.mono (show gx ≤ wr.drew.heap.size from Nat.le_of_lt HXp.out.lt)))
     clear hks hsort hrow hrr hbf
     go_simp
     refine hK.out _ _ ?_ (fun hHeld => ?_)
     ·exact y16'
     clear hK K
     try simp only [Act.put, pS]
     refine takeA 2 ?_
     try simp only [Act.put, pS]
     refine takeA 6 ?_
     try simp only [Act.put, pS]
     refine takeA 7 ?_
     try simp only [Act.put, pS]
     refine wpAnyH_done (by kernel_rfl) ?_ _
     try simp only [Act.put, pS]
     clear hHeld
     go_wp2
     go_ret
     exact ⟨rfl, bk_grown_below (by rw [HGx.out]; exact HBf.out)⟩
end Go.Proofs.Ytjggmimaolddkaa
