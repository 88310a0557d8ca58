import Derived.Test.YtjggmimaolddkaaOrAX
import Derived.Laws.MakeOwn
import Derived.Test.YtjggmimaolddkaaOrAR
namespace Go.Proofs.Ytjggmimaolddkaa
open Go.RowKit
set_option linter.unusedVariables false
theorem o_info_int : (Try.prog.info? 3).map (fun i => (i.zero, i.size, i.bytes)) = some (some (.int .i64 0), 1, 8) := by kernel_rfl
theorem make_two (w : World) : (Instr.makeSlice 101 (.int .i64 2) (.int .i64 2)).run Try.prog w = .ok (.slice (some ⟨w.heap.size, 0, none⟩) 2 2) (w.alloc (.cells #[.int .i64 0, .int .i64 0] 3)) := by
 obtain ⟨i0, hi0, hz0, hz1, hz2⟩ := info_parts o_info_int
 have h := run_make (P := Try.prog) w 101 3 i0 _ Try.underlying101 hi0 hz0 .i64 .i64 2 2 (by omega) (Int.le_refl _) (by rw [hz2]; omega) (by omega)
 rw [hz1, show madeCells (Value.int .i64 0).cells (Int.toNat 2 * 1) = #[.int .i64 0, .int .i64 0] by kernel_rfl] at h
 exact h
theorem HPk_code {ps : List (List Ins)} (h : ∀ p ∈ ps, ∀ i ∈ p, i.Ok ∧ i.op ≠ 15) (k : Int) : ∀ i ∈ codeP ps k, i.Ok ∧ i.op ≠ 15 := by
 unfold codeP
 split
 ·intro i hi; simp at hi
 ·rw [List.getD_eq_getElem?_getD]
  cases hk : ps[k.toNat]? with
  | none => intro i hi; simp at hi
  | some q => exact h q (List.mem_of_getElem? hk)
set_option maxRecDepth 100000 in
set_option maxHeartbeats 8000000 in
theorem sexists_any (c : Cfg) (ps : List (List Ins)) (recs : List Rc7) (A0 : Option Addr) (n0 c0 : Nat) (A1 : Option Addr) (c1 : Nat) (w : World)
 (hp : ProgsIn w w.heap.size A0 n0 ps) (hr : RdR w w.heap.size A1 2 recs) (hpk : ∀ p ∈ ps, ∀ i ∈ p, i.Ok ∧ i.op ≠ 15) (hrk : ∀ q ∈ recs, q.Ok ∧ q.code ≠ 45) (hcR : c.Right) :
 Calls Try.prog 16 #[c.v, .slice A0 n0 c0, .slice A1 2 c1] w fun e w' => e = .returned (.tuple #[.bool (fromP c ps recs 2 emptyS [0, 0]), .int .i64 0]) ∧ Below w.heap.size w w' := by
 have HP := Lib.hid hp
 have HR := Lib.hid hr
 have HPk := Lib.hid hpk
 have HRk := Lib.hid hrk
 have HRt := Lib.hid hcR
 clear hp hr hpk hrk hcR
 unfold Cfg.v
 have HC0 : Hid (Bk (w.alloc (.cells #[.int .i64 c.T, .int .i64 c.B, .int .i64 c.W, .int .i64 c.F, .int .u64 c.fi, .int .u64 c.la] 44)) w.heap.size 44 #[.int .i64 c.T, .int .i64 c.B, .int .i64 c.W, .int .i64 c.F, .int .u64 c.fi, .int .u64 c.la]) := Bk.new w _ _
 have HB0 : Hid (Below w.heap.size w (w.alloc (.cells #[.int .i64 c.T, .int .i64 c.B, .int .i64 c.W, .int .i64 c.F, .int .u64 c.fi, .int .u64 c.la] 44))) := (Below.refl _ _).alloc (Nat.le_refl _) _
 go_enter Try.func16, Try.ntmps16
 go_wp2
 go_loopw [18] (fun i wr => ∃ k : Nat, (k ≤ 2 ∧ i = .int .i64 k) ∧ Hid (Bk wr w.heap.size 44 #[.int .i64 c.T, .int .i64 c.B, .int .i64 c.W, .int .i64 c.F, .int .u64 c.fi, .int .u64 c.la]) ∧ Hid (Below w.heap.size w wr)) (fun i _ => 2 - (intOf i).toNat)
 case atStart => exact ⟨0, ⟨by omega, rfl⟩, HC0.out, HB0.out⟩
 case round =>
  obtain ⟨k, ⟨hk, rfl⟩, HC, HB⟩ := hrel
  by_cases hlt : k < 2
  ·have hlti : (k : Int) < 2 := by omega
   obtain ⟨b, o, r, hA, hb, hrk, hc⟩ := (HR.out.below HB.out).rcAt hlt
   subst hA
   obtain ⟨rw_, rt, rp, a0, a1, a2, a3, rf, rl, rs, rd, rc, rv⟩ := r
   have d0 := hc 0 _ rfl
   have d1 := hc 1 _ rfl
   have d2 := hc 2 _ rfl
   have d3 := hc 3 _ rfl
   have d4 := hc 4 _ rfl
   have d5 := hc 5 _ rfl
   have d6 := hc 6 _ rfl
   have d7 := hc 7 _ rfl
   have d8 := hc 8 _ rfl
   have d9 := hc 9 _ rfl
   have d10 := hc 10 _ rfl
   have d11 := hc 11 _ rfl
   have d12 := hc 12 _ rfl
   simp only [← Nat.add_assoc, Nat.add_zero] at d0 d1 d2 d3 d4 d5 d6 d7 d8 d9 d10 d11 d12
   clear hc hrk
   go_upto_region 6 with fail
   obtain ⟨W2, hW2⟩ : ∃ W2, wr.alloc (.cells #[.int .i64 rw_, .int .i64 rt, .int .i64 rp, .int .u64 a0, .int .u64 a1, .int .u64 a2, .int .u64 a3, .int .i64 rf, .int .i64 rl, .int .i64 rs, .bool rd, .int .i64 rc, .int .u64 rv] 41) = W2 := ⟨_, rfl⟩
   have HQ := Lib.hid (show Bk W2 wr.heap.size 41 #[.int .i64 rw_, .int .i64 rt, .int .i64 rp, .int .u64 a0, .int .u64 a1, .int .u64 a2, .int .u64 a3, .int .i64 rf, .int .i64 rl, .int .i64 rs, .bool rd, .int .i64 rc, .int .u64 rv] by rw [← hW2]; exact Bk.new _ _ _)
   have hb2 : Below wr.heap.size wr W2 := by rw [← hW2]; exact (Below.refl _ _).alloc (Nat.le_refl _) _
   have HC := Lib.hid (HC.out.below hb2 HC.out.lt)
   have HB := Lib.hid (HB.out.trans (hb2.mono HB.out.size))
   rw [hW2]
   obtain ⟨gq, hgq⟩ : ∃ gq, wr.heap.size = gq := ⟨_, rfl⟩
   rw [hgq] at HQ ⊢
   clear hW2 hb2 hgq d0 d1 d2 d3 d4 d5 d6 d7 d8 d9 d10 d11 d12
   have q2 : W2.cell? ⟨gq, 2, none⟩ = some (.int .i64 rp) := HQ.out.cell 2
   go_upto_region 7 with
    (go_at_call 23
     refine (ocode_any ps A0 n0 c0 rp _ ((HP.out.below HB.out).more HB.out.size)).mono ?_
     rintro e wz ⟨⟨cA, cc, rfl, hcr, hcl⟩, hwc⟩
     rw [hwc]
     have HCr := Lib.hid hcr
     clear hcr hcl hwc)
   have hcl := HCr.out.le
   unfold maxLen at hcl
   have HLn := Lib.hid HCr.out.insLen
   obtain ⟨L, hL⟩ : ∃ L, (codeP ps rp).length = L := ⟨_, rfl⟩
   rw [hL] at HCr hcl ⊢
   clear hL q2
   go_loopw [28] (fun i wq => ∃ z : Nat, (z ≤ L ∧ i = .int .i64 z) ∧ Hid (Bk wq w.heap.size 44 #[.int .i64 c.T, .int .i64 c.B, .int .i64 c.W, .int .i64 c.F, .int .u64 c.fi, .int .u64 c.la]) ∧ Hid (Below W2.heap.size W2 wq)) (fun i _ => L - (intOf i).toNat)
   case atStart => exact ⟨0, ⟨by omega, rfl⟩, HC.out, Below.refl _ _⟩
   case round =>
    obtain ⟨z, ⟨hz, rfl⟩, HCq, HBq⟩ := hrel
    by_cases hzl : z < L
    ·have hzli : (z : Int) < (L : Int) := by omega
     obtain ⟨ib, io, i, rfl, hib, hi, i0, i1, i2, i3, i4⟩ := (HCr.out.below HBq.out).insAt hzl
     have hop := (HPk_code HPk.out rp i (List.mem_of_getElem? hi)).2
     have eop : (i.op == 15) = false := beq_eq_false_iff_ne.2 hop
     have HCn := Lib.hid (HCq.out.alloc (.cells #[.int .i64 i.op, .int .i64 i.a, .int .i64 i.b, .int .i64 i.c, .int .u64 i.imm] 62))
     have HBn := Lib.hid (HBq.out.alloc HBq.out.size (.cells #[.int .i64 i.op, .int .i64 i.a, .int .i64 i.b, .int .i64 i.c, .int .u64 i.imm] 62))
     clear hi
     go_wp2
     go_roundw
     case rel => exact ⟨z + 1, ⟨by omega, by go_num⟩, HCn.out, HBn.out⟩
     case measure => simp [intOf]; omega
    ·obtain rfl : z = L := by omega
     have HBf := Lib.hid (HB.out.trans (HBq.out.mono HB.out.size))
     go_wp2
     go_roundw
     case rel => exact ⟨k + 1, ⟨by omega, by go_num⟩, HCq.out, HBf.out⟩
     case measure => simp [intOf]; omega
  ·obtain rfl : k = 2 := by omega
   have hmk := fun W => make_two W
   go_upto_region 13 with fail
   have j0 : wr.cell? ⟨w.heap.size, 0, none⟩ = some (.int .i64 c.T) := HC.out.cell 0
   have j1 : wr.cell? ⟨w.heap.size, 1, none⟩ = some (.int .i64 c.B) := HC.out.cell 1
   have j2 : wr.cell? ⟨w.heap.size, 2, none⟩ = some (.int .i64 c.W) := HC.out.cell 2
   have j3 : wr.cell? ⟨w.heap.size, 3, none⟩ = some (.int .i64 c.F) := HC.out.cell 3
   have j4 : wr.cell? ⟨w.heap.size, 4, none⟩ = some (.int .u64 c.fi) := HC.out.cell 4
   have j5 : wr.cell? ⟨w.heap.size, 5, none⟩ = some (.int .u64 c.la) := HC.out.cell 5
   refine wp_region_held_drew (S := (fun w' => w'.cell? ⟨w.heap.size, 0, none⟩ = some (.int .i64 c.T) ∧ w'.cell? ⟨w.heap.size, 1, none⟩ = some (.int .i64 c.B) ∧ w'.cell? ⟨w.heap.size, 2, none⟩ = some (.int .i64 c.W) ∧ w'.cell? ⟨w.heap.size, 3, none⟩ = some (.int .i64 c.F) ∧ w'.cell? ⟨w.heap.size, 4, none⟩ = some (.int .u64 c.fi) ∧ w'.cell? ⟨w.heap.size, 5, none⟩ = some (.int .u64 c.la))) (by kernel_rfl) ?_ (fun hHeld => ?_)
   ·exact ⟨j0, j1, j2, j3, j4, j5⟩
   refine takeA 0 ?_
   try simp only [Act.put, pS]
   refine takeA 1 ?_
   try simp only [Act.put, pS]
   refine takeA 2 ?_
   try simp only [Act.put, pS]
   refine takeA 3 ?_
   try simp only [Act.put, pS]
   refine takeA 4 ?_
   try simp only [Act.put, pS]
   refine comeH 5 rfl rfl rfl rfl (by kernel_rfl) (by rfl) (fun K hK => ?_)
   go_simp
   obtain ⟨W5, hW5⟩ : ∃ W5, (wr.alloc (.cells #[.int .i64 0, .int .i64 0] 3)).drew = W5 := ⟨_, rfl⟩
   have HPl := Lib.hid (show Bk W5 wr.heap.size 3 (pv [0, 0]) by rw [← hW5]; exact (Bk.new _ _ _).drew)
   have hb5 : Below wr.heap.size wr W5 := by rw [← hW5]; exact ((Below.refl _ _).alloc (Nat.le_refl _) _).drew
   have HGp := Lib.hid (show w.heap.size ≤ wr.heap.size from HB.out.size)
   have HC := Lib.hid (HC.out.below hb5 HC.out.lt)
   have HB := Lib.hid (HB.out.trans (hb5.mono HB.out.size))
   rw [hW5]
   obtain ⟨gp, hgp⟩ : ∃ gp, wr.heap.size = gp := ⟨_, rfl⟩
   rw [hgp] at HPl HGp ⊢
   clear hW5 hb5 hgp
   refine hK.out _ _ ?_ (fun hHeld => ?_)
   ·exact ⟨HC.out.cell 0, HC.out.cell 1, HC.out.cell 2, HC.out.cell 3, HC.out.cell 4, HC.out.cell 5⟩
   clear hK K
   try simp only [Act.put, pS]
   refine takeA 6 ?_
   try simp only [Act.put, pS]
   refine comeH 7 rfl rfl rfl rfl (by kernel_rfl) (by rfl) (fun K hK => ?_)
   go_simp
   obtain ⟨W6, hW6⟩ : ∃ W6, W5.alloc (.cells #[.int .i64 c.T, .int .i64 c.B, .int .i64 c.W, .int .i64 c.F, .int .u64 c.fi, .int .u64 c.la, .slice A0 n0 c0, .slice A1 2 c1, .slice (some ⟨gp, 0, none⟩) 2 2] 103) = W6 := ⟨_, rfl⟩
   have HX := Lib.hid (show Bk W6 W5.heap.size 103 #[.int .i64 c.T, .int .i64 c.B, .int .i64 c.W, .int .i64 c.F, .int .u64 c.fi, .int .u64 c.la, .slice A0 n0 c0, .slice A1 2 c1, .slice (some ⟨gp, 0, none⟩) 2 2] by rw [← hW6]; exact Bk.new _ _ _)
   have hb6 : Below W5.heap.size W5 W6 := by rw [← hW6]; exact (Below.refl _ _).alloc (Nat.le_refl _) _
   have HGx := Lib.hid (show w.heap.size ≤ W5.heap.size ∧ W5.heap.size ≠ gp from ⟨HB.out.size, (Nat.ne_of_lt HPl.out.lt).symm⟩)
   have HC := Lib.hid (HC.out.below hb6 HC.out.lt)
   have HPl := Lib.hid (HPl.out.below hb6 HPl.out.lt)
   have HB := Lib.hid (HB.out.trans (hb6.mono HB.out.size))
   rw [hW6]
   obtain ⟨gx, hgx⟩ : ∃ gx, W5.heap.size = gx := ⟨_, rfl⟩
   rw [hgx] at HX HGx ⊢
   clear hW6 hb6 hgx
   refine hK.out _ _ ?_ (fun hHeld => ?_)
   ·exact ⟨HC.out.cell 0, HC.out.cell 1, HC.out.cell 2, HC.out.cell 3, HC.out.cell 4, HC.out.cell 5⟩
   clear hK K
   try simp only [Act.put, pS]
   refine takeA 8 ?_
   try simp only [Act.put, pS]
   refine wpAnyH_done (by kernel_rfl) ?_ _
   try simp only [Act.put, pS]
   have HSR : Hid (SrIn W6 w.heap.size gx gp c A0 n0 c0 A1 2 c1 ps recs [0, 0]) := ⟨HX.out, HPl.out, rfl, HR.out.below HB.out, HP.out.below HB.out, HGx.out.1, HGp.out, HGx.out.2⟩
   go_wp2_with (first
    | (go_at_call 20
       refine (mnew_any _).mono ?_
       rintro e W7 ⟨sb, mb, rfl, hst, hb7⟩
       have HSR := Lib.hid (HSR.out.below hb7)
       have HSb := Lib.hid (show sb ≠ gp from (Nat.ne_of_lt (Nat.lt_of_lt_of_le HPl.out.lt hst.bs)).symm)
       have HSt := Lib.hid hst
       have HB := Lib.hid (HB.out.trans (hb7.mono HB.out.size))
       clear hst hb7)
    | (go_at_call 31
       refine (sfrom_any (fun p hp i hi => (HPk.out p hp i hi).1) HRk.out HRt.out 2 [0, 0] emptyS _ 0 sb mb _ HSR.out HSt.out oempty_ok (by decide) (by omega) HSb.out).mono ?_
       rintro e W8 ⟨rfl, hg8, _⟩
       have HB := Lib.hid (HB.out.grown hg8 HB.out.size (fun r e => by cases e; exact HGp.out))
       clear hg8))
   go_ret2
   exact ⟨rfl, HB.out⟩
end Go.Proofs.Ytjggmimaolddkaa
