import Derived.Test.YtjggmimaolddkaaOrAV
import Derived.Test.YtjggmimaolddkaaOrAR
namespace Go.Proofs.Ytjggmimaolddkaa
open Go.RowKit
set_option linter.unusedVariables false
theorem mayP_no {recs : List Rc7} {pl : List Int} {k j : Nat} {q r : Rc7} (hq : recs[k]? = some q) (h : recs[j]? = some r) (h1 : j ≠ k) (h2 : pl.getD j 0 = 0) (h3 : r.done = true) (h4 : r.till < q.from_) : mayP recs pl k = false := by
 unfold mayP
 rw [hq]
 show ((List.range recs.length).all (mayRow recs pl k q.from_) && (pl.getD k 0 == 0)) = false
 have : (List.range recs.length).all (mayRow recs pl k q.from_) = false := by
  rw [List.all_eq_false]
  refine ⟨j, List.mem_range.2 (List.getElem?_eq_some_iff.1 h).1, ?_⟩
  unfold mayRow
  rw [h]
  simp only [h3, h2, decide_eq_true h1, decide_eq_true h4]
  decide
 rw [this]; rfl
theorem mayP_yes {recs : List Rc7} {pl : List Int} {k : Nat} {q : Rc7} (hq : recs[k]? = some q) (h : ∀ j r, recs[j]? = some r → ¬ (j ≠ k ∧ pl.getD j 0 = 0 ∧ r.done = true ∧ r.till < q.from_)) : mayP recs pl k = (pl.getD k 0 == 0) := by
 unfold mayP
 rw [hq]
 show ((List.range recs.length).all (mayRow recs pl k q.from_) && (pl.getD k 0 == 0)) = _
 have : (List.range recs.length).all (mayRow recs pl k q.from_) = true := by
  rw [List.all_eq_true]
  intro j hj
  unfold mayRow
  cases hr : recs[j]? with
  | none => rfl
  | some r =>
    have h2 := h j r hr
    show (!(decide (j ≠ k) && (pl.getD j 0 == 0) && r.done && decide (r.till < q.from_))) = true
    by_cases c1 : j ≠ k
    ·by_cases c2 : pl.getD j 0 = 0
     ·cases c3 : r.done
      ·simp
      ·by_cases c4 : r.till < q.from_
       ·exact absurd ⟨c1, c2, c3, c4⟩ h2
       ·rw [decide_eq_false c4]; simp
     ·rw [beq_eq_false_iff_ne.2 c2]; simp
    ·rw [decide_eq_false c1]; rfl
 rw [this, Bool.true_and]
set_option maxRecDepth 100000 in
set_option maxHeartbeats 8000000 in
theorem smay_any {B0 gx gp n0 c0 n1 c1 : Nat} {c : Cfg} {A0 A1 : Option Addr} {ps : List (List Ins)} {recs : List Rc7} {pl : List Int} {w : World} (h : SrIn w B0 gx gp c A0 n0 c0 A1 n1 c1 ps recs pl) (k : Nat) (hk : k < n1) :
 Calls Try.prog 44 #[.pointer (some ⟨gx, 0, none⟩), .int .i64 k] w fun e w' => e = .returned (.bool (mayP recs pl k)) ∧ Below w.heap.size w w' := by
 have hn := h.rr.le
 have HS := Lib.hid h
 have HLen := Lib.hid h.rcLen
 unfold maxLen at hn
 have k7 : w.cell? ⟨gx, 7, none⟩ = some (.slice A1 n1 c1) := h.x.cell 7
 obtain ⟨q, hq⟩ : ∃ q, recs[k]? = some q := ⟨_, List.getElem?_eq_getElem (by rw [HLen.out]; exact hk)⟩
 have HQk := Lib.hid hq
 clear h hq
 go_enter Try.func44, Try.ntmps44
 go_wp2
 go_loopw [12] (fun i wr => ∃ j : Nat, (j ≤ n1 ∧ i = .int .i64 j) ∧ Hid (∀ z r, z < j → recs[z]? = some r → ¬ (z ≠ k ∧ pl.getD z 0 = 0 ∧ r.done = true ∧ r.till < q.from_)) ∧ Hid (Below w.heap.size w wr)) (fun i _ => n1 - (intOf i).toNat)
 case atStart => exact ⟨0, ⟨by omega, rfl⟩, fun z r hz => absurd hz (Nat.not_lt_zero _), Below.refl _ _⟩
 case round =>
  obtain ⟨j, ⟨hj, rfl⟩, HG, HB⟩ := hrel
  by_cases hlt : j < n1
  case neg =>
   obtain rfl : j = n1 := by omega
   have HSr := Lib.hid (HS.out.below HB.out)
   have hpk := HSr.out.at_ hk
   have kp : wr.cell? ⟨gx, 8, none⟩ = some (.slice (some ⟨gp, 0, none⟩) j j) := HSr.out.x.cell 8
   obtain ⟨y, hy⟩ : ∃ y, pl.getD k 0 = y := ⟨_, rfl⟩
   rw [hy] at hpk
   have HE : Hid (mayP recs pl k = (y == 0)) := by
    show _ = _
    rw [← hy]
    exact mayP_yes HQk.out fun z r hr => HG.out z r (by have := (List.getElem?_eq_some_iff.1 hr).1; rw [HLen.out] at this; exact this) hr
   have hki : (k : Int) < (j : Int) := by omega
   clear hy
   go_wp2
   go_ret
   exact ⟨ret_bool HE.out.symm, HB.out⟩
  have hlti : (j : Int) < (n1 : Int) := by omega
  have hki : (k : Int) < (n1 : Int) := by omega
  have HSr := Lib.hid (HS.out.below HB.out)
  obtain ⟨b, o, r, hA, hb, hrk, hc⟩ := HSr.out.rr.rcAt hlt
  obtain ⟨b', o', q', hA', _, hqk, hcq⟩ := HSr.out.rr.rcAt hk
  subst hA
  injection hA' with hA'
  injection hA' with e1 e2 _
  subst e1 e2
  obtain rfl : q = q' := by rw [HQk.out] at hqk; injection hqk
  have HRk := Lib.hid hrk
  obtain ⟨y, hy⟩ : ∃ y, pl.getD j 0 = y := ⟨_, rfl⟩
  have HY := Lib.hid hy
  obtain ⟨qf, hqf⟩ : ∃ qf, q.from_ = qf := ⟨_, rfl⟩
  have HQf := Lib.hid hqf
  have hc7 : wr.cell? ⟨b, o + (k * 13 + 7), none⟩ = some (.int .i64 qf) := by rw [← hqf]; exact hcq 7 _ rfl
  have HC7 := Lib.hid hc7
  obtain ⟨rw_, rt, rp, x0, x1, x2, x3, rf, rl, rs, rd, rc, rv⟩ := r
  have d0 := hc 0 _ rfl
  have d1 := hc 1 _ rfl
  have d2 := hc 2 _ rfl
  have d3 := hc 3 _ rfl
  have d4 := hc 4 _ rfl
  have d5 := hc 5 _ rfl
  have d6 := hc 6 _ rfl
  have d7 := hc 7 _ rfl
  have d8 := hc 8 _ rfl
  have d9 := hc 9 _ rfl
  have d10 := hc 10 _ rfl
  have d11 := hc 11 _ rfl
  have d12 := hc 12 _ rfl
  simp only [← Nat.add_assoc, Nat.add_zero] at d0 d1 d2 d3 d4 d5 d6 d7 d8 d9 d10 d11 d12
  clear hc hcq hrk hy hqf hc7 hqk
  go_upto_region 4 with fail
  obtain ⟨W1, hW1⟩ : ∃ W1, wr.alloc (.cells #[.int .i64 rw_, .int .i64 rt, .int .i64 rp, .int .u64 x0, .int .u64 x1, .int .u64 x2, .int .u64 x3, .int .i64 rf, .int .i64 rl, .int .i64 rs, .bool rd, .int .i64 rc, .int .u64 rv] 41) = W1 := ⟨_, rfl⟩
  have HQ := Lib.hid (show Bk W1 wr.heap.size 41 #[.int .i64 rw_, .int .i64 rt, .int .i64 rp, .int .u64 x0, .int .u64 x1, .int .u64 x2, .int .u64 x3, .int .i64 rf, .int .i64 rl, .int .i64 rs, .bool rd, .int .i64 rc, .int .u64 rv] by rw [← hW1]; exact Bk.new _ _ _)
  have hb1 : Below wr.heap.size wr W1 := by rw [← hW1]; exact (Below.refl _ _).alloc (Nat.le_refl _) _
  have HS1 := Lib.hid (HSr.out.below hb1)
  have HB1 := Lib.hid (HB.out.trans (hb1.mono HB.out.size))
  have hbr : b < wr.heap.size := Nat.lt_of_lt_of_le hb HSr.out.size
  have c7 : W1.cell? ⟨b, o + k * 13 + 7, none⟩ = some (.int .i64 qf) := by rw [Nat.add_assoc]; exact (hb1.cell (p := ⟨b, o + (k * 13 + 7), none⟩) hbr).trans HC7.out
  rw [hW1]
  obtain ⟨gq, hgq⟩ : ∃ gq, wr.heap.size = gq := ⟨_, rfl⟩
  rw [hgq] at HQ ⊢
  clear hW1 hb1 d0 d1 d2 d3 d4 d5 d6 d7 d8 d9 d10 d11 d12 hbr hgq
  have q10 : W1.cell? ⟨gq, 10, none⟩ = some (.bool rd) := HQ.out.cell 10
  have q8 : W1.cell? ⟨gq, 8, none⟩ = some (.int .i64 rl) := HQ.out.cell 8
  have kp : W1.cell? ⟨gx, 8, none⟩ = some (.slice (some ⟨gp, 0, none⟩) n1 n1) := HS1.out.x.cell 8
  have kr : W1.cell? ⟨gx, 7, none⟩ = some (.slice (some ⟨b, o, none⟩) n1 c1) := HS1.out.x.cell 7
  have hpk := HS1.out.at_ hlt
  rw [HY.out] at hpk
  have HG2 : Hid (¬ (j ≠ k ∧ y = 0 ∧ rd = true ∧ rl < qf) → ∀ z r, z < j + 1 → recs[z]? = some r → ¬ (z ≠ k ∧ pl.getD z 0 = 0 ∧ r.done = true ∧ r.till < q.from_)) := fun hn z r hz hr => by
   rcases Nat.lt_or_ge z j with h | h
   ·exact HG.out z r h hr
   ·obtain rfl : z = j := by omega
    rw [HRk.out] at hr
    injection hr with hr
    subst hr
    rw [HY.out, HQf.out]
    exact hn
  by_cases hjk : j = k
  ·have ejk : ((j : Int) == (k : Int)) = true := beq_iff_eq.2 (by omega)
   have ejk2 : ((j : Int) != (k : Int)) = false := by rw [bne, ejk]; rfl
   refine wp_region_held_drew (S := (fun w' => w'.cell? ⟨gq, 10, none⟩ = some (.bool rd) ∧ w'.cell? ⟨gq, 8, none⟩ = some (.int .i64 rl) ∧ w'.cell? ⟨gx, 8, none⟩ = some (.slice (some ⟨gp, 0, none⟩) n1 n1) ∧ w'.cell? ⟨gx, 7, none⟩ = some (.slice (some ⟨b, o, none⟩) n1 c1) ∧ w'.cell? ⟨gp, j, none⟩ = some (.int .i64 y) ∧ w'.cell? ⟨b, o + k * 13 + 7, none⟩ = some (.int .i64 qf))) (by kernel_rfl) ?_ (fun hHeld => ?_)
   ·exact ⟨q10, q8, kp, kr, hpk, c7⟩
   refine takeA 0 ?_
   try simp only [Act.put, pS]
   refine takeA 1 ?_
   try simp only [Act.put, pS]
   refine takeA 2 ?_
   try simp only [Act.put, pS]
   refine takeA 3 ?_
   try simp only [Act.put, pS]
   refine skipA 4 ?_
   try simp only [Act.put, pS]
   refine skipA 5 ?_
   try simp only [Act.put, pS]
   refine skipA 6 ?_
   try simp only [Act.put, pS]
   refine skipA 7 ?_
   try simp only [Act.put, pS]
   refine skipA 8 ?_
   try simp only [Act.put, pS]
   refine skipA 9 ?_
   try simp only [Act.put, pS]
   refine skipA 10 ?_
   try simp only [Act.put, pS]
   refine skipA 11 ?_
   try simp only [Act.put, pS]
   refine takeA 12 ?_
   try simp only [Act.put, pS]
   refine takeA 13 ?_
   try simp only [Act.put, pS]
   refine skipA 14 ?_
   try simp only [Act.put, pS]
   refine skipA 15 ?_
   try simp only [Act.put, pS]
   refine takeA 16 ?_
   try simp only [Act.put, pS]
   refine takeA 17 ?_
   try simp only [Act.put, pS]
   refine skipA 18 ?_
   try simp only [Act.put, pS]
   refine skipA 19 ?_
   try simp only [Act.put, pS]
   refine skipA 20 ?_
   try simp only [Act.put, pS]
   refine skipA 21 ?_
   try simp only [Act.put, pS]
   refine skipA 22 ?_
   try simp only [Act.put, pS]
   refine skipA 23 ?_
   try simp only [Act.put, pS]
   refine skipA 24 ?_
   try simp only [Act.put, pS]
   refine skipA 25 ?_
   try simp only [Act.put, pS]
   refine skipA 26 ?_
   try simp only [Act.put, pS]
   refine skipA 27 ?_
   try simp only [Act.put, pS]
   refine skipA 28 ?_
   try simp only [Act.put, pS]
   refine takeA 29 ?_
   try simp only [Act.put, pS]
   refine wpAnyH_done (by kernel_rfl) ?_ _
   try simp only [Act.put, pS]
   have HG3 := Lib.hid (HG2.out (fun h => h.1 hjk))
   go_wp2
   go_roundw
   case rel => exact ⟨j + 1, ⟨by omega, by go_num⟩, HG3.out, HB1.out.drew⟩
   case measure => simp [intOf]; omega
  have ejk : ((j : Int) == (k : Int)) = false := beq_eq_false_iff_ne.2 (by omega)
  have ejk2 : ((j : Int) != (k : Int)) = true := bne_iff_ne.2 (by omega)
  by_cases hy0 : y = 0
  case neg =>
   have ey : (y == 0) = false := beq_eq_false_iff_ne.2 hy0
   refine wp_region_held_drew (S := (fun w' => w'.cell? ⟨gq, 10, none⟩ = some (.bool rd) ∧ w'.cell? ⟨gq, 8, none⟩ = some (.int .i64 rl) ∧ w'.cell? ⟨gx, 8, none⟩ = some (.slice (some ⟨gp, 0, none⟩) n1 n1) ∧ w'.cell? ⟨gx, 7, none⟩ = some (.slice (some ⟨b, o, none⟩) n1 c1) ∧ w'.cell? ⟨gp, j, none⟩ = some (.int .i64 y) ∧ w'.cell? ⟨b, o + k * 13 + 7, none⟩ = some (.int .i64 qf))) (by kernel_rfl) ?_ (fun hHeld => ?_)
   ·exact ⟨q10, q8, kp, kr, hpk, c7⟩
   refine takeA 0 ?_
   try simp only [Act.put, pS]
   refine takeA 1 ?_
   try simp only [Act.put, pS]
   refine takeA 2 ?_
   try simp only [Act.put, pS]
   refine takeA 3 ?_
   try simp only [Act.put, pS]
   refine takeA 4 ?_
   try simp only [Act.put, pS]
   refine takeA 5 ?_
   try simp only [Act.put, pS]
   refine takeA 6 ?_
   try simp only [Act.put, pS]
   refine takeA 7 ?_
   try simp only [Act.put, pS]
   refine takeA 8 ?_
   try simp only [Act.put, pS]
   refine takeA 9 ?_
   try simp only [Act.put, pS]
   refine takeA 10 ?_
   try simp only [Act.put, pS]
   refine takeA 11 ?_
   try simp only [Act.put, pS]
   refine takeA 12 ?_
   try simp only [Act.put, pS]
   refine takeA 13 ?_
   try simp only [Act.put, pS]
   refine skipA 14 ?_
   try simp only [Act.put, pS]
   refine skipA 15 ?_
   try simp only [Act.put, pS]
   refine takeA 16 ?_
   try simp only [Act.put, pS]
   refine takeA 17 ?_
   try simp only [Act.put, pS]
   refine skipA 18 ?_
   try simp only [Act.put, pS]
   refine skipA 19 ?_
   try simp only [Act.put, pS]
   refine skipA 20 ?_
   try simp only [Act.put, pS]
   refine skipA 21 ?_
   try simp only [Act.put, pS]
   refine skipA 22 ?_
   try simp only [Act.put, pS]
   refine skipA 23 ?_
   try simp only [Act.put, pS]
   refine skipA 24 ?_
   try simp only [Act.put, pS]
   refine skipA 25 ?_
   try simp only [Act.put, pS]
   refine skipA 26 ?_
   try simp only [Act.put, pS]
   refine skipA 27 ?_
   try simp only [Act.put, pS]
   refine skipA 28 ?_
   try simp only [Act.put, pS]
   refine takeA 29 ?_
   try simp only [Act.put, pS]
   refine wpAnyH_done (by kernel_rfl) ?_ _
   try simp only [Act.put, pS]
   have HG3 := Lib.hid (HG2.out (fun h => hy0 h.2.1))
   go_wp2
   go_roundw
   case rel => exact ⟨j + 1, ⟨by omega, by go_num⟩, HG3.out, HB1.out.drew⟩
   case measure => simp [intOf]; omega
  have ey : (y == 0) = true := beq_iff_eq.2 hy0
  cases rd
  ·have Hrd : Hid True := trivial
   refine wp_region_held_drew (S := (fun w' => w'.cell? ⟨gq, 10, none⟩ = some (.bool false) ∧ w'.cell? ⟨gq, 8, none⟩ = some (.int .i64 rl) ∧ w'.cell? ⟨gx, 8, none⟩ = some (.slice (some ⟨gp, 0, none⟩) n1 n1) ∧ w'.cell? ⟨gx, 7, none⟩ = some (.slice (some ⟨b, o, none⟩) n1 c1) ∧ w'.cell? ⟨gp, j, none⟩ = some (.int .i64 y) ∧ w'.cell? ⟨b, o + k * 13 + 7, none⟩ = some (.int .i64 qf))) (by kernel_rfl) ?_ (fun hHeld => ?_)
   ·exact ⟨q10, q8, kp, kr, hpk, c7⟩
   refine takeA 0 ?_
   try simp only [Act.put, pS]
   refine takeA 1 ?_
   try simp only [Act.put, pS]
   refine takeA 2 ?_
   try simp only [Act.put, pS]
   refine takeA 3 ?_
   try simp only [Act.put, pS]
   refine takeA 4 ?_
   try simp only [Act.put, pS]
   refine takeA 5 ?_
   try simp only [Act.put, pS]
   refine takeA 6 ?_
   try simp only [Act.put, pS]
   refine takeA 7 ?_
   try simp only [Act.put, pS]
   refine takeA 8 ?_
   try simp only [Act.put, pS]
   refine takeA 9 ?_
   try simp only [Act.put, pS]
   refine takeA 10 ?_
   try simp only [Act.put, pS]
   refine takeA 11 ?_
   try simp only [Act.put, pS]
   refine takeA 12 ?_
   try simp only [Act.put, pS]
   refine takeA 13 ?_
   try simp only [Act.put, pS]
   refine takeA 14 ?_
   try simp only [Act.put, pS]
   refine takeA 15 ?_
   try simp only [Act.put, pS]
   refine takeA 16 ?_
   try simp only [Act.put, pS]
   refine takeA 17 ?_
   try simp only [Act.put, pS]
   refine skipA 18 ?_
   try simp only [Act.put, pS]
   refine skipA 19 ?_
   try simp only [Act.put, pS]
   refine skipA 20 ?_
   try simp only [Act.put, pS]
   refine skipA 21 ?_
   try simp only [Act.put, pS]
   refine skipA 22 ?_
   try simp only [Act.put, pS]
   refine skipA 23 ?_
   try simp only [Act.put, pS]
   refine skipA 24 ?_
   try simp only [Act.put, pS]
   refine skipA 25 ?_
   try simp only [Act.put, pS]
   refine skipA 26 ?_
   try simp only [Act.put, pS]
   refine skipA 27 ?_
   try simp only [Act.put, pS]
   refine skipA 28 ?_
   try simp only [Act.put, pS]
   refine takeA 29 ?_
   try simp only [Act.put, pS]
   refine wpAnyH_done (by kernel_rfl) ?_ _
   try simp only [Act.put, pS]
   have HG3 := Lib.hid (HG2.out (fun h => by simp at h))
   go_wp2
   go_roundw
   case rel => exact ⟨j + 1, ⟨by omega, by go_num⟩, HG3.out, HB1.out.drew⟩
   case measure => simp [intOf]; omega
  ·have Hrd : Hid True := trivial
   refine wp_region_held_drew (S := (fun w' => w'.cell? ⟨gq, 10, none⟩ = some (.bool true) ∧ w'.cell? ⟨gq, 8, none⟩ = some (.int .i64 rl) ∧ w'.cell? ⟨gx, 8, none⟩ = some (.slice (some ⟨gp, 0, none⟩) n1 n1) ∧ w'.cell? ⟨gx, 7, none⟩ = some (.slice (some ⟨b, o, none⟩) n1 c1) ∧ w'.cell? ⟨gp, j, none⟩ = some (.int .i64 y) ∧ w'.cell? ⟨b, o + k * 13 + 7, none⟩ = some (.int .i64 qf))) (by kernel_rfl) ?_ (fun hHeld => ?_)
   ·exact ⟨q10, q8, kp, kr, hpk, c7⟩
   refine takeA 0 ?_
   try simp only [Act.put, pS]
   refine takeA 1 ?_
   try simp only [Act.put, pS]
   refine takeA 2 ?_
   try simp only [Act.put, pS]
   refine takeA 3 ?_
   try simp only [Act.put, pS]
   refine takeA 4 ?_
   try simp only [Act.put, pS]
   refine takeA 5 ?_
   try simp only [Act.put, pS]
   refine takeA 6 ?_
   try simp only [Act.put, pS]
   refine takeA 7 ?_
   try simp only [Act.put, pS]
   refine takeA 8 ?_
   try simp only [Act.put, pS]
   refine takeA 9 ?_
   try simp only [Act.put, pS]
   refine takeA 10 ?_
   try simp only [Act.put, pS]
   refine takeA 11 ?_
   try simp only [Act.put, pS]
   refine takeA 12 ?_
   try simp only [Act.put, pS]
   refine takeA 13 ?_
   try simp only [Act.put, pS]
   refine takeA 14 ?_
   try simp only [Act.put, pS]
   refine takeA 15 ?_
   try simp only [Act.put, pS]
   refine takeA 16 ?_
   try simp only [Act.put, pS]
   refine takeA 17 ?_
   try simp only [Act.put, pS]
   refine takeA 18 ?_
   try simp only [Act.put, pS]
   refine takeA 19 ?_
   try simp only [Act.put, pS]
   refine takeA 20 ?_
   try simp only [Act.put, pS]
   refine takeA 21 ?_
   try simp only [Act.put, pS]
   refine takeA 22 ?_
   try simp only [Act.put, pS]
   refine takeA 23 ?_
   try simp only [Act.put, pS]
   refine takeA 24 ?_
   try simp only [Act.put, pS]
   refine takeA 25 ?_
   try simp only [Act.put, pS]
   refine takeA 26 ?_
   try simp only [Act.put, pS]
   refine takeA 27 ?_
   try simp only [Act.put, pS]
   refine takeA 28 ?_
   try simp only [Act.put, pS]
   refine takeA 29 ?_
   try simp only [Act.put, pS]
   refine wpAnyH_done (by kernel_rfl) ?_ _
   try simp only [Act.put, pS]
   by_cases hlq : rl < qf
   ·have HE : Hid (mayP recs pl k = false) := mayP_no HQk.out HRk.out hjk (HY.out.trans hy0) rfl (by rw [HQf.out]; exact hlq)
    go_wp2
    go_ret
    exact ⟨ret_bool HE.out.symm, HB1.out.drew⟩
   ·have HG3 := Lib.hid (HG2.out (fun h => hlq h.2.2.2))
    go_wp2
    go_roundw
    case rel => exact ⟨j + 1, ⟨by omega, by go_num⟩, HG3.out, HB1.out.drew⟩
    case measure => simp [intOf]; omega
end Go.Proofs.Ytjggmimaolddkaa
