/-
  Texts of one proof, joined (wip/gen/pack.py): OrdI, OrdJ.
-/
import Derived.Test.YtjggmimaolddkaaObAJ
import Derived.BigQuiet
import Derived.Deep.Cut
namespace Go.Proofs.Ytjggmimaolddkaa
open Go.RowKit
set_option linter.unusedVariables false

def pv (pl : List Int) : Array Value := (pl.map (Value.int .i64)).toArray
def overP (recs : List Rc7) (pl : List Int) : Bool := (List.range recs.length).all fun j => match recs[j]? with
  | none => true
  | some r => !(r.done && (pl.getD j 0 == 0))
def mayRow (recs : List Rc7) (pl : List Int) (k : Nat) (f : Int) (j : Nat) : Bool := match recs[j]? with
  | none => true
  | some r => !(decide (j ≠ k) && (pl.getD j 0 == 0) && r.done && decide (r.till < f))
def mayP (recs : List Rc7) (pl : List Int) (k : Nat) : Bool := match recs[k]? with
  | none => false
  | some q => (List.range recs.length).all (mayRow recs pl k q.from_) && (pl.getD k 0 == 0)
/-- A search in memory: what it is about lies below B0, what is placed in block gp. -/
structure SrIn (w : World) (B0 gx gp : Nat) (c : Cfg) (A0 : Option Addr) (n0 c0 : Nat) (A1 : Option Addr) (n1 c1 : Nat) (ps : List (List Ins)) (recs : List Rc7) (pl : List Int) : Prop where
  x : Bk w gx 103 #[.int .i64 c.T, .int .i64 c.B, .int .i64 c.W, .int .i64 c.F, .int .u64 c.fi, .int .u64 c.la, .slice A0 n0 c0, .slice A1 n1 c1, .slice (some ⟨gp, 0, none⟩) n1 n1]
  p : Bk w gp 3 (pv pl)
  len : pl.length = n1
  rr : RdR w B0 A1 n1 recs
  rp : ProgsIn w B0 A0 n0 ps
  bx : B0 ≤ gx
  bp : B0 ≤ gp
  ne : gx ≠ gp
section
variable {w w' : World} {B0 gx gp n0 c0 n1 c1 : Nat} {c : Cfg} {A0 A1 : Option Addr} {ps : List (List Ins)} {recs : List Rc7} {pl : List Int}
theorem SrIn.size (h : SrIn w B0 gx gp c A0 n0 c0 A1 n1 c1 ps recs pl) : B0 ≤ w.heap.size := Nat.le_trans h.bx (Nat.le_of_lt h.x.lt)
theorem SrIn.below (h : SrIn w B0 gx gp c A0 n0 c0 A1 n1 c1 ps recs pl) (hb : Below w.heap.size w w') : SrIn w' B0 gx gp c A0 n0 c0 A1 n1 c1 ps recs pl :=
  ⟨h.x.below hb h.x.lt, h.p.below hb h.p.lt, h.len, h.rr.below (hb.mono h.size), h.rp.below (hb.mono h.size), h.bx, h.bp, h.ne⟩
theorem SrIn.drew (h : SrIn w B0 gx gp c A0 n0 c0 A1 n1 c1 ps recs pl) : SrIn w.drew B0 gx gp c A0 n0 c0 A1 n1 c1 ps recs pl :=
  ⟨h.x, h.p, h.len, h.rr.drew, h.rp.keep fun _ _ => rfl, h.bx, h.bp, h.ne⟩
theorem SrIn.grown (h : SrIn w B0 gx gp c A0 n0 c0 A1 n1 c1 ps recs pl) {g : Nat} (hg : w.grownBy w' (some g)) (hB : B0 ≤ g) (hx : gx ≠ g) (hp : gp ≠ g) : SrIn w' B0 gx gp c A0 n0 c0 A1 n1 c1 ps recs pl :=
  have hb : Below B0 w w' := (Below.refl _ _).grown hg h.size (fun r e => by cases e; exact hB)
  ⟨h.x.grown hg (fun e => hx (by injection e with e; exact e.symm)), h.p.grown hg (fun e => hp (by injection e with e; exact e.symm)), h.len, h.rr.below hb, h.rp.below hb, h.bx, h.bp, h.ne⟩
theorem SrIn.swap (h : SrIn w B0 gx gp c A0 n0 c0 A1 n1 c1 ps recs pl) {pl' : List Int} (hg : w.grownBy w' (some gp)) (hp : Bk w' gp 3 (pv pl')) (hl : pl'.length = pl.length) : SrIn w' B0 gx gp c A0 n0 c0 A1 n1 c1 ps recs pl' :=
  have hb : Below B0 w w' := (Below.refl _ _).grown hg h.size (fun r e => by cases e; exact h.bp)
  ⟨h.x.grown hg (fun e => h.ne (by injection e with e; exact e.symm)), hp, hl.trans h.len, h.rr.below hb, h.rp.below hb, h.bx, h.bp, h.ne⟩
theorem SrIn.at_ (h : SrIn w B0 gx gp c A0 n0 c0 A1 n1 c1 ps recs pl) {j : Nat} (hj : j < n1) : w.cell? ⟨gp, j, none⟩ = some (.int .i64 (pl.getD j 0)) := by
  rw [h.p.cell]
  unfold pv
  have hl : j < pl.length := by rw [h.len]; exact hj
  rw [List.getElem?_toArray, List.getElem?_map, List.getD_eq_getElem?_getD, List.getElem?_eq_getElem hl]; rfl
theorem SrIn.rcLen (h : SrIn w B0 gx gp c A0 n0 c0 A1 n1 c1 ps recs pl) : recs.length = n1 := h.rr.rcLen
end
theorem overP_no {recs : List Rc7} {pl : List Int} {j : Nat} {r : Rc7} (h : recs[j]? = some r) (hd : r.done = true) (hp : pl.getD j 0 = 0) : overP recs pl = false := by
  unfold overP
  rw [List.all_eq_false]
  refine ⟨j, List.mem_range.2 (List.getElem?_eq_some_iff.1 h).1, ?_⟩
  rw [h]
  simp only [hd, hp]
  decide
theorem overP_yes {recs : List Rc7} {pl : List Int} (h : ∀ j r, recs[j]? = some r → ¬ (r.done = true ∧ pl.getD j 0 = 0)) : overP recs pl = true := by
  unfold overP
  rw [List.all_eq_true]
  intro j hj
  cases hr : recs[j]? with
  | none => rfl
  | some r =>
    have h2 := h j r hr
    show (!(r.done && (pl.getD j 0 == 0))) = true
    cases hd : r.done
    · rfl
    · have : ¬ pl.getD j 0 = 0 := fun e => h2 ⟨hd, e⟩
      rw [beq_eq_false_iff_ne.2 this]; rfl
set_option maxRecDepth 100000 in
set_option maxHeartbeats 4000000 in
theorem sover_any {B0 gx gp n0 c0 n1 c1 : Nat} {c : Cfg} {A0 A1 : Option Addr} {ps : List (List Ins)} {recs : List Rc7} {pl : List Int} {w : World} (h : SrIn w B0 gx gp c A0 n0 c0 A1 n1 c1 ps recs pl) :
    Calls Try.prog 43 #[.pointer (some ⟨gx, 0, none⟩)] w fun e w' => e = .returned (.bool (overP recs pl)) ∧ Below w.heap.size w w' := by
  have hn := h.rr.le
  have HS := Lib.hid h
  have HLen := Lib.hid h.rcLen
  unfold maxLen at hn
  have k7 : w.cell? ⟨gx, 7, none⟩ = some (.slice A1 n1 c1) := h.x.cell 7
  clear h
  go_enter Try.func43, Try.ntmps43
  go_wp2
  go_loopw [10] (fun i wr => ∃ k : Nat, (k ≤ n1 ∧ i = .int .i64 k) ∧ Hid (∀ j r, j < k → recs[j]? = some r → ¬ (r.done = true ∧ pl.getD j 0 = 0)) ∧ Hid (Below w.heap.size w wr)) (fun i _ => n1 - (intOf i).toNat)
  case atStart => exact ⟨0, ⟨by omega, rfl⟩, fun j r hj => absurd hj (Nat.not_lt_zero _), Below.refl _ _⟩
  case round =>
    obtain ⟨k, ⟨hk, rfl⟩, HG, HB⟩ := hrel
    by_cases hlt : k < n1
    · have hlti : (k : Int) < (n1 : Int) := by omega
      have HSr := Lib.hid (HS.out.below HB.out)
      obtain ⟨b, o, r, hA, hb, hrk, hc⟩ := HSr.out.rr.rcAt hlt
      subst hA
      have hpk := HSr.out.at_ hlt
      have kp : wr.cell? ⟨gx, 8, none⟩ = some (.slice (some ⟨gp, 0, none⟩) n1 n1) := HSr.out.x.cell 8
      have HRk := Lib.hid hrk
      obtain ⟨y, hy⟩ : ∃ y, pl.getD k 0 = y := ⟨_, rfl⟩
      rw [hy] at hpk
      have HY := Lib.hid hy
      obtain ⟨rw_, rt, rp, x0, x1, x2, x3, rf, rl, rs, rd, rc, rv⟩ := r
      have d0 := hc 0 _ rfl
      have d1 := hc 1 _ rfl
      have d2 := hc 2 _ rfl
      have d3 := hc 3 _ rfl
      have d4 := hc 4 _ rfl
      have d5 := hc 5 _ rfl
      have d6 := hc 6 _ rfl
      have d7 := hc 7 _ rfl
      have d8 := hc 8 _ rfl
      have d9 := hc 9 _ rfl
      have d10 := hc 10 _ rfl
      have d11 := hc 11 _ rfl
      have d12 := hc 12 _ rfl
      simp only [← Nat.add_assoc, Nat.add_zero] at d0 d1 d2 d3 d4 d5 d6 d7 d8 d9 d10 d11 d12
      clear hc hrk hy
      have hgx : gx < wr.heap.size := HSr.out.x.lt
      have hgp : gp < wr.heap.size := HSr.out.p.lt
      go_upto_region 4 with fail
      obtain ⟨W1, hW1⟩ : ∃ W1, wr.alloc (.cells #[.int .i64 rw_, .int .i64 rt, .int .i64 rp, .int .u64 x0, .int .u64 x1, .int .u64 x2, .int .u64 x3, .int .i64 rf, .int .i64 rl, .int .i64 rs, .bool rd, .int .i64 rc, .int .u64 rv] 41) = W1 := ⟨_, rfl⟩
      have HQ := Lib.hid (show Bk W1 wr.heap.size 41 #[.int .i64 rw_, .int .i64 rt, .int .i64 rp, .int .u64 x0, .int .u64 x1, .int .u64 x2, .int .u64 x3, .int .i64 rf, .int .i64 rl, .int .i64 rs, .bool rd, .int .i64 rc, .int .u64 rv] by rw [← hW1]; exact Bk.new _ _ _)
      have hb1 : Below wr.heap.size wr W1 := by rw [← hW1]; exact (Below.refl _ _).alloc (Nat.le_refl _) _
      have HS1 := Lib.hid (HSr.out.below hb1)
      have HB1 := Lib.hid (HB.out.trans (hb1.mono HB.out.size))
      rw [hW1]
      clear hW1 hb1 d0 d1 d2 d3 d4 d5 d6 d7 d8 d9 d10 d11 d12 hpk kp hgx hgp
      have q10 : W1.cell? ⟨wr.heap.size, 10, none⟩ = some (.bool rd) := HQ.out.cell 10
      have kp : W1.cell? ⟨gx, 8, none⟩ = some (.slice (some ⟨gp, 0, none⟩) n1 n1) := HS1.out.x.cell 8
      have hpk := HS1.out.at_ hlt
      rw [HY.out] at hpk
      cases rd
      · have HG2 : Hid (∀ j r, j < k + 1 → recs[j]? = some r → ¬ (r.done = true ∧ pl.getD j 0 = 0)) := fun j r hj hr => by
          rcases Nat.lt_or_ge j k with h | h
          · exact HG.out j r h hr
          · obtain rfl : j = k := by omega
            rw [HRk.out] at hr
            injection hr with hr
            subst hr
            exact fun h => by simp at h
        go_wp2
        go_roundw
        case rel => exact ⟨k + 1, ⟨by omega, by go_num⟩, HG2.out, HB1.out⟩
        case measure => simp [intOf]; omega
      · by_cases h0 : y = 0
        · subst h0
          have HE : Hid (overP recs pl = false) := overP_no HRk.out rfl HY.out
          go_wp2
          go_ret
          exact ⟨ret_bool HE.out.symm, HB1.out⟩
        · have e0 : (y == 0) = false := beq_eq_false_iff_ne.2 h0
          have HG2 : Hid (∀ j r, j < k + 1 → recs[j]? = some r → ¬ (r.done = true ∧ pl.getD j 0 = 0)) := fun j r hj hr => by
            rcases Nat.lt_or_ge j k with h | h
            · exact HG.out j r h hr
            · obtain rfl : j = k := by omega
              exact fun h => h0 (HY.out.symm.trans h.2)
          go_wp2
          go_roundw
          case rel => exact ⟨k + 1, ⟨by omega, by go_num⟩, HG2.out, HB1.out⟩
          case measure => simp [intOf]; omega
    · obtain rfl : k = n1 := by omega
      have HE : Hid (overP recs pl = true) := overP_yes fun j r hr => HG.out j r (by have := (List.getElem?_eq_some_iff.1 hr).1; rw [HLen.out] at this; exact this) hr
      go_wp2
      go_ret
      exact ⟨ret_bool HE.out.symm, HB.out⟩

set_option maxRecDepth 100000 in
set_option maxHeartbeats 1000000 in
theorem slate_any (q : Rc7) (hq : q.code ≠ 45) (gx : Nat) (w : World) :
    Calls Try.prog 45 #[.pointer (some ⟨gx, 0, none⟩), q.v] w fun e w' => e = .returned (.bool false) ∧ Below w.heap.size w w' := by
  obtain ⟨rw_, rt, rp, x0, x1, x2, x3, rf, rl, rs, rd, rc, rv⟩ := q
  unfold Rc7.v
  simp only at hq ⊢
  have e45 : (rc == 45) = false := beq_eq_false_iff_ne.2 hq
  have HB : Hid (Below w.heap.size w (w.alloc (.cells #[.int .i64 rw_, .int .i64 rt, .int .i64 rp, .int .u64 x0, .int .u64 x1, .int .u64 x2, .int .u64 x3, .int .i64 rf, .int .i64 rl, .int .i64 rs, .bool rd, .int .i64 rc, .int .u64 rv] 41))) := (Below.refl _ _).alloc (Nat.le_refl _) _
  go_enter Try.func45, Try.ntmps45
  go_wp2_with fail
  have HK : Hid (Bk (w.alloc (.cells #[.int .i64 rw_, .int .i64 rt, .int .i64 rp, .int .u64 x0, .int .u64 x1, .int .u64 x2, .int .u64 x3, .int .i64 rf, .int .i64 rl, .int .i64 rs, .bool rd, .int .i64 rc, .int .u64 rv] 41)) w.heap.size 41 #[.int .i64 rw_, .int .i64 rt, .int .i64 rp, .int .u64 x0, .int .u64 x1, .int .u64 x2, .int .u64 x3, .int .i64 rf, .int .i64 rl, .int .i64 rs, .bool rd, .int .i64 rc, .int .u64 rv]) := Bk.new _ _ _
  refine wp_region_held_drew (S := (fun w' => w'.cell? ⟨w.heap.size, 11, none⟩ = some (.int .i64 rc))) (by kernel_rfl) ?_ (fun hHeld => ?_)
  · exact HK.out.cell 11
  refine takeH (v := ?_) 0 rfl rfl rfl rfl (by kernel_rfl) (by kernel_rfl) (by kernel_rfl) (fun _ _ _ _ _ h => h) (by rfl) (by assumption) ?_ ?_
  rotate_left
  · (intro w hSw; (try dsimp only at hSw); go_split_ands; go_simp; try with_reducible rfl)
  try simp only [Act.put, List.setIfInBounds_toArray, List.set_cons_zero, List.set_cons_succ]
  refine takeH (v := ?_) 1 rfl rfl rfl rfl (by kernel_rfl) (by kernel_rfl) (by kernel_rfl) (fun _ _ _ _ _ h => h) (by rfl) (by assumption) ?_ ?_
  rotate_left
  · (intro w hSw; (try dsimp only at hSw); go_split_ands; go_simp; try with_reducible rfl)
  try simp only [Act.put, List.setIfInBounds_toArray, List.set_cons_zero, List.set_cons_succ]
  refine takeH (v := ?_) 2 rfl rfl rfl rfl (by kernel_rfl) (by kernel_rfl) (by kernel_rfl) (fun _ _ _ _ _ h => h) (by rfl) (by assumption) ?_ ?_
  rotate_left
  · (intro w hSw; (try dsimp only at hSw); go_split_ands; go_simp; try with_reducible rfl)
  try simp only [Act.put, List.setIfInBounds_toArray, List.set_cons_zero, List.set_cons_succ]
  refine takeH (v := ?_) 3 rfl rfl rfl rfl (by kernel_rfl) (by kernel_rfl) (by kernel_rfl) (fun _ _ _ _ _ h => h) (by rfl) (by assumption) ?_ ?_
  rotate_left
  · (intro w hSw; (try dsimp only at hSw); go_split_ands; go_simp; try with_reducible rfl)
  try simp only [Act.put, List.setIfInBounds_toArray, List.set_cons_zero, List.set_cons_succ]
  refine takeH (v := ?_) 4 rfl rfl rfl rfl (by kernel_rfl) (by kernel_rfl) (by kernel_rfl) (fun _ _ _ _ _ h => h) (by rfl) (by assumption) ?_ ?_
  rotate_left
  · (intro w hSw; (try dsimp only at hSw); go_split_ands; go_simp; try with_reducible rfl)
  try simp only [Act.put, List.setIfInBounds_toArray, List.set_cons_zero, List.set_cons_succ]
  refine skipH 5 rfl rfl (by kernel_rfl) (by kernel_rfl) (by kernel_rfl) (fun _ _ _ _ _ h => h) (by rfl) (by assumption) ?_
  try simp only [Act.put, List.setIfInBounds_toArray, List.set_cons_zero, List.set_cons_succ]
  refine skipH 6 rfl rfl (by kernel_rfl) (by kernel_rfl) (by kernel_rfl) (fun _ _ _ _ _ h => h) (by rfl) (by assumption) ?_
  try simp only [Act.put, List.setIfInBounds_toArray, List.set_cons_zero, List.set_cons_succ]
  refine skipH 7 rfl rfl (by kernel_rfl) (by kernel_rfl) (by kernel_rfl) (fun _ _ _ _ _ h => h) (by rfl) (by assumption) ?_
  try simp only [Act.put, List.setIfInBounds_toArray, List.set_cons_zero, List.set_cons_succ]
  refine skipH 8 rfl rfl (by kernel_rfl) (by kernel_rfl) (by kernel_rfl) (fun _ _ _ _ _ h => h) (by rfl) (by assumption) ?_
  try simp only [Act.put, List.setIfInBounds_toArray, List.set_cons_zero, List.set_cons_succ]
  refine skipH 9 rfl rfl (by kernel_rfl) (by kernel_rfl) (by kernel_rfl) (fun _ _ _ _ _ h => h) (by rfl) (by assumption) ?_
  try simp only [Act.put, List.setIfInBounds_toArray, List.set_cons_zero, List.set_cons_succ]
  refine skipH 10 rfl rfl (by kernel_rfl) (by kernel_rfl) (by kernel_rfl) (fun _ _ _ _ _ h => h) (by rfl) (by assumption) ?_
  try simp only [Act.put, List.setIfInBounds_toArray, List.set_cons_zero, List.set_cons_succ]
  refine skipH 11 rfl rfl (by kernel_rfl) (by kernel_rfl) (by kernel_rfl) (fun _ _ _ _ _ h => h) (by rfl) (by assumption) ?_
  try simp only [Act.put, List.setIfInBounds_toArray, List.set_cons_zero, List.set_cons_succ]
  refine skipH 12 rfl rfl (by kernel_rfl) (by kernel_rfl) (by kernel_rfl) (fun _ _ _ _ _ h => h) (by rfl) (by assumption) ?_
  try simp only [Act.put, List.setIfInBounds_toArray, List.set_cons_zero, List.set_cons_succ]
  refine skipH 13 rfl rfl (by kernel_rfl) (by kernel_rfl) (by kernel_rfl) (fun _ _ _ _ _ h => h) (by rfl) (by assumption) ?_
  try simp only [Act.put, List.setIfInBounds_toArray, List.set_cons_zero, List.set_cons_succ]
  refine skipH 14 rfl rfl (by kernel_rfl) (by kernel_rfl) (by kernel_rfl) (fun _ _ _ _ _ h => h) (by rfl) (by assumption) ?_
  try simp only [Act.put, List.setIfInBounds_toArray, List.set_cons_zero, List.set_cons_succ]
  refine takeH (v := ?_) 15 rfl rfl rfl rfl (by kernel_rfl) (by kernel_rfl) (by kernel_rfl) (fun _ _ _ _ _ h => h) (by rfl) (by assumption) ?_ ?_
  rotate_left
  · (intro w hSw; (try dsimp only at hSw); go_split_ands; go_simp; try with_reducible rfl)
  try simp only [Act.put, List.setIfInBounds_toArray, List.set_cons_zero, List.set_cons_succ]
  refine takeH (v := ?_) 16 rfl rfl rfl rfl (by kernel_rfl) (by kernel_rfl) (by kernel_rfl) (fun _ _ _ _ _ h => h) (by rfl) (by assumption) ?_ ?_
  rotate_left
  · (intro w hSw; (try dsimp only at hSw); go_split_ands; go_simp; try with_reducible rfl)
  try simp only [Act.put, List.setIfInBounds_toArray, List.set_cons_zero, List.set_cons_succ]
  refine wpAnyH_done (by kernel_rfl) ?_ _
  try simp only [Act.put, List.setIfInBounds_toArray, List.set_cons_zero, List.set_cons_succ]
  go_wp2
  go_ret
  exact ⟨rfl, HB.out.drew⟩
end Go.Proofs.Ytjggmimaolddkaa

namespace Go.Proofs.Ytjggmimaolddkaa
open Go.RowKit
set_option linter.unusedVariables false

theorem mayP_no {recs : List Rc7} {pl : List Int} {k j : Nat} {q r : Rc7} (hq : recs[k]? = some q) (h : recs[j]? = some r) (h1 : j ≠ k) (h2 : pl.getD j 0 = 0) (h3 : r.done = true) (h4 : r.till < q.from_) : mayP recs pl k = false := by
  unfold mayP
  rw [hq]
  show ((List.range recs.length).all (mayRow recs pl k q.from_) && (pl.getD k 0 == 0)) = false
  have : (List.range recs.length).all (mayRow recs pl k q.from_) = false := by
    rw [List.all_eq_false]
    refine ⟨j, List.mem_range.2 (List.getElem?_eq_some_iff.1 h).1, ?_⟩
    unfold mayRow
    rw [h]
    simp only [h3, h2, decide_eq_true h1, decide_eq_true h4]
    decide
  rw [this]; rfl
theorem mayP_yes {recs : List Rc7} {pl : List Int} {k : Nat} {q : Rc7} (hq : recs[k]? = some q) (h : ∀ j r, recs[j]? = some r → ¬ (j ≠ k ∧ pl.getD j 0 = 0 ∧ r.done = true ∧ r.till < q.from_)) : mayP recs pl k = (pl.getD k 0 == 0) := by
  unfold mayP
  rw [hq]
  show ((List.range recs.length).all (mayRow recs pl k q.from_) && (pl.getD k 0 == 0)) = _
  have : (List.range recs.length).all (mayRow recs pl k q.from_) = true := by
    rw [List.all_eq_true]
    intro j hj
    unfold mayRow
    cases hr : recs[j]? with
    | none => rfl
    | some r =>
      have h2 := h j r hr
      show (!(decide (j ≠ k) && (pl.getD j 0 == 0) && r.done && decide (r.till < q.from_))) = true
      by_cases c1 : j ≠ k
      · by_cases c2 : pl.getD j 0 = 0
        · cases c3 : r.done
          · simp
          · by_cases c4 : r.till < q.from_
            · exact absurd ⟨c1, c2, c3, c4⟩ h2
            · rw [decide_eq_false c4]; simp
        · rw [beq_eq_false_iff_ne.2 c2]; simp
      · rw [decide_eq_false c1]; rfl
  rw [this, Bool.true_and]

set_option maxRecDepth 100000 in
set_option maxHeartbeats 8000000 in
theorem smay_any {B0 gx gp n0 c0 n1 c1 : Nat} {c : Cfg} {A0 A1 : Option Addr} {ps : List (List Ins)} {recs : List Rc7} {pl : List Int} {w : World} (h : SrIn w B0 gx gp c A0 n0 c0 A1 n1 c1 ps recs pl) (k : Nat) (hk : k < n1) :
    Calls Try.prog 44 #[.pointer (some ⟨gx, 0, none⟩), .int .i64 k] w fun e w' => e = .returned (.bool (mayP recs pl k)) ∧ Below w.heap.size w w' := by
  have hn := h.rr.le
  have HS := Lib.hid h
  have HLen := Lib.hid h.rcLen
  unfold maxLen at hn
  have k7 : w.cell? ⟨gx, 7, none⟩ = some (.slice A1 n1 c1) := h.x.cell 7
  obtain ⟨q, hq⟩ : ∃ q, recs[k]? = some q := ⟨_, List.getElem?_eq_getElem (by rw [HLen.out]; exact hk)⟩
  have HQk := Lib.hid hq
  clear h hq
  go_enter Try.func44, Try.ntmps44
  go_wp2
  go_loopw [12] (fun i wr => ∃ j : Nat, (j ≤ n1 ∧ i = .int .i64 j) ∧ Hid (∀ z r, z < j → recs[z]? = some r → ¬ (z ≠ k ∧ pl.getD z 0 = 0 ∧ r.done = true ∧ r.till < q.from_)) ∧ Hid (Below w.heap.size w wr)) (fun i _ => n1 - (intOf i).toNat)
  case atStart => exact ⟨0, ⟨by omega, rfl⟩, fun z r hz => absurd hz (Nat.not_lt_zero _), Below.refl _ _⟩
  case round =>
    obtain ⟨j, ⟨hj, rfl⟩, HG, HB⟩ := hrel
    by_cases hlt : j < n1
    case neg =>
      obtain rfl : j = n1 := by omega
      have HSr := Lib.hid (HS.out.below HB.out)
      have hpk := HSr.out.at_ hk
      have kp : wr.cell? ⟨gx, 8, none⟩ = some (.slice (some ⟨gp, 0, none⟩) j j) := HSr.out.x.cell 8
      obtain ⟨y, hy⟩ : ∃ y, pl.getD k 0 = y := ⟨_, rfl⟩
      rw [hy] at hpk
      have HE : Hid (mayP recs pl k = (y == 0)) := by
        show _ = _
        rw [← hy]
        exact mayP_yes HQk.out fun z r hr => HG.out z r (by have := (List.getElem?_eq_some_iff.1 hr).1; rw [HLen.out] at this; exact this) hr
      have hki : (k : Int) < (j : Int) := by omega
      clear hy
      go_wp2
      go_ret
      exact ⟨ret_bool HE.out.symm, HB.out⟩
    have hlti : (j : Int) < (n1 : Int) := by omega
    have hki : (k : Int) < (n1 : Int) := by omega
    have HSr := Lib.hid (HS.out.below HB.out)
    obtain ⟨b, o, r, hA, hb, hrk, hc⟩ := HSr.out.rr.rcAt hlt
    obtain ⟨b', o', q', hA', _, hqk, hcq⟩ := HSr.out.rr.rcAt hk
    subst hA
    injection hA' with hA'
    injection hA' with e1 e2 _
    subst e1 e2
    obtain rfl : q = q' := by rw [HQk.out] at hqk; injection hqk
    have HRk := Lib.hid hrk
    obtain ⟨y, hy⟩ : ∃ y, pl.getD j 0 = y := ⟨_, rfl⟩
    have HY := Lib.hid hy
    obtain ⟨qf, hqf⟩ : ∃ qf, q.from_ = qf := ⟨_, rfl⟩
    have HQf := Lib.hid hqf
    have hc7 : wr.cell? ⟨b, o + (k * 13 + 7), none⟩ = some (.int .i64 qf) := by rw [← hqf]; exact hcq 7 _ rfl
    have HC7 := Lib.hid hc7
    obtain ⟨rw_, rt, rp, x0, x1, x2, x3, rf, rl, rs, rd, rc, rv⟩ := r
    have d0 := hc 0 _ rfl
    have d1 := hc 1 _ rfl
    have d2 := hc 2 _ rfl
    have d3 := hc 3 _ rfl
    have d4 := hc 4 _ rfl
    have d5 := hc 5 _ rfl
    have d6 := hc 6 _ rfl
    have d7 := hc 7 _ rfl
    have d8 := hc 8 _ rfl
    have d9 := hc 9 _ rfl
    have d10 := hc 10 _ rfl
    have d11 := hc 11 _ rfl
    have d12 := hc 12 _ rfl
    simp only [← Nat.add_assoc, Nat.add_zero] at d0 d1 d2 d3 d4 d5 d6 d7 d8 d9 d10 d11 d12
    clear hc hcq hrk hy hqf hc7 hqk
    go_upto_region 4 with fail
    obtain ⟨W1, hW1⟩ : ∃ W1, wr.alloc (.cells #[.int .i64 rw_, .int .i64 rt, .int .i64 rp, .int .u64 x0, .int .u64 x1, .int .u64 x2, .int .u64 x3, .int .i64 rf, .int .i64 rl, .int .i64 rs, .bool rd, .int .i64 rc, .int .u64 rv] 41) = W1 := ⟨_, rfl⟩
    have HQ := Lib.hid (show Bk W1 wr.heap.size 41 #[.int .i64 rw_, .int .i64 rt, .int .i64 rp, .int .u64 x0, .int .u64 x1, .int .u64 x2, .int .u64 x3, .int .i64 rf, .int .i64 rl, .int .i64 rs, .bool rd, .int .i64 rc, .int .u64 rv] by rw [← hW1]; exact Bk.new _ _ _)
    have hb1 : Below wr.heap.size wr W1 := by rw [← hW1]; exact (Below.refl _ _).alloc (Nat.le_refl _) _
    have HS1 := Lib.hid (HSr.out.below hb1)
    have HB1 := Lib.hid (HB.out.trans (hb1.mono HB.out.size))
    have hbr : b < wr.heap.size := Nat.lt_of_lt_of_le hb HSr.out.size
    have c7 : W1.cell? ⟨b, o + k * 13 + 7, none⟩ = some (.int .i64 qf) := by rw [Nat.add_assoc]; exact (hb1.cell (p := ⟨b, o + (k * 13 + 7), none⟩) hbr).trans HC7.out
    rw [hW1]
    obtain ⟨gq, hgq⟩ : ∃ gq, wr.heap.size = gq := ⟨_, rfl⟩
    rw [hgq] at HQ ⊢
    clear hW1 hb1 d0 d1 d2 d3 d4 d5 d6 d7 d8 d9 d10 d11 d12 hbr hgq
    have q10 : W1.cell? ⟨gq, 10, none⟩ = some (.bool rd) := HQ.out.cell 10
    have q8 : W1.cell? ⟨gq, 8, none⟩ = some (.int .i64 rl) := HQ.out.cell 8
    have kp : W1.cell? ⟨gx, 8, none⟩ = some (.slice (some ⟨gp, 0, none⟩) n1 n1) := HS1.out.x.cell 8
    have kr : W1.cell? ⟨gx, 7, none⟩ = some (.slice (some ⟨b, o, none⟩) n1 c1) := HS1.out.x.cell 7
    have hpk := HS1.out.at_ hlt
    rw [HY.out] at hpk
    have HG2 : Hid (¬ (j ≠ k ∧ y = 0 ∧ rd = true ∧ rl < qf) → ∀ z r, z < j + 1 → recs[z]? = some r → ¬ (z ≠ k ∧ pl.getD z 0 = 0 ∧ r.done = true ∧ r.till < q.from_)) := fun hn z r hz hr => by
      rcases Nat.lt_or_ge z j with h | h
      · exact HG.out z r h hr
      · obtain rfl : z = j := by omega
        rw [HRk.out] at hr
        injection hr with hr
        subst hr
        rw [HY.out, HQf.out]
        exact hn
    by_cases hjk : j = k
    · have ejk : ((j : Int) == (k : Int)) = true := beq_iff_eq.2 (by omega)
      have ejk2 : ((j : Int) != (k : Int)) = false := by rw [bne, ejk]; rfl
      refine wp_region_held_drew (S := (fun w' => w'.cell? ⟨gq, 10, none⟩ = some (.bool rd) ∧ w'.cell? ⟨gq, 8, none⟩ = some (.int .i64 rl) ∧ w'.cell? ⟨gx, 8, none⟩ = some (.slice (some ⟨gp, 0, none⟩) n1 n1) ∧ w'.cell? ⟨gx, 7, none⟩ = some (.slice (some ⟨b, o, none⟩) n1 c1) ∧ w'.cell? ⟨gp, j, none⟩ = some (.int .i64 y) ∧ w'.cell? ⟨b, o + k * 13 + 7, none⟩ = some (.int .i64 qf))) (by kernel_rfl) ?_ (fun hHeld => ?_)
      · exact ⟨q10, q8, kp, kr, hpk, c7⟩
      refine takeH (v := ?_) 0 rfl rfl rfl rfl (by kernel_rfl) (by kernel_rfl) (by kernel_rfl) (fun _ _ _ _ _ h => h) (by rfl) (by assumption) ?_ ?_
      rotate_left
      · (intro w hSw; (try dsimp only at hSw); go_split_ands; go_simp; try with_reducible rfl)
      try simp only [Act.put, List.setIfInBounds_toArray, List.set_cons_zero, List.set_cons_succ]
      refine takeH (v := ?_) 1 rfl rfl rfl rfl (by kernel_rfl) (by kernel_rfl) (by kernel_rfl) (fun _ _ _ _ _ h => h) (by rfl) (by assumption) ?_ ?_
      rotate_left
      · (intro w hSw; (try dsimp only at hSw); go_split_ands; go_simp; try with_reducible rfl)
      try simp only [Act.put, List.setIfInBounds_toArray, List.set_cons_zero, List.set_cons_succ]
      refine takeH (v := ?_) 2 rfl rfl rfl rfl (by kernel_rfl) (by kernel_rfl) (by kernel_rfl) (fun _ _ _ _ _ h => h) (by rfl) (by assumption) ?_ ?_
      rotate_left
      · (intro w hSw; (try dsimp only at hSw); go_split_ands; go_simp; try with_reducible rfl)
      try simp only [Act.put, List.setIfInBounds_toArray, List.set_cons_zero, List.set_cons_succ]
      refine takeH (v := ?_) 3 rfl rfl rfl rfl (by kernel_rfl) (by kernel_rfl) (by kernel_rfl) (fun _ _ _ _ _ h => h) (by rfl) (by assumption) ?_ ?_
      rotate_left
      · (intro w hSw; (try dsimp only at hSw); go_split_ands; go_simp; try with_reducible rfl)
      try simp only [Act.put, List.setIfInBounds_toArray, List.set_cons_zero, List.set_cons_succ]
      refine skipH 4 rfl rfl (by kernel_rfl) (by kernel_rfl) (by kernel_rfl) (fun _ _ _ _ _ h => h) (by rfl) (by assumption) ?_
      try simp only [Act.put, List.setIfInBounds_toArray, List.set_cons_zero, List.set_cons_succ]
      refine skipH 5 rfl rfl (by kernel_rfl) (by kernel_rfl) (by kernel_rfl) (fun _ _ _ _ _ h => h) (by rfl) (by assumption) ?_
      try simp only [Act.put, List.setIfInBounds_toArray, List.set_cons_zero, List.set_cons_succ]
      refine skipH 6 rfl rfl (by kernel_rfl) (by kernel_rfl) (by kernel_rfl) (fun _ _ _ _ _ h => h) (by rfl) (by assumption) ?_
      try simp only [Act.put, List.setIfInBounds_toArray, List.set_cons_zero, List.set_cons_succ]
      refine skipH 7 rfl rfl (by kernel_rfl) (by kernel_rfl) (by kernel_rfl) (fun _ _ _ _ _ h => h) (by rfl) (by assumption) ?_
      try simp only [Act.put, List.setIfInBounds_toArray, List.set_cons_zero, List.set_cons_succ]
      refine skipH 8 rfl rfl (by kernel_rfl) (by kernel_rfl) (by kernel_rfl) (fun _ _ _ _ _ h => h) (by rfl) (by assumption) ?_
      try simp only [Act.put, List.setIfInBounds_toArray, List.set_cons_zero, List.set_cons_succ]
      refine skipH 9 rfl rfl (by kernel_rfl) (by kernel_rfl) (by kernel_rfl) (fun _ _ _ _ _ h => h) (by rfl) (by assumption) ?_
      try simp only [Act.put, List.setIfInBounds_toArray, List.set_cons_zero, List.set_cons_succ]
      refine skipH 10 rfl rfl (by kernel_rfl) (by kernel_rfl) (by kernel_rfl) (fun _ _ _ _ _ h => h) (by rfl) (by assumption) ?_
      try simp only [Act.put, List.setIfInBounds_toArray, List.set_cons_zero, List.set_cons_succ]
      refine skipH 11 rfl rfl (by kernel_rfl) (by kernel_rfl) (by kernel_rfl) (fun _ _ _ _ _ h => h) (by rfl) (by assumption) ?_
      try simp only [Act.put, List.setIfInBounds_toArray, List.set_cons_zero, List.set_cons_succ]
      refine takeH (v := ?_) 12 rfl rfl rfl rfl (by kernel_rfl) (by kernel_rfl) (by kernel_rfl) (fun _ _ _ _ _ h => h) (by rfl) (by assumption) ?_ ?_
      rotate_left
      · (intro w hSw; (try dsimp only at hSw); go_split_ands; go_simp; try with_reducible rfl)
      try simp only [Act.put, List.setIfInBounds_toArray, List.set_cons_zero, List.set_cons_succ]
      refine takeH (v := ?_) 13 rfl rfl rfl rfl (by kernel_rfl) (by kernel_rfl) (by kernel_rfl) (fun _ _ _ _ _ h => h) (by rfl) (by assumption) ?_ ?_
      rotate_left
      · (intro w hSw; (try dsimp only at hSw); go_split_ands; go_simp; try with_reducible rfl)
      try simp only [Act.put, List.setIfInBounds_toArray, List.set_cons_zero, List.set_cons_succ]
      refine skipH 14 rfl rfl (by kernel_rfl) (by kernel_rfl) (by kernel_rfl) (fun _ _ _ _ _ h => h) (by rfl) (by assumption) ?_
      try simp only [Act.put, List.setIfInBounds_toArray, List.set_cons_zero, List.set_cons_succ]
      refine skipH 15 rfl rfl (by kernel_rfl) (by kernel_rfl) (by kernel_rfl) (fun _ _ _ _ _ h => h) (by rfl) (by assumption) ?_
      try simp only [Act.put, List.setIfInBounds_toArray, List.set_cons_zero, List.set_cons_succ]
      refine takeH (v := ?_) 16 rfl rfl rfl rfl (by kernel_rfl) (by kernel_rfl) (by kernel_rfl) (fun _ _ _ _ _ h => h) (by rfl) (by assumption) ?_ ?_
      rotate_left
      · (intro w hSw; (try dsimp only at hSw); go_split_ands; go_simp; try with_reducible rfl)
      try simp only [Act.put, List.setIfInBounds_toArray, List.set_cons_zero, List.set_cons_succ]
      refine takeH (v := ?_) 17 rfl rfl rfl rfl (by kernel_rfl) (by kernel_rfl) (by kernel_rfl) (fun _ _ _ _ _ h => h) (by rfl) (by assumption) ?_ ?_
      rotate_left
      · (intro w hSw; (try dsimp only at hSw); go_split_ands; go_simp; try with_reducible rfl)
      try simp only [Act.put, List.setIfInBounds_toArray, List.set_cons_zero, List.set_cons_succ]
      refine skipH 18 rfl rfl (by kernel_rfl) (by kernel_rfl) (by kernel_rfl) (fun _ _ _ _ _ h => h) (by rfl) (by assumption) ?_
      try simp only [Act.put, List.setIfInBounds_toArray, List.set_cons_zero, List.set_cons_succ]
      refine skipH 19 rfl rfl (by kernel_rfl) (by kernel_rfl) (by kernel_rfl) (fun _ _ _ _ _ h => h) (by rfl) (by assumption) ?_
      try simp only [Act.put, List.setIfInBounds_toArray, List.set_cons_zero, List.set_cons_succ]
      refine skipH 20 rfl rfl (by kernel_rfl) (by kernel_rfl) (by kernel_rfl) (fun _ _ _ _ _ h => h) (by rfl) (by assumption) ?_
      try simp only [Act.put, List.setIfInBounds_toArray, List.set_cons_zero, List.set_cons_succ]
      refine skipH 21 rfl rfl (by kernel_rfl) (by kernel_rfl) (by kernel_rfl) (fun _ _ _ _ _ h => h) (by rfl) (by assumption) ?_
      try simp only [Act.put, List.setIfInBounds_toArray, List.set_cons_zero, List.set_cons_succ]
      refine skipH 22 rfl rfl (by kernel_rfl) (by kernel_rfl) (by kernel_rfl) (fun _ _ _ _ _ h => h) (by rfl) (by assumption) ?_
      try simp only [Act.put, List.setIfInBounds_toArray, List.set_cons_zero, List.set_cons_succ]
      refine skipH 23 rfl rfl (by kernel_rfl) (by kernel_rfl) (by kernel_rfl) (fun _ _ _ _ _ h => h) (by rfl) (by assumption) ?_
      try simp only [Act.put, List.setIfInBounds_toArray, List.set_cons_zero, List.set_cons_succ]
      refine skipH 24 rfl rfl (by kernel_rfl) (by kernel_rfl) (by kernel_rfl) (fun _ _ _ _ _ h => h) (by rfl) (by assumption) ?_
      try simp only [Act.put, List.setIfInBounds_toArray, List.set_cons_zero, List.set_cons_succ]
      refine skipH 25 rfl rfl (by kernel_rfl) (by kernel_rfl) (by kernel_rfl) (fun _ _ _ _ _ h => h) (by rfl) (by assumption) ?_
      try simp only [Act.put, List.setIfInBounds_toArray, List.set_cons_zero, List.set_cons_succ]
      refine skipH 26 rfl rfl (by kernel_rfl) (by kernel_rfl) (by kernel_rfl) (fun _ _ _ _ _ h => h) (by rfl) (by assumption) ?_
      try simp only [Act.put, List.setIfInBounds_toArray, List.set_cons_zero, List.set_cons_succ]
      refine skipH 27 rfl rfl (by kernel_rfl) (by kernel_rfl) (by kernel_rfl) (fun _ _ _ _ _ h => h) (by rfl) (by assumption) ?_
      try simp only [Act.put, List.setIfInBounds_toArray, List.set_cons_zero, List.set_cons_succ]
      refine skipH 28 rfl rfl (by kernel_rfl) (by kernel_rfl) (by kernel_rfl) (fun _ _ _ _ _ h => h) (by rfl) (by assumption) ?_
      try simp only [Act.put, List.setIfInBounds_toArray, List.set_cons_zero, List.set_cons_succ]
      refine takeH (v := ?_) 29 rfl rfl rfl rfl (by kernel_rfl) (by kernel_rfl) (by kernel_rfl) (fun _ _ _ _ _ h => h) (by rfl) (by assumption) ?_ ?_
      rotate_left
      · (intro w hSw; (try dsimp only at hSw); go_split_ands; go_simp; try with_reducible rfl)
      try simp only [Act.put, List.setIfInBounds_toArray, List.set_cons_zero, List.set_cons_succ]
      refine wpAnyH_done (by kernel_rfl) ?_ _
      try simp only [Act.put, List.setIfInBounds_toArray, List.set_cons_zero, List.set_cons_succ]
      have HG3 := Lib.hid (HG2.out (fun h => h.1 hjk))
      go_wp2
      go_roundw
      case rel => exact ⟨j + 1, ⟨by omega, by go_num⟩, HG3.out, HB1.out.drew⟩
      case measure => simp [intOf]; omega
    have ejk : ((j : Int) == (k : Int)) = false := beq_eq_false_iff_ne.2 (by omega)
    have ejk2 : ((j : Int) != (k : Int)) = true := bne_iff_ne.2 (by omega)
    by_cases hy0 : y = 0
    case neg =>
      have ey : (y == 0) = false := beq_eq_false_iff_ne.2 hy0
      refine wp_region_held_drew (S := (fun w' => w'.cell? ⟨gq, 10, none⟩ = some (.bool rd) ∧ w'.cell? ⟨gq, 8, none⟩ = some (.int .i64 rl) ∧ w'.cell? ⟨gx, 8, none⟩ = some (.slice (some ⟨gp, 0, none⟩) n1 n1) ∧ w'.cell? ⟨gx, 7, none⟩ = some (.slice (some ⟨b, o, none⟩) n1 c1) ∧ w'.cell? ⟨gp, j, none⟩ = some (.int .i64 y) ∧ w'.cell? ⟨b, o + k * 13 + 7, none⟩ = some (.int .i64 qf))) (by kernel_rfl) ?_ (fun hHeld => ?_)
      · exact ⟨q10, q8, kp, kr, hpk, c7⟩
      refine takeH (v := ?_) 0 rfl rfl rfl rfl (by kernel_rfl) (by kernel_rfl) (by kernel_rfl) (fun _ _ _ _ _ h => h) (by rfl) (by assumption) ?_ ?_
      rotate_left
      · (intro w hSw; (try dsimp only at hSw); go_split_ands; go_simp; try with_reducible rfl)
      try simp only [Act.put, List.setIfInBounds_toArray, List.set_cons_zero, List.set_cons_succ]
      refine takeH (v := ?_) 1 rfl rfl rfl rfl (by kernel_rfl) (by kernel_rfl) (by kernel_rfl) (fun _ _ _ _ _ h => h) (by rfl) (by assumption) ?_ ?_
      rotate_left
      · (intro w hSw; (try dsimp only at hSw); go_split_ands; go_simp; try with_reducible rfl)
      try simp only [Act.put, List.setIfInBounds_toArray, List.set_cons_zero, List.set_cons_succ]
      refine takeH (v := ?_) 2 rfl rfl rfl rfl (by kernel_rfl) (by kernel_rfl) (by kernel_rfl) (fun _ _ _ _ _ h => h) (by rfl) (by assumption) ?_ ?_
      rotate_left
      · (intro w hSw; (try dsimp only at hSw); go_split_ands; go_simp; try with_reducible rfl)
      try simp only [Act.put, List.setIfInBounds_toArray, List.set_cons_zero, List.set_cons_succ]
      refine takeH (v := ?_) 3 rfl rfl rfl rfl (by kernel_rfl) (by kernel_rfl) (by kernel_rfl) (fun _ _ _ _ _ h => h) (by rfl) (by assumption) ?_ ?_
      rotate_left
      · (intro w hSw; (try dsimp only at hSw); go_split_ands; go_simp; try with_reducible rfl)
      try simp only [Act.put, List.setIfInBounds_toArray, List.set_cons_zero, List.set_cons_succ]
      refine takeH (v := ?_) 4 rfl rfl rfl rfl (by kernel_rfl) (by kernel_rfl) (by kernel_rfl) (fun _ _ _ _ _ h => h) (by rfl) (by assumption) ?_ ?_
      rotate_left
      · (intro w hSw; (try dsimp only at hSw); go_split_ands; go_simp; try with_reducible rfl)
      try simp only [Act.put, List.setIfInBounds_toArray, List.set_cons_zero, List.set_cons_succ]
      refine takeH (v := ?_) 5 rfl rfl rfl rfl (by kernel_rfl) (by kernel_rfl) (by kernel_rfl) (fun _ _ _ _ _ h => h) (by rfl) (by assumption) ?_ ?_
      rotate_left
      · (intro w hSw; (try dsimp only at hSw); go_split_ands; go_simp; try with_reducible rfl)
      try simp only [Act.put, List.setIfInBounds_toArray, List.set_cons_zero, List.set_cons_succ]
      refine takeH (v := ?_) 6 rfl rfl rfl rfl (by kernel_rfl) (by kernel_rfl) (by kernel_rfl) (fun _ _ _ _ _ h => h) (by rfl) (by assumption) ?_ ?_
      rotate_left
      · (intro w hSw; (try dsimp only at hSw); go_split_ands; go_simp; try with_reducible rfl)
      try simp only [Act.put, List.setIfInBounds_toArray, List.set_cons_zero, List.set_cons_succ]
      refine takeH (v := ?_) 7 rfl rfl rfl rfl (by kernel_rfl) (by kernel_rfl) (by kernel_rfl) (fun _ _ _ _ _ h => h) (by rfl) (by assumption) ?_ ?_
      rotate_left
      · (intro w hSw; (try dsimp only at hSw); go_split_ands; go_simp; try with_reducible rfl)
      try simp only [Act.put, List.setIfInBounds_toArray, List.set_cons_zero, List.set_cons_succ]
      refine takeH (v := ?_) 8 rfl rfl rfl rfl (by kernel_rfl) (by kernel_rfl) (by kernel_rfl) (fun _ _ _ _ _ h => h) (by rfl) (by assumption) ?_ ?_
      rotate_left
      · (intro w hSw; (try dsimp only at hSw); go_split_ands; go_simp; try with_reducible rfl)
      try simp only [Act.put, List.setIfInBounds_toArray, List.set_cons_zero, List.set_cons_succ]
      refine takeH (v := ?_) 9 rfl rfl rfl rfl (by kernel_rfl) (by kernel_rfl) (by kernel_rfl) (fun _ _ _ _ _ h => h) (by rfl) (by assumption) ?_ ?_
      rotate_left
      · (intro w hSw; (try dsimp only at hSw); go_split_ands; go_simp; try with_reducible rfl)
      try simp only [Act.put, List.setIfInBounds_toArray, List.set_cons_zero, List.set_cons_succ]
      refine takeH (v := ?_) 10 rfl rfl rfl rfl (by kernel_rfl) (by kernel_rfl) (by kernel_rfl) (fun _ _ _ _ _ h => h) (by rfl) (by assumption) ?_ ?_
      rotate_left
      · (intro w hSw; (try dsimp only at hSw); go_split_ands; go_simp; try with_reducible rfl)
      try simp only [Act.put, List.setIfInBounds_toArray, List.set_cons_zero, List.set_cons_succ]
      refine takeH (v := ?_) 11 rfl rfl rfl rfl (by kernel_rfl) (by kernel_rfl) (by kernel_rfl) (fun _ _ _ _ _ h => h) (by rfl) (by assumption) ?_ ?_
      rotate_left
      · (intro w hSw; (try dsimp only at hSw); go_split_ands; go_simp; try with_reducible rfl)
      try simp only [Act.put, List.setIfInBounds_toArray, List.set_cons_zero, List.set_cons_succ]
      refine takeH (v := ?_) 12 rfl rfl rfl rfl (by kernel_rfl) (by kernel_rfl) (by kernel_rfl) (fun _ _ _ _ _ h => h) (by rfl) (by assumption) ?_ ?_
      rotate_left
      · (intro w hSw; (try dsimp only at hSw); go_split_ands; go_simp; try with_reducible rfl)
      try simp only [Act.put, List.setIfInBounds_toArray, List.set_cons_zero, List.set_cons_succ]
      refine takeH (v := ?_) 13 rfl rfl rfl rfl (by kernel_rfl) (by kernel_rfl) (by kernel_rfl) (fun _ _ _ _ _ h => h) (by rfl) (by assumption) ?_ ?_
      rotate_left
      · (intro w hSw; (try dsimp only at hSw); go_split_ands; go_simp; try with_reducible rfl)
      try simp only [Act.put, List.setIfInBounds_toArray, List.set_cons_zero, List.set_cons_succ]
      refine skipH 14 rfl rfl (by kernel_rfl) (by kernel_rfl) (by kernel_rfl) (fun _ _ _ _ _ h => h) (by rfl) (by assumption) ?_
      try simp only [Act.put, List.setIfInBounds_toArray, List.set_cons_zero, List.set_cons_succ]
      refine skipH 15 rfl rfl (by kernel_rfl) (by kernel_rfl) (by kernel_rfl) (fun _ _ _ _ _ h => h) (by rfl) (by assumption) ?_
      try simp only [Act.put, List.setIfInBounds_toArray, List.set_cons_zero, List.set_cons_succ]
      refine takeH (v := ?_) 16 rfl rfl rfl rfl (by kernel_rfl) (by kernel_rfl) (by kernel_rfl) (fun _ _ _ _ _ h => h) (by rfl) (by assumption) ?_ ?_
      rotate_left
      · (intro w hSw; (try dsimp only at hSw); go_split_ands; go_simp; try with_reducible rfl)
      try simp only [Act.put, List.setIfInBounds_toArray, List.set_cons_zero, List.set_cons_succ]
      refine takeH (v := ?_) 17 rfl rfl rfl rfl (by kernel_rfl) (by kernel_rfl) (by kernel_rfl) (fun _ _ _ _ _ h => h) (by rfl) (by assumption) ?_ ?_
      rotate_left
      · (intro w hSw; (try dsimp only at hSw); go_split_ands; go_simp; try with_reducible rfl)
      try simp only [Act.put, List.setIfInBounds_toArray, List.set_cons_zero, List.set_cons_succ]
      refine skipH 18 rfl rfl (by kernel_rfl) (by kernel_rfl) (by kernel_rfl) (fun _ _ _ _ _ h => h) (by rfl) (by assumption) ?_
      try simp only [Act.put, List.setIfInBounds_toArray, List.set_cons_zero, List.set_cons_succ]
      refine skipH 19 rfl rfl (by kernel_rfl) (by kernel_rfl) (by kernel_rfl) (fun _ _ _ _ _ h => h) (by rfl) (by assumption) ?_
      try simp only [Act.put, List.setIfInBounds_toArray, List.set_cons_zero, List.set_cons_succ]
      refine skipH 20 rfl rfl (by kernel_rfl) (by kernel_rfl) (by kernel_rfl) (fun _ _ _ _ _ h => h) (by rfl) (by assumption) ?_
      try simp only [Act.put, List.setIfInBounds_toArray, List.set_cons_zero, List.set_cons_succ]
      refine skipH 21 rfl rfl (by kernel_rfl) (by kernel_rfl) (by kernel_rfl) (fun _ _ _ _ _ h => h) (by rfl) (by assumption) ?_
      try simp only [Act.put, List.setIfInBounds_toArray, List.set_cons_zero, List.set_cons_succ]
      refine skipH 22 rfl rfl (by kernel_rfl) (by kernel_rfl) (by kernel_rfl) (fun _ _ _ _ _ h => h) (by rfl) (by assumption) ?_
      try simp only [Act.put, List.setIfInBounds_toArray, List.set_cons_zero, List.set_cons_succ]
      refine skipH 23 rfl rfl (by kernel_rfl) (by kernel_rfl) (by kernel_rfl) (fun _ _ _ _ _ h => h) (by rfl) (by assumption) ?_
      try simp only [Act.put, List.setIfInBounds_toArray, List.set_cons_zero, List.set_cons_succ]
      refine skipH 24 rfl rfl (by kernel_rfl) (by kernel_rfl) (by kernel_rfl) (fun _ _ _ _ _ h => h) (by rfl) (by assumption) ?_
      try simp only [Act.put, List.setIfInBounds_toArray, List.set_cons_zero, List.set_cons_succ]
      refine skipH 25 rfl rfl (by kernel_rfl) (by kernel_rfl) (by kernel_rfl) (fun _ _ _ _ _ h => h) (by rfl) (by assumption) ?_
      try simp only [Act.put, List.setIfInBounds_toArray, List.set_cons_zero, List.set_cons_succ]
      refine skipH 26 rfl rfl (by kernel_rfl) (by kernel_rfl) (by kernel_rfl) (fun _ _ _ _ _ h => h) (by rfl) (by assumption) ?_
      try simp only [Act.put, List.setIfInBounds_toArray, List.set_cons_zero, List.set_cons_succ]
      refine skipH 27 rfl rfl (by kernel_rfl) (by kernel_rfl) (by kernel_rfl) (fun _ _ _ _ _ h => h) (by rfl) (by assumption) ?_
      try simp only [Act.put, List.setIfInBounds_toArray, List.set_cons_zero, List.set_cons_succ]
      refine skipH 28 rfl rfl (by kernel_rfl) (by kernel_rfl) (by kernel_rfl) (fun _ _ _ _ _ h => h) (by rfl) (by assumption) ?_
      try simp only [Act.put, List.setIfInBounds_toArray, List.set_cons_zero, List.set_cons_succ]
      refine takeH (v := ?_) 29 rfl rfl rfl rfl (by kernel_rfl) (by kernel_rfl) (by kernel_rfl) (fun _ _ _ _ _ h => h) (by rfl) (by assumption) ?_ ?_
      rotate_left
      · (intro w hSw; (try dsimp only at hSw); go_split_ands; go_simp; try with_reducible rfl)
      try simp only [Act.put, List.setIfInBounds_toArray, List.set_cons_zero, List.set_cons_succ]
      refine wpAnyH_done (by kernel_rfl) ?_ _
      try simp only [Act.put, List.setIfInBounds_toArray, List.set_cons_zero, List.set_cons_succ]
      have HG3 := Lib.hid (HG2.out (fun h => hy0 h.2.1))
      go_wp2
      go_roundw
      case rel => exact ⟨j + 1, ⟨by omega, by go_num⟩, HG3.out, HB1.out.drew⟩
      case measure => simp [intOf]; omega
    have ey : (y == 0) = true := beq_iff_eq.2 hy0
    cases rd
    · have Hrd : Hid True := trivial
      refine wp_region_held_drew (S := (fun w' => w'.cell? ⟨gq, 10, none⟩ = some (.bool false) ∧ w'.cell? ⟨gq, 8, none⟩ = some (.int .i64 rl) ∧ w'.cell? ⟨gx, 8, none⟩ = some (.slice (some ⟨gp, 0, none⟩) n1 n1) ∧ w'.cell? ⟨gx, 7, none⟩ = some (.slice (some ⟨b, o, none⟩) n1 c1) ∧ w'.cell? ⟨gp, j, none⟩ = some (.int .i64 y) ∧ w'.cell? ⟨b, o + k * 13 + 7, none⟩ = some (.int .i64 qf))) (by kernel_rfl) ?_ (fun hHeld => ?_)
      · exact ⟨q10, q8, kp, kr, hpk, c7⟩
      refine takeH (v := ?_) 0 rfl rfl rfl rfl (by kernel_rfl) (by kernel_rfl) (by kernel_rfl) (fun _ _ _ _ _ h => h) (by rfl) (by assumption) ?_ ?_
      rotate_left
      · (intro w hSw; (try dsimp only at hSw); go_split_ands; go_simp; try with_reducible rfl)
      try simp only [Act.put, List.setIfInBounds_toArray, List.set_cons_zero, List.set_cons_succ]
      refine takeH (v := ?_) 1 rfl rfl rfl rfl (by kernel_rfl) (by kernel_rfl) (by kernel_rfl) (fun _ _ _ _ _ h => h) (by rfl) (by assumption) ?_ ?_
      rotate_left
      · (intro w hSw; (try dsimp only at hSw); go_split_ands; go_simp; try with_reducible rfl)
      try simp only [Act.put, List.setIfInBounds_toArray, List.set_cons_zero, List.set_cons_succ]
      refine takeH (v := ?_) 2 rfl rfl rfl rfl (by kernel_rfl) (by kernel_rfl) (by kernel_rfl) (fun _ _ _ _ _ h => h) (by rfl) (by assumption) ?_ ?_
      rotate_left
      · (intro w hSw; (try dsimp only at hSw); go_split_ands; go_simp; try with_reducible rfl)
      try simp only [Act.put, List.setIfInBounds_toArray, List.set_cons_zero, List.set_cons_succ]
      refine takeH (v := ?_) 3 rfl rfl rfl rfl (by kernel_rfl) (by kernel_rfl) (by kernel_rfl) (fun _ _ _ _ _ h => h) (by rfl) (by assumption) ?_ ?_
      rotate_left
      · (intro w hSw; (try dsimp only at hSw); go_split_ands; go_simp; try with_reducible rfl)
      try simp only [Act.put, List.setIfInBounds_toArray, List.set_cons_zero, List.set_cons_succ]
      refine takeH (v := ?_) 4 rfl rfl rfl rfl (by kernel_rfl) (by kernel_rfl) (by kernel_rfl) (fun _ _ _ _ _ h => h) (by rfl) (by assumption) ?_ ?_
      rotate_left
      · (intro w hSw; (try dsimp only at hSw); go_split_ands; go_simp; try with_reducible rfl)
      try simp only [Act.put, List.setIfInBounds_toArray, List.set_cons_zero, List.set_cons_succ]
      refine takeH (v := ?_) 5 rfl rfl rfl rfl (by kernel_rfl) (by kernel_rfl) (by kernel_rfl) (fun _ _ _ _ _ h => h) (by rfl) (by assumption) ?_ ?_
      rotate_left
      · (intro w hSw; (try dsimp only at hSw); go_split_ands; go_simp; try with_reducible rfl)
      try simp only [Act.put, List.setIfInBounds_toArray, List.set_cons_zero, List.set_cons_succ]
      refine takeH (v := ?_) 6 rfl rfl rfl rfl (by kernel_rfl) (by kernel_rfl) (by kernel_rfl) (fun _ _ _ _ _ h => h) (by rfl) (by assumption) ?_ ?_
      rotate_left
      · (intro w hSw; (try dsimp only at hSw); go_split_ands; go_simp; try with_reducible rfl)
      try simp only [Act.put, List.setIfInBounds_toArray, List.set_cons_zero, List.set_cons_succ]
      refine takeH (v := ?_) 7 rfl rfl rfl rfl (by kernel_rfl) (by kernel_rfl) (by kernel_rfl) (fun _ _ _ _ _ h => h) (by rfl) (by assumption) ?_ ?_
      rotate_left
      · (intro w hSw; (try dsimp only at hSw); go_split_ands; go_simp; try with_reducible rfl)
      try simp only [Act.put, List.setIfInBounds_toArray, List.set_cons_zero, List.set_cons_succ]
      refine takeH (v := ?_) 8 rfl rfl rfl rfl (by kernel_rfl) (by kernel_rfl) (by kernel_rfl) (fun _ _ _ _ _ h => h) (by rfl) (by assumption) ?_ ?_
      rotate_left
      · (intro w hSw; (try dsimp only at hSw); go_split_ands; go_simp; try with_reducible rfl)
      try simp only [Act.put, List.setIfInBounds_toArray, List.set_cons_zero, List.set_cons_succ]
      refine takeH (v := ?_) 9 rfl rfl rfl rfl (by kernel_rfl) (by kernel_rfl) (by kernel_rfl) (fun _ _ _ _ _ h => h) (by rfl) (by assumption) ?_ ?_
      rotate_left
      · (intro w hSw; (try dsimp only at hSw); go_split_ands; go_simp; try with_reducible rfl)
      try simp only [Act.put, List.setIfInBounds_toArray, List.set_cons_zero, List.set_cons_succ]
      refine takeH (v := ?_) 10 rfl rfl rfl rfl (by kernel_rfl) (by kernel_rfl) (by kernel_rfl) (fun _ _ _ _ _ h => h) (by rfl) (by assumption) ?_ ?_
      rotate_left
      · (intro w hSw; (try dsimp only at hSw); go_split_ands; go_simp; try with_reducible rfl)
      try simp only [Act.put, List.setIfInBounds_toArray, List.set_cons_zero, List.set_cons_succ]
      refine takeH (v := ?_) 11 rfl rfl rfl rfl (by kernel_rfl) (by kernel_rfl) (by kernel_rfl) (fun _ _ _ _ _ h => h) (by rfl) (by assumption) ?_ ?_
      rotate_left
      · (intro w hSw; (try dsimp only at hSw); go_split_ands; go_simp; try with_reducible rfl)
      try simp only [Act.put, List.setIfInBounds_toArray, List.set_cons_zero, List.set_cons_succ]
      refine takeH (v := ?_) 12 rfl rfl rfl rfl (by kernel_rfl) (by kernel_rfl) (by kernel_rfl) (fun _ _ _ _ _ h => h) (by rfl) (by assumption) ?_ ?_
      rotate_left
      · (intro w hSw; (try dsimp only at hSw); go_split_ands; go_simp; try with_reducible rfl)
      try simp only [Act.put, List.setIfInBounds_toArray, List.set_cons_zero, List.set_cons_succ]
      refine takeH (v := ?_) 13 rfl rfl rfl rfl (by kernel_rfl) (by kernel_rfl) (by kernel_rfl) (fun _ _ _ _ _ h => h) (by rfl) (by assumption) ?_ ?_
      rotate_left
      · (intro w hSw; (try dsimp only at hSw); go_split_ands; go_simp; try with_reducible rfl)
      try simp only [Act.put, List.setIfInBounds_toArray, List.set_cons_zero, List.set_cons_succ]
      refine takeH (v := ?_) 14 rfl rfl rfl rfl (by kernel_rfl) (by kernel_rfl) (by kernel_rfl) (fun _ _ _ _ _ h => h) (by rfl) (by assumption) ?_ ?_
      rotate_left
      · (intro w hSw; (try dsimp only at hSw); go_split_ands; go_simp; try with_reducible rfl)
      try simp only [Act.put, List.setIfInBounds_toArray, List.set_cons_zero, List.set_cons_succ]
      refine takeH (v := ?_) 15 rfl rfl rfl rfl (by kernel_rfl) (by kernel_rfl) (by kernel_rfl) (fun _ _ _ _ _ h => h) (by rfl) (by assumption) ?_ ?_
      rotate_left
      · (intro w hSw; (try dsimp only at hSw); go_split_ands; go_simp; try with_reducible rfl)
      try simp only [Act.put, List.setIfInBounds_toArray, List.set_cons_zero, List.set_cons_succ]
      refine takeH (v := ?_) 16 rfl rfl rfl rfl (by kernel_rfl) (by kernel_rfl) (by kernel_rfl) (fun _ _ _ _ _ h => h) (by rfl) (by assumption) ?_ ?_
      rotate_left
      · (intro w hSw; (try dsimp only at hSw); go_split_ands; go_simp; try with_reducible rfl)
      try simp only [Act.put, List.setIfInBounds_toArray, List.set_cons_zero, List.set_cons_succ]
      refine takeH (v := ?_) 17 rfl rfl rfl rfl (by kernel_rfl) (by kernel_rfl) (by kernel_rfl) (fun _ _ _ _ _ h => h) (by rfl) (by assumption) ?_ ?_
      rotate_left
      · (intro w hSw; (try dsimp only at hSw); go_split_ands; go_simp; try with_reducible rfl)
      try simp only [Act.put, List.setIfInBounds_toArray, List.set_cons_zero, List.set_cons_succ]
      refine skipH 18 rfl rfl (by kernel_rfl) (by kernel_rfl) (by kernel_rfl) (fun _ _ _ _ _ h => h) (by rfl) (by assumption) ?_
      try simp only [Act.put, List.setIfInBounds_toArray, List.set_cons_zero, List.set_cons_succ]
      refine skipH 19 rfl rfl (by kernel_rfl) (by kernel_rfl) (by kernel_rfl) (fun _ _ _ _ _ h => h) (by rfl) (by assumption) ?_
      try simp only [Act.put, List.setIfInBounds_toArray, List.set_cons_zero, List.set_cons_succ]
      refine skipH 20 rfl rfl (by kernel_rfl) (by kernel_rfl) (by kernel_rfl) (fun _ _ _ _ _ h => h) (by rfl) (by assumption) ?_
      try simp only [Act.put, List.setIfInBounds_toArray, List.set_cons_zero, List.set_cons_succ]
      refine skipH 21 rfl rfl (by kernel_rfl) (by kernel_rfl) (by kernel_rfl) (fun _ _ _ _ _ h => h) (by rfl) (by assumption) ?_
      try simp only [Act.put, List.setIfInBounds_toArray, List.set_cons_zero, List.set_cons_succ]
      refine skipH 22 rfl rfl (by kernel_rfl) (by kernel_rfl) (by kernel_rfl) (fun _ _ _ _ _ h => h) (by rfl) (by assumption) ?_
      try simp only [Act.put, List.setIfInBounds_toArray, List.set_cons_zero, List.set_cons_succ]
      refine skipH 23 rfl rfl (by kernel_rfl) (by kernel_rfl) (by kernel_rfl) (fun _ _ _ _ _ h => h) (by rfl) (by assumption) ?_
      try simp only [Act.put, List.setIfInBounds_toArray, List.set_cons_zero, List.set_cons_succ]
      refine skipH 24 rfl rfl (by kernel_rfl) (by kernel_rfl) (by kernel_rfl) (fun _ _ _ _ _ h => h) (by rfl) (by assumption) ?_
      try simp only [Act.put, List.setIfInBounds_toArray, List.set_cons_zero, List.set_cons_succ]
      refine skipH 25 rfl rfl (by kernel_rfl) (by kernel_rfl) (by kernel_rfl) (fun _ _ _ _ _ h => h) (by rfl) (by assumption) ?_
      try simp only [Act.put, List.setIfInBounds_toArray, List.set_cons_zero, List.set_cons_succ]
      refine skipH 26 rfl rfl (by kernel_rfl) (by kernel_rfl) (by kernel_rfl) (fun _ _ _ _ _ h => h) (by rfl) (by assumption) ?_
      try simp only [Act.put, List.setIfInBounds_toArray, List.set_cons_zero, List.set_cons_succ]
      refine skipH 27 rfl rfl (by kernel_rfl) (by kernel_rfl) (by kernel_rfl) (fun _ _ _ _ _ h => h) (by rfl) (by assumption) ?_
      try simp only [Act.put, List.setIfInBounds_toArray, List.set_cons_zero, List.set_cons_succ]
      refine skipH 28 rfl rfl (by kernel_rfl) (by kernel_rfl) (by kernel_rfl) (fun _ _ _ _ _ h => h) (by rfl) (by assumption) ?_
      try simp only [Act.put, List.setIfInBounds_toArray, List.set_cons_zero, List.set_cons_succ]
      refine takeH (v := ?_) 29 rfl rfl rfl rfl (by kernel_rfl) (by kernel_rfl) (by kernel_rfl) (fun _ _ _ _ _ h => h) (by rfl) (by assumption) ?_ ?_
      rotate_left
      · (intro w hSw; (try dsimp only at hSw); go_split_ands; go_simp; try with_reducible rfl)
      try simp only [Act.put, List.setIfInBounds_toArray, List.set_cons_zero, List.set_cons_succ]
      refine wpAnyH_done (by kernel_rfl) ?_ _
      try simp only [Act.put, List.setIfInBounds_toArray, List.set_cons_zero, List.set_cons_succ]
      have HG3 := Lib.hid (HG2.out (fun h => by simp at h))
      go_wp2
      go_roundw
      case rel => exact ⟨j + 1, ⟨by omega, by go_num⟩, HG3.out, HB1.out.drew⟩
      case measure => simp [intOf]; omega
    · have Hrd : Hid True := trivial
      refine wp_region_held_drew (S := (fun w' => w'.cell? ⟨gq, 10, none⟩ = some (.bool true) ∧ w'.cell? ⟨gq, 8, none⟩ = some (.int .i64 rl) ∧ w'.cell? ⟨gx, 8, none⟩ = some (.slice (some ⟨gp, 0, none⟩) n1 n1) ∧ w'.cell? ⟨gx, 7, none⟩ = some (.slice (some ⟨b, o, none⟩) n1 c1) ∧ w'.cell? ⟨gp, j, none⟩ = some (.int .i64 y) ∧ w'.cell? ⟨b, o + k * 13 + 7, none⟩ = some (.int .i64 qf))) (by kernel_rfl) ?_ (fun hHeld => ?_)
      · exact ⟨q10, q8, kp, kr, hpk, c7⟩
      refine takeH (v := ?_) 0 rfl rfl rfl rfl (by kernel_rfl) (by kernel_rfl) (by kernel_rfl) (fun _ _ _ _ _ h => h) (by rfl) (by assumption) ?_ ?_
      rotate_left
      · (intro w hSw; (try dsimp only at hSw); go_split_ands; go_simp; try with_reducible rfl)
      try simp only [Act.put, List.setIfInBounds_toArray, List.set_cons_zero, List.set_cons_succ]
      refine takeH (v := ?_) 1 rfl rfl rfl rfl (by kernel_rfl) (by kernel_rfl) (by kernel_rfl) (fun _ _ _ _ _ h => h) (by rfl) (by assumption) ?_ ?_
      rotate_left
      · (intro w hSw; (try dsimp only at hSw); go_split_ands; go_simp; try with_reducible rfl)
      try simp only [Act.put, List.setIfInBounds_toArray, List.set_cons_zero, List.set_cons_succ]
      refine takeH (v := ?_) 2 rfl rfl rfl rfl (by kernel_rfl) (by kernel_rfl) (by kernel_rfl) (fun _ _ _ _ _ h => h) (by rfl) (by assumption) ?_ ?_
      rotate_left
      · (intro w hSw; (try dsimp only at hSw); go_split_ands; go_simp; try with_reducible rfl)
      try simp only [Act.put, List.setIfInBounds_toArray, List.set_cons_zero, List.set_cons_succ]
      refine takeH (v := ?_) 3 rfl rfl rfl rfl (by kernel_rfl) (by kernel_rfl) (by kernel_rfl) (fun _ _ _ _ _ h => h) (by rfl) (by assumption) ?_ ?_
      rotate_left
      · (intro w hSw; (try dsimp only at hSw); go_split_ands; go_simp; try with_reducible rfl)
      try simp only [Act.put, List.setIfInBounds_toArray, List.set_cons_zero, List.set_cons_succ]
      refine takeH (v := ?_) 4 rfl rfl rfl rfl (by kernel_rfl) (by kernel_rfl) (by kernel_rfl) (fun _ _ _ _ _ h => h) (by rfl) (by assumption) ?_ ?_
      rotate_left
      · (intro w hSw; (try dsimp only at hSw); go_split_ands; go_simp; try with_reducible rfl)
      try simp only [Act.put, List.setIfInBounds_toArray, List.set_cons_zero, List.set_cons_succ]
      refine takeH (v := ?_) 5 rfl rfl rfl rfl (by kernel_rfl) (by kernel_rfl) (by kernel_rfl) (fun _ _ _ _ _ h => h) (by rfl) (by assumption) ?_ ?_
      rotate_left
      · (intro w hSw; (try dsimp only at hSw); go_split_ands; go_simp; try with_reducible rfl)
      try simp only [Act.put, List.setIfInBounds_toArray, List.set_cons_zero, List.set_cons_succ]
      refine takeH (v := ?_) 6 rfl rfl rfl rfl (by kernel_rfl) (by kernel_rfl) (by kernel_rfl) (fun _ _ _ _ _ h => h) (by rfl) (by assumption) ?_ ?_
      rotate_left
      · (intro w hSw; (try dsimp only at hSw); go_split_ands; go_simp; try with_reducible rfl)
      try simp only [Act.put, List.setIfInBounds_toArray, List.set_cons_zero, List.set_cons_succ]
      refine takeH (v := ?_) 7 rfl rfl rfl rfl (by kernel_rfl) (by kernel_rfl) (by kernel_rfl) (fun _ _ _ _ _ h => h) (by rfl) (by assumption) ?_ ?_
      rotate_left
      · (intro w hSw; (try dsimp only at hSw); go_split_ands; go_simp; try with_reducible rfl)
      try simp only [Act.put, List.setIfInBounds_toArray, List.set_cons_zero, List.set_cons_succ]
      refine takeH (v := ?_) 8 rfl rfl rfl rfl (by kernel_rfl) (by kernel_rfl) (by kernel_rfl) (fun _ _ _ _ _ h => h) (by rfl) (by assumption) ?_ ?_
      rotate_left
      · (intro w hSw; (try dsimp only at hSw); go_split_ands; go_simp; try with_reducible rfl)
      try simp only [Act.put, List.setIfInBounds_toArray, List.set_cons_zero, List.set_cons_succ]
      refine takeH (v := ?_) 9 rfl rfl rfl rfl (by kernel_rfl) (by kernel_rfl) (by kernel_rfl) (fun _ _ _ _ _ h => h) (by rfl) (by assumption) ?_ ?_
      rotate_left
      · (intro w hSw; (try dsimp only at hSw); go_split_ands; go_simp; try with_reducible rfl)
      try simp only [Act.put, List.setIfInBounds_toArray, List.set_cons_zero, List.set_cons_succ]
      refine takeH (v := ?_) 10 rfl rfl rfl rfl (by kernel_rfl) (by kernel_rfl) (by kernel_rfl) (fun _ _ _ _ _ h => h) (by rfl) (by assumption) ?_ ?_
      rotate_left
      · (intro w hSw; (try dsimp only at hSw); go_split_ands; go_simp; try with_reducible rfl)
      try simp only [Act.put, List.setIfInBounds_toArray, List.set_cons_zero, List.set_cons_succ]
      refine takeH (v := ?_) 11 rfl rfl rfl rfl (by kernel_rfl) (by kernel_rfl) (by kernel_rfl) (fun _ _ _ _ _ h => h) (by rfl) (by assumption) ?_ ?_
      rotate_left
      · (intro w hSw; (try dsimp only at hSw); go_split_ands; go_simp; try with_reducible rfl)
      try simp only [Act.put, List.setIfInBounds_toArray, List.set_cons_zero, List.set_cons_succ]
      refine takeH (v := ?_) 12 rfl rfl rfl rfl (by kernel_rfl) (by kernel_rfl) (by kernel_rfl) (fun _ _ _ _ _ h => h) (by rfl) (by assumption) ?_ ?_
      rotate_left
      · (intro w hSw; (try dsimp only at hSw); go_split_ands; go_simp; try with_reducible rfl)
      try simp only [Act.put, List.setIfInBounds_toArray, List.set_cons_zero, List.set_cons_succ]
      refine takeH (v := ?_) 13 rfl rfl rfl rfl (by kernel_rfl) (by kernel_rfl) (by kernel_rfl) (fun _ _ _ _ _ h => h) (by rfl) (by assumption) ?_ ?_
      rotate_left
      · (intro w hSw; (try dsimp only at hSw); go_split_ands; go_simp; try with_reducible rfl)
      try simp only [Act.put, List.setIfInBounds_toArray, List.set_cons_zero, List.set_cons_succ]
      refine takeH (v := ?_) 14 rfl rfl rfl rfl (by kernel_rfl) (by kernel_rfl) (by kernel_rfl) (fun _ _ _ _ _ h => h) (by rfl) (by assumption) ?_ ?_
      rotate_left
      · (intro w hSw; (try dsimp only at hSw); go_split_ands; go_simp; try with_reducible rfl)
      try simp only [Act.put, List.setIfInBounds_toArray, List.set_cons_zero, List.set_cons_succ]
      refine takeH (v := ?_) 15 rfl rfl rfl rfl (by kernel_rfl) (by kernel_rfl) (by kernel_rfl) (fun _ _ _ _ _ h => h) (by rfl) (by assumption) ?_ ?_
      rotate_left
      · (intro w hSw; (try dsimp only at hSw); go_split_ands; go_simp; try with_reducible rfl)
      try simp only [Act.put, List.setIfInBounds_toArray, List.set_cons_zero, List.set_cons_succ]
      refine takeH (v := ?_) 16 rfl rfl rfl rfl (by kernel_rfl) (by kernel_rfl) (by kernel_rfl) (fun _ _ _ _ _ h => h) (by rfl) (by assumption) ?_ ?_
      rotate_left
      · (intro w hSw; (try dsimp only at hSw); go_split_ands; go_simp; try with_reducible rfl)
      try simp only [Act.put, List.setIfInBounds_toArray, List.set_cons_zero, List.set_cons_succ]
      refine takeH (v := ?_) 17 rfl rfl rfl rfl (by kernel_rfl) (by kernel_rfl) (by kernel_rfl) (fun _ _ _ _ _ h => h) (by rfl) (by assumption) ?_ ?_
      rotate_left
      · (intro w hSw; (try dsimp only at hSw); go_split_ands; go_simp; try with_reducible rfl)
      try simp only [Act.put, List.setIfInBounds_toArray, List.set_cons_zero, List.set_cons_succ]
      refine takeH (v := ?_) 18 rfl rfl rfl rfl (by kernel_rfl) (by kernel_rfl) (by kernel_rfl) (fun _ _ _ _ _ h => h) (by rfl) (by assumption) ?_ ?_
      rotate_left
      · (intro w hSw; (try dsimp only at hSw); go_split_ands; go_simp; try with_reducible rfl)
      try simp only [Act.put, List.setIfInBounds_toArray, List.set_cons_zero, List.set_cons_succ]
      refine takeH (v := ?_) 19 rfl rfl rfl rfl (by kernel_rfl) (by kernel_rfl) (by kernel_rfl) (fun _ _ _ _ _ h => h) (by rfl) (by assumption) ?_ ?_
      rotate_left
      · (intro w hSw; (try dsimp only at hSw); go_split_ands; go_simp; try with_reducible rfl)
      try simp only [Act.put, List.setIfInBounds_toArray, List.set_cons_zero, List.set_cons_succ]
      refine takeH (v := ?_) 20 rfl rfl rfl rfl (by kernel_rfl) (by kernel_rfl) (by kernel_rfl) (fun _ _ _ _ _ h => h) (by rfl) (by assumption) ?_ ?_
      rotate_left
      · (intro w hSw; (try dsimp only at hSw); go_split_ands; go_simp; try with_reducible rfl)
      try simp only [Act.put, List.setIfInBounds_toArray, List.set_cons_zero, List.set_cons_succ]
      refine takeH (v := ?_) 21 rfl rfl rfl rfl (by kernel_rfl) (by kernel_rfl) (by kernel_rfl) (fun _ _ _ _ _ h => h) (by rfl) (by assumption) ?_ ?_
      rotate_left
      · (intro w hSw; (try dsimp only at hSw); go_split_ands; go_simp; try with_reducible rfl)
      try simp only [Act.put, List.setIfInBounds_toArray, List.set_cons_zero, List.set_cons_succ]
      refine takeH (v := ?_) 22 rfl rfl rfl rfl (by kernel_rfl) (by kernel_rfl) (by kernel_rfl) (fun _ _ _ _ _ h => h) (by rfl) (by assumption) ?_ ?_
      rotate_left
      · (intro w hSw; (try dsimp only at hSw); go_split_ands; go_simp; try with_reducible rfl)
      try simp only [Act.put, List.setIfInBounds_toArray, List.set_cons_zero, List.set_cons_succ]
      refine takeH (v := ?_) 23 rfl rfl rfl rfl (by kernel_rfl) (by kernel_rfl) (by kernel_rfl) (fun _ _ _ _ _ h => h) (by rfl) (by assumption) ?_ ?_
      rotate_left
      · (intro w hSw; (try dsimp only at hSw); go_split_ands; go_simp; try with_reducible rfl)
      try simp only [Act.put, List.setIfInBounds_toArray, List.set_cons_zero, List.set_cons_succ]
      refine takeH (v := ?_) 24 rfl rfl rfl rfl (by kernel_rfl) (by kernel_rfl) (by kernel_rfl) (fun _ _ _ _ _ h => h) (by rfl) (by assumption) ?_ ?_
      rotate_left
      · (intro w hSw; (try dsimp only at hSw); go_split_ands; go_simp; try with_reducible rfl)
      try simp only [Act.put, List.setIfInBounds_toArray, List.set_cons_zero, List.set_cons_succ]
      refine takeH (v := ?_) 25 rfl rfl rfl rfl (by kernel_rfl) (by kernel_rfl) (by kernel_rfl) (fun _ _ _ _ _ h => h) (by rfl) (by assumption) ?_ ?_
      rotate_left
      · (intro w hSw; (try dsimp only at hSw); go_split_ands; go_simp; try with_reducible rfl)
      try simp only [Act.put, List.setIfInBounds_toArray, List.set_cons_zero, List.set_cons_succ]
      refine takeH (v := ?_) 26 rfl rfl rfl rfl (by kernel_rfl) (by kernel_rfl) (by kernel_rfl) (fun _ _ _ _ _ h => h) (by rfl) (by assumption) ?_ ?_
      rotate_left
      · (intro w hSw; (try dsimp only at hSw); go_split_ands; go_simp; try with_reducible rfl)
      try simp only [Act.put, List.setIfInBounds_toArray, List.set_cons_zero, List.set_cons_succ]
      refine takeH (v := ?_) 27 rfl rfl rfl rfl (by kernel_rfl) (by kernel_rfl) (by kernel_rfl) (fun _ _ _ _ _ h => h) (by rfl) (by assumption) ?_ ?_
      rotate_left
      · (intro w hSw; (try dsimp only at hSw); go_split_ands; go_simp; try with_reducible rfl)
      try simp only [Act.put, List.setIfInBounds_toArray, List.set_cons_zero, List.set_cons_succ]
      refine takeH (v := ?_) 28 rfl rfl rfl rfl (by kernel_rfl) (by kernel_rfl) (by kernel_rfl) (fun _ _ _ _ _ h => h) (by rfl) (by assumption) ?_ ?_
      rotate_left
      · (intro w hSw; (try dsimp only at hSw); go_split_ands; go_simp; try with_reducible rfl)
      try simp only [Act.put, List.setIfInBounds_toArray, List.set_cons_zero, List.set_cons_succ]
      refine takeH (v := ?_) 29 rfl rfl rfl rfl (by kernel_rfl) (by kernel_rfl) (by kernel_rfl) (fun _ _ _ _ _ h => h) (by rfl) (by assumption) ?_ ?_
      rotate_left
      · (intro w hSw; (try dsimp only at hSw); go_split_ands; go_simp; try with_reducible rfl)
      try simp only [Act.put, List.setIfInBounds_toArray, List.set_cons_zero, List.set_cons_succ]
      refine wpAnyH_done (by kernel_rfl) ?_ _
      try simp only [Act.put, List.setIfInBounds_toArray, List.set_cons_zero, List.set_cons_succ]
      by_cases hlq : rl < qf
      · have HE : Hid (mayP recs pl k = false) := mayP_no HQk.out HRk.out hjk (HY.out.trans hy0) rfl (by rw [HQf.out]; exact hlq)
        go_wp2
        go_ret
        exact ⟨ret_bool HE.out.symm, HB1.out.drew⟩
      · have HG3 := Lib.hid (HG2.out (fun h => hlq h.2.2.2))
        go_wp2
        go_roundw
        case rel => exact ⟨j + 1, ⟨by omega, by go_num⟩, HG3.out, HB1.out.drew⟩
        case measure => simp [intOf]; omega
end Go.Proofs.Ytjggmimaolddkaa
