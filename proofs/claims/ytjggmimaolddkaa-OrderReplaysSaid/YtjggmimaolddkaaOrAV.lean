import Derived.Test.YtjggmimaolddkaaOrAU
import Derived.Test.YtjggmimaolddkaaOrAT
import Derived.BigQuiet
import Derived.Deep.Cut
import Derived.Test.YtjggmimaolddkaaOrAR
namespace Go.Proofs.Ytjggmimaolddkaa
open Go.RowKit
set_option linter.unusedVariables false
def fewO (c : Cfg) (ps : List (List Ins)) (n : Nat) (rows : List Rx) : Bool :=
 ps.all (fun q => decide (q.length ≤ 40)) && (rows.all (fun x => decide (x.news.length ≤ 20)) && (decide (c.F ≤ 200) && (decide (ps.length ≤ 8) && (decide (n ≤ 12) && decide (rows.length ≤ 12)))))
theorem fewO_yes {c : Cfg} {ps : List (List Ins)} {n : Nat} {rows : List Rx} (h : fewO c ps n rows = true) : (∀ x ∈ rows, x.news.length ≤ 20) ∧ n ≤ 12 ∧ rows.length ≤ 12 := by
 unfold fewO at h
 simp only [Bool.and_eq_true, List.all_eq_true, decide_eq_true_eq] at h
 exact ⟨h.2.1, h.2.2.2.2.1, h.2.2.2.2.2⟩
theorem fewO_p {c : Cfg} {ps : List (List Ins)} {n : Nat} {rows : List Rx} {q : List Ins} (hq : q ∈ ps) (h : 40 < q.length) : fewO c ps n rows = false := by
 unfold fewO
 have : ps.all (fun q => decide (q.length ≤ 40)) = false := List.all_eq_false.2 ⟨q, hq, by simp; omega⟩
 rw [this]; rfl
theorem fewO_x {c : Cfg} {ps : List (List Ins)} {n : Nat} {rows : List Rx} {x : Rx} (hx : x ∈ rows) (h : 20 < x.news.length) : fewO c ps n rows = false := by
 unfold fewO
 have : rows.all (fun x => decide (x.news.length ≤ 20)) = false := List.all_eq_false.2 ⟨x, hx, by simp; omega⟩
 rw [this, Bool.false_and, Bool.and_false]
theorem fewO_end {c : Cfg} {ps : List (List Ins)} {n : Nat} {rows : List Rx} (h1 : ∀ q ∈ ps, q.length ≤ 40) (h2 : ∀ x ∈ rows, x.news.length ≤ 20) : fewO c ps n rows = (decide (c.F ≤ 200) && (decide (ps.length ≤ 8) && (decide (n ≤ 12) && decide (rows.length ≤ 12)))) := by
 unfold fewO
 rw [show ps.all (fun q => decide (q.length ≤ 40)) = true from List.all_eq_true.2 (fun q hq => decide_eq_true (h1 q hq)), show rows.all (fun x => decide (x.news.length ≤ 20)) = true from List.all_eq_true.2 (fun x hx => decide_eq_true (h2 x hx))]
 rfl
theorem replayGo_form (c : Cfg) (ps : List (List Ins)) (recs : List Rc7) : ∀ (l : List Rx) (s : MSt) (n : Nat), (∃ s', replayGo c ps recs l s n = (some s', 0, 0)) ∨ (∃ k x, replayGo c ps recs l s n = (none, k, x) ∧ x ≠ 0 ∧ n ≤ k)
 | [], s, n => .inl ⟨s, rfl⟩
 | x :: l, s, n => by
   rw [replayGo]
   cases hf : findK x.r.key recs 0 with
   | none => exact .inr ⟨n, 4, rfl, by decide, Nat.le_refl _⟩
   | some iq =>
     obtain ⟨i, q⟩ := iq
     show (∃ s', (if x.r.code = 45 then _ else _) = _) ∨ _
     by_cases h45 : x.r.code = 45
     ·rw [if_pos h45]
      rcases replayGo_form c ps recs l s (n + 1) with h | ⟨k, y, h1, h2, h3⟩
      ·exact .inl h
      ·exact .inr ⟨k, y, by simp only [h45, if_true]; exact h1, h2, by omega⟩
     ·rw [if_neg h45]
      by_cases hb : badRun c s x (runRow c ps q s x) ≠ 0
      ·rw [if_pos hb]
       exact .inr ⟨n, _, by simp only [h45, if_false]; rw [if_pos hb], hb, Nat.le_refl _⟩
      ·rw [if_neg hb]
       rcases replayGo_form c ps recs l (afterP s (runRow c ps q s x)) (n + 1) with h | ⟨k, y, h1, h2, h3⟩
       ·exact .inl h
       ·exact .inr ⟨k, y, by simp only [h45, if_false]; rw [if_neg hb]; exact h1, h2, by omega⟩
set_option maxRecDepth 100000 in
set_option maxHeartbeats 8000000 in
theorem ofew_any (c : Cfg) (ps : List (List Ins)) (A0 : Option Addr) (n0 c0 : Nat) (A1 : Option Addr) (n1 c1 : Nat) (rows : List Rx) (A2 : Option Addr) (n2 c2 : Nat) (w : World) (hp : ProgsIn w w.heap.size A0 n0 ps) (h1 : n1 ≤ 9223372036854775807) (hrow : RowsIn w w.heap.size A2 n2 rows) :
 Calls Try.prog 10 #[c.v, .slice A0 n0 c0, .slice A1 n1 c1, .slice A2 n2 c2] w fun e w' => e = .returned (.bool (fewO c ps n1 rows)) ∧ Below w.heap.size w w' := by
 have HP := Lib.hid hp
 have HRow := Lib.hid hrow
 have HL0 := Lib.hid hp.len
 have HL2 := Lib.hid hrow.len
 have hn0 := hp.le
 have hn2 := hrow.rows.le
 unfold maxLen at hn0 hn2
 clear hp hrow
 unfold Cfg.v
 have HC0 : Hid (Bk (w.alloc (.cells #[.int .i64 c.T, .int .i64 c.B, .int .i64 c.W, .int .i64 c.F, .int .u64 c.fi, .int .u64 c.la] 44)) w.heap.size 44 #[.int .i64 c.T, .int .i64 c.B, .int .i64 c.W, .int .i64 c.F, .int .u64 c.fi, .int .u64 c.la]) := Bk.new w _ _
 have HB0 : Hid (Below w.heap.size w (w.alloc (.cells #[.int .i64 c.T, .int .i64 c.B, .int .i64 c.W, .int .i64 c.F, .int .u64 c.fi, .int .u64 c.la] 44))) := (Below.refl _ _).alloc (Nat.le_refl _) _
 go_enter Try.func10, Try.ntmps10
 go_wp2
 go_loopw [15] (fun i wr => ∃ k : Nat, (k ≤ n0 ∧ i = .int .i64 k) ∧ Hid (∀ q ∈ ps.take k, q.length ≤ 40) ∧ Hid (Bk wr w.heap.size 44 #[.int .i64 c.T, .int .i64 c.B, .int .i64 c.W, .int .i64 c.F, .int .u64 c.fi, .int .u64 c.la]) ∧ Hid (Below w.heap.size w wr)) (fun i _ => n0 - (intOf i).toNat)
 case atStart => exact ⟨0, ⟨by omega, rfl⟩, fun q hq => by simp at hq, HC0.out, HB0.out⟩
 case round =>
  obtain ⟨k, ⟨hk, rfl⟩, HF, HC, HB⟩ := hrel
  by_cases hlt : k < n0
  ·have hlti : (k : Int) < (n0 : Int) := by omega
   have hkl : k < ps.length := by rw [HL0.out]; exact hlt
   obtain ⟨b, o, A', c', rfl, hb, hc, hr, hl⟩ := (HP.out.below HB.out).at_ k _ (List.getElem?_eq_getElem hkl)
   have HMem := Lib.hid (List.getElem_mem hkl)
   have HGe : Hid (ps[k]? = some (ps[k]'hkl)) := List.getElem?_eq_getElem hkl
   have hq63 := hr.le
   unfold maxLen at hq63
   obtain ⟨Q, hQ⟩ : ∃ Q, ps[k]'hkl = Q := ⟨_, rfl⟩
   rw [hQ] at hc HMem HGe hq63
   clear hr hl hQ
   by_cases h40 : 40 < Q.length
   ·have HE := Lib.hid (fewO_p (c := c) (n := n1) (rows := rows) HMem.out h40)
    go_wp2
    go_ret
    exact ⟨ret_bool HE.out.symm, HB.out⟩
   ·have HF2 : Hid (∀ q ∈ ps.take (k + 1), q.length ≤ 40) := fun q hq => by
     rw [List.take_add_one, HGe.out] at hq
     rcases List.mem_append.1 hq with h | h
     ·exact HF.out q h
     ·simp at h; subst h; omega
    go_wp2
    go_roundw
    case rel => exact ⟨k + 1, ⟨by omega, by go_num⟩, HF2.out, HC.out, HB.out⟩
    case measure => simp [intOf]; omega
  ·obtain rfl : k = n0 := by omega
   have HF0 : Hid (∀ q ∈ ps, q.length ≤ 40) := fun q hq => HF.out q (by rw [List.take_of_length_le (by rw [HL0.out]; exact Nat.le_refl _)]; exact hq)
   clear HF
   go_wp2
   go_loopw [25] (fun i wq => ∃ z : Nat, (z ≤ n2 ∧ i = .int .i64 z) ∧ Hid (∀ x ∈ rows.take z, x.news.length ≤ 20) ∧ Hid (Bk wq w.heap.size 44 #[.int .i64 c.T, .int .i64 c.B, .int .i64 c.W, .int .i64 c.F, .int .u64 c.fi, .int .u64 c.la]) ∧ Hid (Below w.heap.size w wq)) (fun i _ => n2 - (intOf i).toNat)
   case atStart => exact ⟨0, ⟨by omega, rfl⟩, fun q hq => by simp at hq, HC.out, HB.out⟩
   case round =>
    obtain ⟨z, ⟨hz, rfl⟩, HF, HCq, HBq⟩ := hrel
    by_cases hzl : z < n2
    ·have hzli : (z : Int) < (n2 : Int) := by omega
     have hxl : z < rows.length := by rw [HL2.out]; exact hzl
     obtain ⟨b, o, r, rfl, hb, hrw, hc⟩ := (HRow.out.rows.below HBq.out).rwAt hzl
     obtain ⟨x, hx⟩ : ∃ x, rows[z]? = some x := ⟨_, List.getElem?_eq_getElem hxl⟩
     obtain rfl : x.r = r := by
      rw [List.getElem?_map, hx] at hrw
      simpa using hrw
     have hmem := List.mem_of_getElem? hx
     obtain ⟨nA, nc, hnv, hnr, _⟩ := HRow.out.news x hmem
     have HMem := Lib.hid hmem
     have HGe := Lib.hid hx
     have hx63 := hnr.le
     unfold maxLen at hx63
     obtain ⟨⟨rat, rwho, rtag, rco, rva, rnv⟩, news⟩ := x
     simp only at hnv hc hx63
     subst hnv
     have d0 := hc 0 _ rfl
     have d1 := hc 1 _ rfl
     have d2 := hc 2 _ rfl
     have d3 := hc 3 _ rfl
     have d4 := hc 4 _ rfl
     have d5 := hc 5 _ rfl
     simp only [← Nat.add_assoc, Nat.add_zero] at d0 d1 d2 d3 d4 d5
     have HCn := Lib.hid (HCq.out.alloc (.cells #[.int .i64 rat, .int .i64 rwho, .int .i64 rtag, .int .i64 rco, .int .u64 rva, .slice nA news.length nc] 36))
     have HBn := Lib.hid (HBq.out.alloc HBq.out.size (.cells #[.int .i64 rat, .int .i64 rwho, .int .i64 rtag, .int .i64 rco, .int .u64 rva, .slice nA news.length nc] 36))
     clear hc hrw hx hnr hmem
     by_cases h20 : 20 < news.length
     ·have HE := Lib.hid (fewO_x (c := c) (ps := ps) (n := n1) HMem.out h20)
      go_wp2
      go_ret
      exact ⟨ret_bool HE.out.symm, HBn.out⟩
     ·have HF2 : Hid (∀ x ∈ rows.take (z + 1), x.news.length ≤ 20) := fun x hx => by
       rw [List.take_add_one, HGe.out] at hx
       rcases List.mem_append.1 hx with h | h
       ·exact HF.out x h
       ·simp at h; subst h; show news.length ≤ 20; omega
      go_wp2
      go_roundw
      case rel => exact ⟨z + 1, ⟨by omega, by go_num⟩, HF2.out, HCn.out, HBn.out⟩
      case measure => simp [intOf]; omega
    ·obtain rfl : z = n2 := by omega
     have HFx : Hid (∀ x ∈ rows, x.news.length ≤ 20) := fun q hq => HF.out q (by rw [List.take_of_length_le (by rw [HL2.out]; exact Nat.le_refl _)]; exact hq)
     have HE := Lib.hid (fewO_end (c := c) (n := n1) HF0.out HFx.out)
     rw [HL0.out, HL2.out] at HE
     have j3 : wr.cell? ⟨w.heap.size, 3, none⟩ = some (.int .i64 c.F) := HCq.out.cell 3
     by_cases g1 : c.F ≤ 200
     case neg =>
      go_wp2
      go_ret
      exact ⟨ret_bool (by rw [HE.out]; simp; intros; omega), HBq.out⟩
     by_cases g2 : k ≤ 8
     case neg =>
      go_wp2
      go_ret
      exact ⟨ret_bool (by rw [HE.out]; simp; intros; omega), HBq.out⟩
     by_cases g3 : n1 ≤ 12
     case neg =>
      go_wp2
      go_ret
      exact ⟨ret_bool (by rw [HE.out]; simp; intros; omega), HBq.out⟩
     go_wp2
     go_ret
     exact ⟨ret_bool (by rw [HE.out]; simp [*]; try omega), HBq.out⟩
end Go.Proofs.Ytjggmimaolddkaa
namespace Go.Proofs.Ytjggmimaolddkaa
open Go.RowKit
set_option linter.unusedVariables false
def pv (pl : List Int) : Array Value := (pl.map (Value.int .i64)).toArray
def overP (recs : List Rc7) (pl : List Int) : Bool := (List.range recs.length).all fun j => match recs[j]? with
 | none => true
 | some r => !(r.done && (pl.getD j 0 == 0))
def mayRow (recs : List Rc7) (pl : List Int) (k : Nat) (f : Int) (j : Nat) : Bool := match recs[j]? with
 | none => true
 | some r => !(decide (j ≠ k) && (pl.getD j 0 == 0) && r.done && decide (r.till < f))
def mayP (recs : List Rc7) (pl : List Int) (k : Nat) : Bool := match recs[k]? with
 | none => false
 | some q => (List.range recs.length).all (mayRow recs pl k q.from_) && (pl.getD k 0 == 0)
structure SrIn (w : World) (B0 gx gp : Nat) (c : Cfg) (A0 : Option Addr) (n0 c0 : Nat) (A1 : Option Addr) (n1 c1 : Nat) (ps : List (List Ins)) (recs : List Rc7) (pl : List Int) : Prop where
 x : Bk w gx 103 #[.int .i64 c.T, .int .i64 c.B, .int .i64 c.W, .int .i64 c.F, .int .u64 c.fi, .int .u64 c.la, .slice A0 n0 c0, .slice A1 n1 c1, .slice (some ⟨gp, 0, none⟩) n1 n1]
 p : Bk w gp 3 (pv pl)
 len : pl.length = n1
 rr : RdR w B0 A1 n1 recs
 rp : ProgsIn w B0 A0 n0 ps
 bx : B0 ≤ gx
 bp : B0 ≤ gp
 ne : gx ≠ gp
section
variable {w w' : World} {B0 gx gp n0 c0 n1 c1 : Nat} {c : Cfg} {A0 A1 : Option Addr} {ps : List (List Ins)} {recs : List Rc7} {pl : List Int}
theorem SrIn.size (h : SrIn w B0 gx gp c A0 n0 c0 A1 n1 c1 ps recs pl) : B0 ≤ w.heap.size := Nat.le_trans h.bx (Nat.le_of_lt h.x.lt)
theorem SrIn.below (h : SrIn w B0 gx gp c A0 n0 c0 A1 n1 c1 ps recs pl) (hb : Below w.heap.size w w') : SrIn w' B0 gx gp c A0 n0 c0 A1 n1 c1 ps recs pl :=
 ⟨h.x.below hb h.x.lt, h.p.below hb h.p.lt, h.len, h.rr.below (hb.mono h.size), h.rp.below (hb.mono h.size), h.bx, h.bp, h.ne⟩
theorem SrIn.drew (h : SrIn w B0 gx gp c A0 n0 c0 A1 n1 c1 ps recs pl) : SrIn w.drew B0 gx gp c A0 n0 c0 A1 n1 c1 ps recs pl :=
 ⟨h.x, h.p, h.len, h.rr.drew, h.rp.keep fun _ _ => rfl, h.bx, h.bp, h.ne⟩
theorem SrIn.grown (h : SrIn w B0 gx gp c A0 n0 c0 A1 n1 c1 ps recs pl) {g : Nat} (hg : w.grownBy w' (some g)) (hB : B0 ≤ g) (hx : gx ≠ g) (hp : gp ≠ g) : SrIn w' B0 gx gp c A0 n0 c0 A1 n1 c1 ps recs pl :=
 have hb : Below B0 w w' := (Below.refl _ _).grown hg h.size (fun r e => by cases e; exact hB)
 ⟨h.x.grown hg (fun e => hx (by injection e with e; exact e.symm)), h.p.grown hg (fun e => hp (by injection e with e; exact e.symm)), h.len, h.rr.below hb, h.rp.below hb, h.bx, h.bp, h.ne⟩
theorem SrIn.swap (h : SrIn w B0 gx gp c A0 n0 c0 A1 n1 c1 ps recs pl) {pl' : List Int} (hg : w.grownBy w' (some gp)) (hp : Bk w' gp 3 (pv pl')) (hl : pl'.length = pl.length) : SrIn w' B0 gx gp c A0 n0 c0 A1 n1 c1 ps recs pl' :=
 have hb : Below B0 w w' := (Below.refl _ _).grown hg h.size (fun r e => by cases e; exact h.bp)
 ⟨h.x.grown hg (fun e => h.ne (by injection e with e; exact e.symm)), hp, hl.trans h.len, h.rr.below hb, h.rp.below hb, h.bx, h.bp, h.ne⟩
theorem SrIn.at_ (h : SrIn w B0 gx gp c A0 n0 c0 A1 n1 c1 ps recs pl) {j : Nat} (hj : j < n1) : w.cell? ⟨gp, j, none⟩ = some (.int .i64 (pl.getD j 0)) := by
 rw [h.p.cell]
 unfold pv
 have hl : j < pl.length := by rw [h.len]; exact hj
 rw [List.getElem?_toArray, List.getElem?_map, List.getD_eq_getElem?_getD, List.getElem?_eq_getElem hl]; rfl
theorem SrIn.rcLen (h : SrIn w B0 gx gp c A0 n0 c0 A1 n1 c1 ps recs pl) : recs.length = n1 := h.rr.rcLen
end
theorem overP_no {recs : List Rc7} {pl : List Int} {j : Nat} {r : Rc7} (h : recs[j]? = some r) (hd : r.done = true) (hp : pl.getD j 0 = 0) : overP recs pl = false := by
 unfold overP
 rw [List.all_eq_false]
 refine ⟨j, List.mem_range.2 (List.getElem?_eq_some_iff.1 h).1, ?_⟩
 rw [h]
 simp only [hd, hp]
 decide
theorem overP_yes {recs : List Rc7} {pl : List Int} (h : ∀ j r, recs[j]? = some r → ¬ (r.done = true ∧ pl.getD j 0 = 0)) : overP recs pl = true := by
 unfold overP
 rw [List.all_eq_true]
 intro j hj
 cases hr : recs[j]? with
 | none => rfl
 | some r =>
   have h2 := h j r hr
   show (!(r.done && (pl.getD j 0 == 0))) = true
   cases hd : r.done
   ·rfl
   ·have : ¬ pl.getD j 0 = 0 := fun e => h2 ⟨hd, e⟩
    rw [beq_eq_false_iff_ne.2 this]; rfl
set_option maxRecDepth 100000 in
set_option maxHeartbeats 4000000 in
theorem sover_any {B0 gx gp n0 c0 n1 c1 : Nat} {c : Cfg} {A0 A1 : Option Addr} {ps : List (List Ins)} {recs : List Rc7} {pl : List Int} {w : World} (h : SrIn w B0 gx gp c A0 n0 c0 A1 n1 c1 ps recs pl) :
 Calls Try.prog 43 #[.pointer (some ⟨gx, 0, none⟩)] w fun e w' => e = .returned (.bool (overP recs pl)) ∧ Below w.heap.size w w' := by
 have hn := h.rr.le
 have HS := Lib.hid h
 have HLen := Lib.hid h.rcLen
 unfold maxLen at hn
 have k7 : w.cell? ⟨gx, 7, none⟩ = some (.slice A1 n1 c1) := h.x.cell 7
 clear h
 go_enter Try.func43, Try.ntmps43
 go_wp2
 go_loopw [10] (fun i wr => ∃ k : Nat, (k ≤ n1 ∧ i = .int .i64 k) ∧ Hid (∀ j r, j < k → recs[j]? = some r → ¬ (r.done = true ∧ pl.getD j 0 = 0)) ∧ Hid (Below w.heap.size w wr)) (fun i _ => n1 - (intOf i).toNat)
 case atStart => exact ⟨0, ⟨by omega, rfl⟩, fun j r hj => absurd hj (Nat.not_lt_zero _), Below.refl _ _⟩
 case round =>
  obtain ⟨k, ⟨hk, rfl⟩, HG, HB⟩ := hrel
  by_cases hlt : k < n1
  ·have hlti : (k : Int) < (n1 : Int) := by omega
   have HSr := Lib.hid (HS.out.below HB.out)
   obtain ⟨b, o, r, hA, hb, hrk, hc⟩ := HSr.out.rr.rcAt hlt
   subst hA
   have hpk := HSr.out.at_ hlt
   have kp : wr.cell? ⟨gx, 8, none⟩ = some (.slice (some ⟨gp, 0, none⟩) n1 n1) := HSr.out.x.cell 8
   have HRk := Lib.hid hrk
   obtain ⟨y, hy⟩ : ∃ y, pl.getD k 0 = y := ⟨_, rfl⟩
   rw [hy] at hpk
   have HY := Lib.hid hy
   obtain ⟨rw_, rt, rp, x0, x1, x2, x3, rf, rl, rs, rd, rc, rv⟩ := r
   have d0 := hc 0 _ rfl
   have d1 := hc 1 _ rfl
   have d2 := hc 2 _ rfl
   have d3 := hc 3 _ rfl
   have d4 := hc 4 _ rfl
   have d5 := hc 5 _ rfl
   have d6 := hc 6 _ rfl
   have d7 := hc 7 _ rfl
   have d8 := hc 8 _ rfl
   have d9 := hc 9 _ rfl
   have d10 := hc 10 _ rfl
   have d11 := hc 11 _ rfl
   have d12 := hc 12 _ rfl
   simp only [← Nat.add_assoc, Nat.add_zero] at d0 d1 d2 d3 d4 d5 d6 d7 d8 d9 d10 d11 d12
   clear hc hrk hy
   have hgx : gx < wr.heap.size := HSr.out.x.lt
   have hgp : gp < wr.heap.size := HSr.out.p.lt
   go_upto_region 4 with fail
   obtain ⟨W1, hW1⟩ : ∃ W1, wr.alloc (.cells #[.int .i64 rw_, .int .i64 rt, .int .i64 rp, .int .u64 x0, .int .u64 x1, .int .u64 x2, .int .u64 x3, .int .i64 rf, .int .i64 rl, .int .i64 rs, .bool rd, .int .i64 rc, .int .u64 rv] 41) = W1 := ⟨_, rfl⟩
   have HQ := Lib.hid (show Bk W1 wr.heap.size 41 #[.int .i64 rw_, .int .i64 rt, .int .i64 rp, .int .u64 x0, .int .u64 x1, .int .u64 x2, .int .u64 x3, .int .i64 rf, .int .i64 rl, .int .i64 rs, .bool rd, .int .i64 rc, .int .u64 rv] by rw [← hW1]; exact Bk.new _ _ _)
   have hb1 : Below wr.heap.size wr W1 := by rw [← hW1]; exact (Below.refl _ _).alloc (Nat.le_refl _) _
   have HS1 := Lib.hid (HSr.out.below hb1)
   have HB1 := Lib.hid (HB.out.trans (hb1.mono HB.out.size))
   rw [hW1]
   clear hW1 hb1 d0 d1 d2 d3 d4 d5 d6 d7 d8 d9 d10 d11 d12 hpk kp hgx hgp
   have q10 : W1.cell? ⟨wr.heap.size, 10, none⟩ = some (.bool rd) := HQ.out.cell 10
   have kp : W1.cell? ⟨gx, 8, none⟩ = some (.slice (some ⟨gp, 0, none⟩) n1 n1) := HS1.out.x.cell 8
   have hpk := HS1.out.at_ hlt
   rw [HY.out] at hpk
   cases rd
   ·have HG2 : Hid (∀ j r, j < k + 1 → recs[j]? = some r → ¬ (r.done = true ∧ pl.getD j 0 = 0)) := fun j r hj hr => by
     rcases Nat.lt_or_ge j k with h | h
     ·exact HG.out j r h hr
     ·obtain rfl : j = k := by omega
      rw [HRk.out] at hr
      injection hr with hr
      subst hr
      exact fun h => by simp at h
    go_wp2
    go_roundw
    case rel => exact ⟨k + 1, ⟨by omega, by go_num⟩, HG2.out, HB1.out⟩
    case measure => simp [intOf]; omega
   ·by_cases h0 : y = 0
    ·subst h0
     have HE : Hid (overP recs pl = false) := overP_no HRk.out rfl HY.out
     go_wp2
     go_ret
     exact ⟨ret_bool HE.out.symm, HB1.out⟩
    ·have e0 : (y == 0) = false := beq_eq_false_iff_ne.2 h0
     have HG2 : Hid (∀ j r, j < k + 1 → recs[j]? = some r → ¬ (r.done = true ∧ pl.getD j 0 = 0)) := fun j r hj hr => by
      rcases Nat.lt_or_ge j k with h | h
      ·exact HG.out j r h hr
      ·obtain rfl : j = k := by omega
       exact fun h => h0 (HY.out.symm.trans h.2)
     go_wp2
     go_roundw
     case rel => exact ⟨k + 1, ⟨by omega, by go_num⟩, HG2.out, HB1.out⟩
     case measure => simp [intOf]; omega
  ·obtain rfl : k = n1 := by omega
   have HE : Hid (overP recs pl = true) := overP_yes fun j r hr => HG.out j r (by have := (List.getElem?_eq_some_iff.1 hr).1; rw [HLen.out] at this; exact this) hr
   go_wp2
   go_ret
   exact ⟨ret_bool HE.out.symm, HB.out⟩
set_option maxRecDepth 100000 in
set_option maxHeartbeats 1000000 in
theorem slate_any (q : Rc7) (hq : q.code ≠ 45) (gx : Nat) (w : World) :
 Calls Try.prog 45 #[.pointer (some ⟨gx, 0, none⟩), q.v] w fun e w' => e = .returned (.bool false) ∧ Below w.heap.size w w' := by
 obtain ⟨rw_, rt, rp, x0, x1, x2, x3, rf, rl, rs, rd, rc, rv⟩ := q
 unfold Rc7.v
 simp only at hq ⊢
 have e45 : (rc == 45) = false := beq_eq_false_iff_ne.2 hq
 have HB : Hid (Below w.heap.size w (w.alloc (.cells #[.int .i64 rw_, .int .i64 rt, .int .i64 rp, .int .u64 x0, .int .u64 x1, .int .u64 x2, .int .u64 x3, .int .i64 rf, .int .i64 rl, .int .i64 rs, .bool rd, .int .i64 rc, .int .u64 rv] 41))) := (Below.refl _ _).alloc (Nat.le_refl _) _
 go_enter Try.func45, Try.ntmps45
 go_wp2_with fail
 have HK : Hid (Bk (w.alloc (.cells #[.int .i64 rw_, .int .i64 rt, .int .i64 rp, .int .u64 x0, .int .u64 x1, .int .u64 x2, .int .u64 x3, .int .i64 rf, .int .i64 rl, .int .i64 rs, .bool rd, .int .i64 rc, .int .u64 rv] 41)) w.heap.size 41 #[.int .i64 rw_, .int .i64 rt, .int .i64 rp, .int .u64 x0, .int .u64 x1, .int .u64 x2, .int .u64 x3, .int .i64 rf, .int .i64 rl, .int .i64 rs, .bool rd, .int .i64 rc, .int .u64 rv]) := Bk.new _ _ _
 refine wp_region_held_drew (S := (fun w' => w'.cell? ⟨w.heap.size, 11, none⟩ = some (.int .i64 rc))) (by kernel_rfl) ?_ (fun hHeld => ?_)
 ·exact HK.out.cell 11
 refine takeA 0 ?_
 try simp only [Act.put, pS]
 refine takeA 1 ?_
 try simp only [Act.put, pS]
 refine takeA 2 ?_
 try simp only [Act.put, pS]
 refine takeA 3 ?_
 try simp only [Act.put, pS]
 refine takeA 4 ?_
 try simp only [Act.put, pS]
 refine skipA 5 ?_
 try simp only [Act.put, pS]
 refine skipA 6 ?_
 try simp only [Act.put, pS]
 refine skipA 7 ?_
 try simp only [Act.put, pS]
 refine skipA 8 ?_
 try simp only [Act.put, pS]
 refine skipA 9 ?_
 try simp only [Act.put, pS]
 refine skipA 10 ?_
 try simp only [Act.put, pS]
 refine skipA 11 ?_
 try simp only [Act.put, pS]
 refine skipA 12 ?_
 try simp only [Act.put, pS]
 refine skipA 13 ?_
 try simp only [Act.put, pS]
 refine skipA 14 ?_
 try simp only [Act.put, pS]
 refine takeA 15 ?_
 try simp only [Act.put, pS]
 refine takeA 16 ?_
 try simp only [Act.put, pS]
 refine wpAnyH_done (by kernel_rfl) ?_ _
 try simp only [Act.put, pS]
 go_wp2
 go_ret
 exact ⟨rfl, HB.out.drew⟩
end Go.Proofs.Ytjggmimaolddkaa
