import Derived.Test.YtjggmimaolddkaaOrAW
import Derived.Test.YtjggmimaolddkaaOrAU
import Derived.Deep.DeepCutAuto
import Derived.Test.YtjggmimaolddkaaOrAR
namespace Go.Proofs.Ytjggmimaolddkaa
open Go.RowKit
set_option linter.unusedVariables false
def okRun (r : Rc7) (d : MRun) : Bool := !(r.done && !(decide (d.code = r.code ∧ d.val = r.val)))
def runRc (c : Cfg) (ps : List (List Ins)) (r : Rc7) (s : MSt) : MRun := runP s (codeP ps r.prog) r.args c.F c.W []
def tryP (c : Cfg) (ps : List (List Ins)) (recs : List Rc7) (rec : MSt → List Int → Bool) (s : MSt) (pl : List Int) (k : Nat) : Bool := match recs[k]? with
 | none => false
 | some r => mayP recs pl k && (okRun r (runRc c ps r s) && rec (afterP s (runRc c ps r s)) (pl.set k 1))
def fromP (c : Cfg) (ps : List (List Ins)) (recs : List Rc7) : Nat → MSt → List Int → Bool
 | 0, _, pl => overP recs pl
 | n + 1, s, pl => overP recs pl || (List.range recs.length).any (tryP c ps recs (fromP c ps recs n) s pl)
theorem mayP_zero {recs : List Rc7} {pl : List Int} {k : Nat} (h : mayP recs pl k = true) : pl.getD k 0 = 0 := by
 unfold mayP at h
 cases hq : recs[k]? with
 | none => rw [hq] at h; simp at h
 | some q =>
   rw [hq] at h
   rw [Bool.and_eq_true] at h
   exact beq_iff_eq.1 h.2
theorem count_set {pl : List Int} {k : Nat} (hk : k < pl.length) (h : pl.getD k 0 = 0) : (pl.set k 1).count 0 + 1 = pl.count 0 := by
 induction pl generalizing k with
 | nil => simp at hk
 | cons x l ih =>
   cases k with
   | zero =>
     simp at h
     subst h
     simp
   | succ k =>
     have := ih (k := k) (by simpa using hk) (by simpa using h)
     rw [List.set_cons_succ, List.count_cons, List.count_cons]
     omega
theorem set_back {pl : List Int} {k : Nat} (hk : k < pl.length) (h : pl.getD k 0 = 0) : (pl.set k 1).set k 0 = pl := by
 rw [List.set_set]
 refine List.ext_getElem (by simp) fun i h1 h2 => ?_
 rw [List.getElem_set]
 split
 ·rename_i e
  subst e
  rw [List.getD_eq_getElem?_getD, List.getElem?_eq_getElem hk] at h
  exact h.symm
 ·rfl
theorem pv_set (pl : List Int) (k : Nat) (x : Int) : (pv pl).setIfInBounds k (.int .i64 x) = pv (pl.set k x) := by
 unfold pv
 rw [List.setIfInBounds_toArray, List.map_set]
theorem fromP_no {c : Cfg} {ps : List (List Ins)} {recs : List Rc7} {n : Nat} {s : MSt} {pl : List Int} (ho : overP recs pl = false) (h : ∀ k, k < recs.length → tryP c ps recs (fromP c ps recs (n - 1)) s pl k = false) : fromP c ps recs n s pl = false := by
 cases n with
 | zero => exact ho
 | succ n =>
   rw [fromP, ho, Bool.false_or, List.any_eq_false]
   intro k hk
   have h2 := h k (List.mem_range.1 hk)
   rw [Nat.add_sub_cancel] at h2
   rw [h2]
   simp
theorem fromP_yes {c : Cfg} {ps : List (List Ins)} {recs : List Rc7} {n : Nat} {s : MSt} {pl : List Int} {k : Nat} (hk : k < recs.length) (h : tryP c ps recs (fromP c ps recs n) s pl k = true) : fromP c ps recs (n + 1) s pl = true := by
 rw [fromP]
 have : (List.range recs.length).any (tryP c ps recs (fromP c ps recs n) s pl) = true := List.any_eq_true.2 ⟨k, List.mem_range.2 hk, h⟩
 rw [this, Bool.or_true]
theorem fromP_over {c : Cfg} {ps : List (List Ins)} {recs : List Rc7} {n : Nat} {s : MSt} {pl : List Int} (ho : overP recs pl = true) : fromP c ps recs n s pl = true := by
 cases n with
 | zero => exact ho
 | succ n => rw [fromP, ho]; rfl
theorem grown_in {a b c : World} {g k : Nat} (h : a.grownBy b (some g)) (hg : b.grownBy c (some k)) (hk : a.heap.size ≤ k) : a.grownBy c (some g) := h.andThen hg (fun j hj => by cases hj; exact .inl hk)
theorem grown_on {a b c : World} {g : Nat} (h : a.grownBy b (some g)) (hg : b.grownBy c none) : a.grownBy c (some g) := h.andThen hg (fun j hj => by cases hj)
theorem grown_gg {a b c : World} {g : Nat} (h : a.grownBy b (some g)) (hg : b.grownBy c (some g)) : a.grownBy c (some g) := h.andThen hg (fun j hj => .inr hj)
def slate_gen (r : Rc7) : Prop := ∀ (gx : Nat) (w : World), Calls Try.prog 45 #[.pointer (some ⟨gx, 0, none⟩), r.v] w fun e w' => e = .returned (.bool false) ∧ Below w.heap.size w w'
def FromPost (w : World) (gp : Nat) (pl : List Int) (r : Bool) (e : Ending) (w' : World) : Prop :=
 e = .returned (.bool r) ∧ w.grownBy w' (some gp) ∧ ∃ pl', pl'.length = pl.length ∧ Bk w' gp 3 (pv pl') ∧ (r = false → pl' = pl)
set_option maxRecDepth 100000 in
set_option maxHeartbeats 8000000 in
theorem sfrom_any {B0 gx gp n0 c0 n1 c1 : Nat} {c : Cfg} {A0 A1 : Option Addr} {ps : List (List Ins)} {recs : List Rc7} (hpk : ∀ p ∈ ps, ∀ i ∈ p, i.Ok) (hrk : ∀ q ∈ recs, q.Ok ∧ q.code ≠ 45) (hcR : c.Right) (n : Nat) :
 ∀ (pl : List Int) (s : MSt) (B nb sb mb : Nat) (w : World), SrIn w B0 gx gp c A0 n0 c0 A1 n1 c1 ps recs pl → StIn w B nb sb mb s → SOk s → pl.count 0 ≤ n → nb + 1000 * n ≤ 1000000000 → sb ≠ gp →
 Calls Try.prog 31 #[.pointer (some ⟨gx, 0, none⟩), .pointer (some ⟨sb, 0, none⟩)] w (FromPost w gp pl (fromP c ps recs n s pl)) := by
 induction n using Nat.strongRecOn with
 | ind n ih =>
 intro pl s B nb sb mb w hsr hst hok hcn hnb hne
 have hn := hsr.rr.le
 unfold maxLen at hn
 have HSR := Lib.hid hsr
 have HST := Lib.hid hst
 have HOK := Lib.hid hok
 have HNe := Lib.hid hne
 have HCn := Lib.hid hcn
 have HIH := Lib.hid ih
 have HPk := Lib.hid hpk
 have HRk := Lib.hid hrk
 have HRt := Lib.hid hcR
 have HLen := Lib.hid hsr.rcLen
 clear hsr hst hok hne hcn ih hpk hrk hcR
 obtain ⟨RES, hRES⟩ : ∃ RES, fromP c ps recs n s pl = RES := ⟨_, rfl⟩
 have HRES := Lib.hid hRES
 rw [hRES]
 clear hRES
 go_enter Try.func31, Try.ntmps31
 cases hov : overP recs pl with
 | true =>
   have HE : Hid (RES = true) := HRES.out.symm.trans (fromP_over hov)
   go_wp2_with
    (go_at_call 43
     refine (sover_any HSR.out).mono ?_
     rintro e W1 ⟨rfl, hb1⟩
     have HS1 := Lib.hid (HSR.out.below hb1)
     have HG1 := Lib.hid (grown_on (World.grownBy.refl w (some gp)) (bk_grown_below hb1))
     rw [hov]
     clear hb1)
   go_ret
   exact ⟨ret_bool HE.out.symm, HG1.out, pl, rfl, HS1.out.p, fun _ => rfl⟩
 | false =>
 have k7 : w.cell? ⟨gx, 7, none⟩ = some (.slice A1 n1 c1) := HSR.out.x.cell 7
 go_upto_region 3 with
  (go_at_call 43
   refine (sover_any HSR.out).mono ?_
   rintro e W1 ⟨rfl, hb1⟩
   have HS1 := Lib.hid (HSR.out.below hb1)
   have HG1 := Lib.hid (grown_on (World.grownBy.refl w (some gp)) (bk_grown_below hb1))
   have HST := Lib.hid (HST.out.more (bk_grown_below hb1))
   rw [hov]
   clear hb1)
 have HOv := Lib.hid hov
 clear hov k7
 have k7 : W1.cell? ⟨gx, 7, none⟩ = some (.slice A1 n1 c1) := HS1.out.x.cell 7
 go_wp2
 go_loopw [16] (fun i wr => ∃ k : Nat, (k ≤ n1 ∧ i = .int .i64 k) ∧ Hid (∀ z, z < k → tryP c ps recs (fromP c ps recs (n - 1)) s pl z = false) ∧ Hid (SrIn wr B0 gx gp c A0 n0 c0 A1 n1 c1 ps recs pl) ∧ Hid (StIn wr B nb sb mb s) ∧ Hid (w.grownBy wr (some gp))) (fun i _ => n1 - (intOf i).toNat)
 case atStart => exact ⟨0, ⟨by omega, rfl⟩, fun z hz => absurd hz (Nat.not_lt_zero _), HS1.out, HST.out, HG1.out⟩
 case round =>
  obtain ⟨k, ⟨hk, rfl⟩, HT, HS, HSt, HG⟩ := hrel
  by_cases hlt : k < n1
  case neg =>
   obtain rfl : k = n1 := by omega
   have HE : Hid (RES = false) := HRES.out.symm.trans (fromP_no HOv.out (by rw [HLen.out]; exact HT.out))
   go_wp2
   go_ret
   exact ⟨ret_bool HE.out.symm, HG.out, pl, rfl, HS.out.p, fun _ => rfl⟩
  have hlti : (k : Int) < (n1 : Int) := by omega
  obtain ⟨b, o, r, hA, hb, hrk, hc⟩ := HS.out.rr.rcAt hlt
  subst hA
  have HRq := Lib.hid hrk
  have HRo := Lib.hid (HRk.out r (List.mem_of_getElem? hrk))
  obtain ⟨D, hD⟩ : ∃ D, runRc c ps r s = D := ⟨_, rfl⟩
  have HTk : Hid (tryP c ps recs (fromP c ps recs (n - 1)) s pl k = (mayP recs pl k && (okRun r D && fromP c ps recs (n - 1) (afterP s D) (pl.set k 1)))) := by
   show _ = _
   unfold tryP
   rw [HRq.out, ← hD]
  have HLt : Hid (slate_gen r) := fun gx w => slate_any r HRo.out.2 gx w
  obtain ⟨rw_, rt, rp, a0, a1, a2, a3, rf, rl, rs, rd, rc, rv⟩ := r
  have HD : Hid (runP s (codeP ps rp) [a0, a1, a2, a3] c.F c.W [] = D) := hD
  have HArg : Hid (∀ a ∈ [a0, a1, a2, a3], U64 a) := HRo.out.1.args
  have d0 := hc 0 _ rfl
  have d1 := hc 1 _ rfl
  have d2 := hc 2 _ rfl
  have d3 := hc 3 _ rfl
  have d4 := hc 4 _ rfl
  have d5 := hc 5 _ rfl
  have d6 := hc 6 _ rfl
  have d7 := hc 7 _ rfl
  have d8 := hc 8 _ rfl
  have d9 := hc 9 _ rfl
  have d10 := hc 10 _ rfl
  have d11 := hc 11 _ rfl
  have d12 := hc 12 _ rfl
  simp only [← Nat.add_assoc, Nat.add_zero] at d0 d1 d2 d3 d4 d5 d6 d7 d8 d9 d10 d11 d12
  clear hc hrk hD HRo
  go_upto_region 6 with fail
  obtain ⟨W2, hW2⟩ : ∃ W2, wr.alloc (.cells #[.int .i64 rw_, .int .i64 rt, .int .i64 rp, .int .u64 a0, .int .u64 a1, .int .u64 a2, .int .u64 a3, .int .i64 rf, .int .i64 rl, .int .i64 rs, .bool rd, .int .i64 rc, .int .u64 rv] 41) = W2 := ⟨_, rfl⟩
  have HQ := Lib.hid (show Bk W2 wr.heap.size 41 #[.int .i64 rw_, .int .i64 rt, .int .i64 rp, .int .u64 a0, .int .u64 a1, .int .u64 a2, .int .u64 a3, .int .i64 rf, .int .i64 rl, .int .i64 rs, .bool rd, .int .i64 rc, .int .u64 rv] by rw [← hW2]; exact Bk.new _ _ _)
  have hb2 : Below wr.heap.size wr W2 := by rw [← hW2]; exact (Below.refl _ _).alloc (Nat.le_refl _) _
  have HGq := Lib.hid (show wr.heap.size ≠ gp from (Nat.ne_of_lt HS.out.p.lt).symm)
  have HGw := Lib.hid HG.out.size
  have HS := Lib.hid (HS.out.below hb2)
  have HSt := Lib.hid (HSt.out.more (bk_grown_below hb2))
  have HG := Lib.hid (grown_on HG.out (bk_grown_below hb2))
  rw [hW2]
  obtain ⟨gq, hgq⟩ : ∃ gq, wr.heap.size = gq := ⟨_, rfl⟩
  rw [hgq] at HQ HGq HGw ⊢
  clear hW2 hb2 hgq d0 d1 d2 d3 d4 d5 d6 d7 d8 d9 d10 d11 d12
  cases hmay : mayP recs pl k with
  | false =>
    have HT2 : Hid (∀ z, z < k + 1 → tryP c ps recs (fromP c ps recs (n - 1)) s pl z = false) := fun z hz => by
     rcases Nat.lt_or_ge z k with h | h
     ·exact HT.out z h
     ·obtain rfl : z = k := by omega
      rw [HTk.out, hmay]; rfl
    go_wp2_with
     (go_at_call 44
      refine (smay_any HS.out k hlt).mono ?_
      rintro e W3 ⟨rfl, hb3⟩
      have HS := Lib.hid (HS.out.below hb3)
      have HSt := Lib.hid (HSt.out.more (bk_grown_below hb3))
      have HG := Lib.hid (grown_on HG.out (bk_grown_below hb3))
      rw [hmay]
      clear hb3)
    go_roundw
    case rel => exact ⟨k + 1, ⟨by omega, by go_num⟩, HT2.out, HS.out, HSt.out, HG.out⟩
    case measure => simp [intOf]; omega
  | true =>
  have hz0 := mayP_zero hmay
  have hkl : k < pl.length := by rw [HS.out.len]; exact hlt
  have hcs := count_set hkl hz0
  have hcn := HCn.out
  obtain ⟨m, hm⟩ : ∃ m, n = m + 1 := ⟨n - 1, by omega⟩
  have HBk := Lib.hid (set_back hkl hz0)
  have HM := Lib.hid hm
  have hcm : (pl.set k 1).count 0 ≤ m := by omega
  have HCm := Lib.hid hcm
  rw [hmay, Bool.true_and] at HTk
  have HMay := Lib.hid hmay
  go_upto_region 8 with (first
   | (go_at_call 44
      refine (smay_any HS.out k hlt).mono ?_
      rintro e W3 ⟨rfl, hb3⟩
      have HS := Lib.hid (HS.out.below hb3)
      have HQ := Lib.hid (HQ.out.below hb3 HQ.out.lt)
      have HSt := Lib.hid (HSt.out.more (bk_grown_below hb3))
      have HG := Lib.hid (grown_on HG.out (bk_grown_below hb3))
      rw [hmay]
      clear hb3)
   | (go_at_call 39
      refine (mclone_any B nb sb mb s _ HSt.out).mono ?_
      rintro e W4 ⟨sb2, mb2, rfl, hst2, hb4⟩
      have HN2 := Lib.hid (show W3.heap.size ≤ sb2 ∧ gx ≠ sb2 ∧ gp ≠ sb2 ∧ gq ≠ sb2 ∧ sb ≠ sb2 ∧ B0 ≤ sb2 ∧ w.heap.size ≤ sb2 from ⟨hst2.bs, Nat.ne_of_lt (Nat.lt_of_lt_of_le HS.out.x.lt hst2.bs), Nat.ne_of_lt (Nat.lt_of_lt_of_le HS.out.p.lt hst2.bs), Nat.ne_of_lt (Nat.lt_of_lt_of_le HQ.out.lt hst2.bs), Nat.ne_of_lt (Nat.lt_of_lt_of_le HSt.out.st.lt hst2.bs), Nat.le_trans HS.out.size hst2.bs, Nat.le_trans HG.out.size hst2.bs⟩)
      have HS := Lib.hid (HS.out.below hb4)
      have HQ := Lib.hid (HQ.out.below hb4 HQ.out.lt)
      have HSt := Lib.hid (HSt.out.more (bk_grown_below hb4))
      have HG := Lib.hid (grown_on HG.out (bk_grown_below hb4))
      have HC2 := Lib.hid hst2
      clear hst2 hb4))
  clear hcs hcn hm hcm hmay
  have j0 : W4.cell? ⟨gx, 6, none⟩ = some (.slice A0 n0 c0) := HS.out.x.cell 6
  have j1 : W4.cell? ⟨gq, 2, none⟩ = some (.int .i64 rp) := HQ.out.cell 2
  have j2 : W4.cell? ⟨gq, 3, none⟩ = some (.int .u64 a0) := HQ.out.cell 3
  have j3 : W4.cell? ⟨gq, 4, none⟩ = some (.int .u64 a1) := HQ.out.cell 4
  have j4 : W4.cell? ⟨gq, 5, none⟩ = some (.int .u64 a2) := HQ.out.cell 5
  have j5 : W4.cell? ⟨gq, 6, none⟩ = some (.int .u64 a3) := HQ.out.cell 6
  have j6 : W4.cell? ⟨gx, 3, none⟩ = some (.int .i64 c.F) := HS.out.x.cell 3
  have j7 : W4.cell? ⟨gx, 2, none⟩ = some (.int .i64 c.W) := HS.out.x.cell 2
  go_cut [8] (fun v wx => ∃ (gd mb' : Nat) (dA : Option Addr) (dc : Nat), v = .pointer (some ⟨gd, 0, none⟩) ∧ Hid (Bk wx gd 80 #[.int .i64 D.code, .int .u64 D.val, .int .i64 D.steps, .int .i64 D.writes, .slice dA D.news.length dc]) ∧ Hid (StIn wx W3.heap.size (nb + ([] : List Int).length + c.F.toNat) sb2 mb' (afterP s D)) ∧ Hid (SOk (afterP s D)) ∧ Hid (Bk wx gq 41 #[.int .i64 rw_, .int .i64 rt, .int .i64 rp, .int .u64 a0, .int .u64 a1, .int .u64 a2, .int .u64 a3, .int .i64 rf, .int .i64 rl, .int .i64 rs, .bool rd, .int .i64 rc, .int .u64 rv]) ∧ Hid (SrIn wx B0 gx gp c A0 n0 c0 (some ⟨b, o, none⟩) n1 c1 ps recs pl) ∧ Hid (StIn wx B nb sb mb s) ∧ Hid (w.grownBy wx (some gp)) ∧ Hid (sb2 ≠ gd))
  case first =>
   as_aux_lemma =>
    refine wp_region_held_drew (S := (fun w' => w'.cell? ⟨gx, 6, none⟩ = some (.slice A0 n0 c0) ∧ w'.cell? ⟨gq, 2, none⟩ = some (.int .i64 rp) ∧ w'.cell? ⟨gq, 3, none⟩ = some (.int .u64 a0) ∧ w'.cell? ⟨gq, 4, none⟩ = some (.int .u64 a1) ∧ w'.cell? ⟨gq, 5, none⟩ = some (.int .u64 a2) ∧ w'.cell? ⟨gq, 6, none⟩ = some (.int .u64 a3) ∧ w'.cell? ⟨gx, 3, none⟩ = some (.int .i64 c.F) ∧ w'.cell? ⟨gx, 2, none⟩ = some (.int .i64 c.W))) (by kernel_rfl) ?_ (fun hHeld => ?_)
    ·exact ⟨j0, j1, j2, j3, j4, j5, j6, j7⟩
    refine takeA 0 ?_
    try simp only [Act.put, pS]
    refine takeA 1 ?_
    try simp only [Act.put, pS]
    refine takeA 2 ?_
    try simp only [Act.put, pS]
    refine takeA 3 ?_
    try simp only [Act.put, pS]
    refine takeA 4 ?_
    try simp only [Act.put, pS]
    refine takeA 5 ?_
    try simp only [Act.put, pS]
    refine takeA 6 ?_
    try simp only [Act.put, pS]
    refine takeA 7 ?_
    try simp only [Act.put, pS]
    refine takeA 9 ?_
    try simp only [Act.put, pS]
    refine takeA 10 ?_
    try simp only [Act.put, pS]
    refine takeA 11 ?_
    try simp only [Act.put, pS]
    refine takeA 12 ?_
    try simp only [Act.put, pS]
    refine takeA 13 ?_
    try simp only [Act.put, pS]
    refine takeA 14 ?_
    try simp only [Act.put, pS]
    refine takeA 15 ?_
    try simp only [Act.put, pS]
    refine takeA 16 ?_
    try simp only [Act.put, pS]
    refine takeA 17 ?_
    try simp only [Act.put, pS]
    refine takeA 18 ?_
    try simp only [Act.put, pS]
    refine takeA 19 ?_
    try simp only [Act.put, pS]
    refine takeA 20 ?_
    try simp only [Act.put, pS]
    refine takeA 21 ?_
    try simp only [Act.put, pS]
    have HQ := Lib.hid HQ.out.drew
    have HS := Lib.hid HS.out.drew
    have HSt := Lib.hid (HSt.out.more (grown_drew _ _))
    have HC2 := Lib.hid (HC2.out.more (grown_drew _ _))
    have HG := Lib.hid (grown_on HG.out (grown_drew _ _))
    obtain ⟨V0, hV0⟩ : ∃ V0, W4.drew = V0 := ⟨_, rfl⟩
    rw [hV0] at hHeld HQ HS HSt HC2 HG ⊢
    clear hV0 j0 j1 j2 j3 j4 j5 j6 j7
    refine comeH2 8 23 rfl rfl rfl rfl rfl rfl rfl rfl (by kernel_rfl) (by rfl) (by rfl) (fun K hK => ?_) (fun K hK => ?_)
    ·go_simp
     refine (ocode_any ps A0 n0 c0 rp _ (HS.out.rp.more HS.out.size)).mono ?_
     rintro e wz ⟨⟨cA, cc, rfl, hcr, hcl⟩, hwc⟩
     rw [hwc]
     have HCr := Lib.hid hcr
     clear hcr hcl hwc
     go_simp
     refine hK.out _ _ ?_ (fun hHeld => ?_)
     ·exact ⟨HS.out.x.cell 6, HQ.out.cell 2, HQ.out.cell 3, HQ.out.cell 4, HQ.out.cell 5, HQ.out.cell 6, HS.out.x.cell 3, HS.out.x.cell 2⟩
     clear hK K
     try simp only [Act.put, pS]
     refine comeH2 22 23 rfl rfl rfl rfl rfl rfl rfl rfl (by kernel_rfl) (by rfl) (by rfl) (fun K hK => ?_) (fun K hK => ?_)
     ·go_simp
      refine (run_any W3.heap.size nb sb2 mb2 s (codeP ps rp) cA _ cc [a0, a1, a2, a3] c.F c.W [] none 0 _ HC2.out HOK.out HCr.out (code_ok HPk.out rp) rfl HArg.out (by have := HRt.out.F; omega) (by have := HRt.out.W; omega) (Rd.nil _ _ _ _) (by simp) (Nat.le_refl _) (by simp) (by omega)).mono ?_
      rintro e w6 hrp
      rw [HD.out] at hrp
      obtain ⟨⟨nv, mb', rfl, hst, hown, _, _⟩, hok6, hg6⟩ := hrp
      obtain ⟨dA, dc, rfl, _⟩ := Rd.of_own hown
      unfold doneV
      have HQ := Lib.hid (HQ.out.grown hg6 (fun e => HN2.out.2.2.2.1 (by injection e with e; exact e.symm)))
      have HS := Lib.hid (HS.out.grown hg6 HN2.out.2.2.2.2.2.1 HN2.out.2.1 HN2.out.2.2.1)
      have HSt := Lib.hid (HSt.out.other HC2.out.st hg6 HN2.out.2.2.2.2.1)
      have HG := Lib.hid (grown_in HG.out hg6 HN2.out.2.2.2.2.2.2)
      have HC2 := Lib.hid hst
      have HO6 := Lib.hid hok6
      clear hst hown hg6 hok6
      go_simp
      refine hK.out _ _ ?_ (fun hHeld => ?_)
      ·exact ⟨HS.out.x.cell 6, HQ.out.cell 2, HQ.out.cell 3, HQ.out.cell 4, HQ.out.cell 5, HQ.out.cell 6, HS.out.x.cell 3, HS.out.x.cell 2⟩
      clear hK K
      try simp only [Act.put, pS]
      refine comeH 23 rfl rfl rfl rfl (by kernel_rfl) (by rfl) (fun K hK => ?_)
      go_simp
      obtain ⟨W7, hW7⟩ : ∃ W7, w6.alloc (.cells #[.int .i64 0, .int .u64 0, .int .i64 0, .int .i64 0, .slice none 0 0] 80) = W7 := ⟨_, rfl⟩
      have HDn := Lib.hid (show Bk W7 w6.heap.size 80 #[.int .i64 0, .int .u64 0, .int .i64 0, .int .i64 0, .slice none 0 0] by rw [← hW7]; exact Bk.new _ _ _)
      have hb7 : Below w6.heap.size w6 W7 := by rw [← hW7]; exact (Below.refl _ _).alloc (Nat.le_refl _) _
      have HGd := Lib.hid (show gx ≠ w6.heap.size ∧ gp ≠ w6.heap.size ∧ gq ≠ w6.heap.size ∧ sb ≠ w6.heap.size ∧ sb2 ≠ w6.heap.size ∧ B0 ≤ w6.heap.size ∧ w.heap.size ≤ w6.heap.size from ⟨Nat.ne_of_lt HS.out.x.lt, Nat.ne_of_lt HS.out.p.lt, Nat.ne_of_lt HQ.out.lt, Nat.ne_of_lt HSt.out.st.lt, Nat.ne_of_lt HC2.out.st.lt, HS.out.size, HG.out.size⟩)
      have HQ := Lib.hid (HQ.out.below hb7 HQ.out.lt)
      have HS := Lib.hid (HS.out.below hb7)
      have HSt := Lib.hid (HSt.out.more (bk_grown_below hb7))
      have HC2 := Lib.hid (HC2.out.more (bk_grown_below hb7))
      have HG := Lib.hid (grown_on HG.out (bk_grown_below hb7))
      rw [hW7]
      obtain ⟨gd, hgd⟩ : ∃ gd, w6.heap.size = gd := ⟨_, rfl⟩
      rw [hgd] at HDn HGd ⊢
      clear hW7 hb7 hgd
      refine hK.out _ _ ?_ (fun hHeld => ?_)
      ·exact ⟨HS.out.x.cell 6, HQ.out.cell 2, HQ.out.cell 3, HQ.out.cell 4, HQ.out.cell 5, HQ.out.cell 6, HS.out.x.cell 3, HS.out.x.cell 2⟩
      clear hK K
      try simp only [Act.put, pS]
      have z0 : W7.cell? ⟨gd, 0, none⟩ = some (.int .i64 0) := HDn.out.cell 0
      have y0 := HDn.out.frozen 0
      have z1 : W7.cell? ⟨gd, 1, none⟩ = some (.int .u64 0) := HDn.out.cell 1
      have y1 := HDn.out.frozen 1
      have z2 : W7.cell? ⟨gd, 2, none⟩ = some (.int .i64 0) := HDn.out.cell 2
      have y2 := HDn.out.frozen 2
      have z3 : W7.cell? ⟨gd, 3, none⟩ = some (.int .i64 0) := HDn.out.cell 3
      have y3 := HDn.out.frozen 3
      have z4 : W7.cell? ⟨gd, 4, none⟩ = some (.slice none 0 0) := HDn.out.cell 4
      have y4 := HDn.out.frozen 4
      refine comeH 24 rfl rfl rfl rfl (by kernel_rfl) (by rfl) (fun K hK => ?_)
      go_simp
      obtain ⟨W8, hW8⟩ : ∃ W8, (((((W7.setCell ⟨gd, 0, none⟩ (.int .i64 D.code)).setCell ⟨gd, 1, none⟩ (.int .u64 D.val)).setCell ⟨gd, 2, none⟩ (.int .i64 D.steps)).setCell ⟨gd, 3, none⟩ (.int .i64 D.writes)).setCell ⟨gd, 4, none⟩ (.slice dA D.news.length dc)) = W8 := ⟨_, rfl⟩
      have hg8 : W7.grownBy W8 (some gd) := by rw [← hW8]; exact grown_five _ _ _ _ _ _ _
      have HC2 := Lib.hid (HC2.out.other HDn.out hg8 HGd.out.2.2.2.2.1)
      have HSt := Lib.hid (HSt.out.other HDn.out hg8 HGd.out.2.2.2.1)
      have HDn := Lib.hid (show Bk W8 gd 80 #[.int .i64 D.code, .int .u64 D.val, .int .i64 D.steps, .int .i64 D.writes, .slice dA D.news.length dc] by rw [← hW8]; exact HDn.out.five _ _ _ _ _)
      have HQ := Lib.hid (HQ.out.grown hg8 (fun e => HGd.out.2.2.1 (by injection e with e; exact e.symm)))
      have HS := Lib.hid (HS.out.grown hg8 HGd.out.2.2.2.2.2.1 HGd.out.1 HGd.out.2.1)
      have HG := Lib.hid (grown_in HG.out hg8 HGd.out.2.2.2.2.2.2)
      rw [hW8]
      clear hW8 hg8 z0 y0 z1 y1 z2 y2 z3 y3 z4 y4
      refine hK.out _ _ ?_ (fun hHeld => ?_)
      ·exact ⟨HS.out.x.cell 6, HQ.out.cell 2, HQ.out.cell 3, HQ.out.cell 4, HQ.out.cell 5, HQ.out.cell 6, HS.out.x.cell 3, HS.out.x.cell 2⟩
      clear hK K
      try simp only [Act.put, pS]
      refine wpAnyH_done (by kernel_rfl) ?_ _
      try simp only [Act.put, pS]
      go_wp2_with fail
      go_meet
      exact ⟨gd, mb', dA, dc, rfl, HDn.out, HC2.out, HO6.out, HQ.out, HS.out, HSt.out, HG.out, HGd.out.2.2.2.2.1⟩
     ·go_simp
      obtain ⟨W7, hW7⟩ : ∃ W7, V0.alloc (.cells #[.int .i64 0, .int .u64 0, .int .i64 0, .int .i64 0, .slice none 0 0] 80) = W7 := ⟨_, rfl⟩
      have HDn := Lib.hid (show Bk W7 V0.heap.size 80 #[.int .i64 0, .int .u64 0, .int .i64 0, .int .i64 0, .slice none 0 0] by rw [← hW7]; exact Bk.new _ _ _)
      have hb7 : Below V0.heap.size V0 W7 := by rw [← hW7]; exact (Below.refl _ _).alloc (Nat.le_refl _) _
      have HGd := Lib.hid (show gx ≠ V0.heap.size ∧ gp ≠ V0.heap.size ∧ gq ≠ V0.heap.size ∧ sb ≠ V0.heap.size ∧ sb2 ≠ V0.heap.size ∧ B0 ≤ V0.heap.size ∧ w.heap.size ≤ V0.heap.size from ⟨Nat.ne_of_lt HS.out.x.lt, Nat.ne_of_lt HS.out.p.lt, Nat.ne_of_lt HQ.out.lt, Nat.ne_of_lt HSt.out.st.lt, Nat.ne_of_lt HC2.out.st.lt, HS.out.size, HG.out.size⟩)
      have HQ := Lib.hid (HQ.out.below hb7 HQ.out.lt)
      have HCr := Lib.hid ((HCr.out.below hb7).more hb7.size)
      have HS := Lib.hid (HS.out.below hb7)
      have HSt := Lib.hid (HSt.out.more (bk_grown_below hb7))
      have HC2 := Lib.hid (HC2.out.more (bk_grown_below hb7))
      have HG := Lib.hid (grown_on HG.out (bk_grown_below hb7))
      rw [hW7]
      obtain ⟨gd, hgd⟩ : ∃ gd, V0.heap.size = gd := ⟨_, rfl⟩
      rw [hgd] at HDn HGd ⊢
      clear hW7 hb7 hgd
      refine hK.out _ _ ?_ (fun hHeld => ?_)
      ·exact ⟨HS.out.x.cell 6, HQ.out.cell 2, HQ.out.cell 3, HQ.out.cell 4, HQ.out.cell 5, HQ.out.cell 6, HS.out.x.cell 3, HS.out.x.cell 2⟩
      clear hK K
      try simp only [Act.put, pS]
      refine comeH 22 rfl rfl rfl rfl (by kernel_rfl) (by rfl) (fun K hK => ?_)
      go_simp
      refine (run_any W3.heap.size nb sb2 mb2 s (codeP ps rp) cA _ cc [a0, a1, a2, a3] c.F c.W [] none 0 _ HC2.out HOK.out HCr.out (code_ok HPk.out rp) rfl HArg.out (by have := HRt.out.F; omega) (by have := HRt.out.W; omega) (Rd.nil _ _ _ _) (by simp) (Nat.le_refl _) (by simp) (by omega)).mono ?_
      rintro e w6 hrp
      rw [HD.out] at hrp
      obtain ⟨⟨nv, mb', rfl, hst, hown, _, _⟩, hok6, hg6⟩ := hrp
      obtain ⟨dA, dc, rfl, _⟩ := Rd.of_own hown
      unfold doneV
      have HQ := Lib.hid (HQ.out.grown hg6 (fun e => HN2.out.2.2.2.1 (by injection e with e; exact e.symm)))
      have HS := Lib.hid (HS.out.grown hg6 HN2.out.2.2.2.2.2.1 HN2.out.2.1 HN2.out.2.2.1)
      have HSt := Lib.hid (HSt.out.other HC2.out.st hg6 HN2.out.2.2.2.2.1)
      have HG := Lib.hid (grown_in HG.out hg6 HN2.out.2.2.2.2.2.2)
      have HDn := Lib.hid (HDn.out.grown hg6 (fun e => HGd.out.2.2.2.2.1 (by injection e with e)))
      have HC2 := Lib.hid hst
      have HO6 := Lib.hid hok6
      clear hst hown hg6 hok6
      go_simp
      refine hK.out _ _ ?_ (fun hHeld => ?_)
      ·exact ⟨HS.out.x.cell 6, HQ.out.cell 2, HQ.out.cell 3, HQ.out.cell 4, HQ.out.cell 5, HQ.out.cell 6, HS.out.x.cell 3, HS.out.x.cell 2⟩
      clear hK K
      try simp only [Act.put, pS]
      have z0 : w6.cell? ⟨gd, 0, none⟩ = some (.int .i64 0) := HDn.out.cell 0
      have y0 := HDn.out.frozen 0
      have z1 : w6.cell? ⟨gd, 1, none⟩ = some (.int .u64 0) := HDn.out.cell 1
      have y1 := HDn.out.frozen 1
      have z2 : w6.cell? ⟨gd, 2, none⟩ = some (.int .i64 0) := HDn.out.cell 2
      have y2 := HDn.out.frozen 2
      have z3 : w6.cell? ⟨gd, 3, none⟩ = some (.int .i64 0) := HDn.out.cell 3
      have y3 := HDn.out.frozen 3
      have z4 : w6.cell? ⟨gd, 4, none⟩ = some (.slice none 0 0) := HDn.out.cell 4
      have y4 := HDn.out.frozen 4
      refine comeH 24 rfl rfl rfl rfl (by kernel_rfl) (by rfl) (fun K hK => ?_)
      go_simp
      obtain ⟨W8, hW8⟩ : ∃ W8, (((((w6.setCell ⟨gd, 0, none⟩ (.int .i64 D.code)).setCell ⟨gd, 1, none⟩ (.int .u64 D.val)).setCell ⟨gd, 2, none⟩ (.int .i64 D.steps)).setCell ⟨gd, 3, none⟩ (.int .i64 D.writes)).setCell ⟨gd, 4, none⟩ (.slice dA D.news.length dc)) = W8 := ⟨_, rfl⟩
      have hg8 : w6.grownBy W8 (some gd) := by rw [← hW8]; exact grown_five _ _ _ _ _ _ _
      have HC2 := Lib.hid (HC2.out.other HDn.out hg8 HGd.out.2.2.2.2.1)
      have HSt := Lib.hid (HSt.out.other HDn.out hg8 HGd.out.2.2.2.1)
      have HDn := Lib.hid (show Bk W8 gd 80 #[.int .i64 D.code, .int .u64 D.val, .int .i64 D.steps, .int .i64 D.writes, .slice dA D.news.length dc] by rw [← hW8]; exact HDn.out.five _ _ _ _ _)
      have HQ := Lib.hid (HQ.out.grown hg8 (fun e => HGd.out.2.2.1 (by injection e with e; exact e.symm)))
      have HS := Lib.hid (HS.out.grown hg8 HGd.out.2.2.2.2.2.1 HGd.out.1 HGd.out.2.1)
      have HG := Lib.hid (grown_in HG.out hg8 HGd.out.2.2.2.2.2.2)
      rw [hW8]
      clear hW8 hg8 z0 y0 z1 y1 z2 y2 z3 y3 z4 y4
      refine hK.out _ _ ?_ (fun hHeld => ?_)
      ·exact ⟨HS.out.x.cell 6, HQ.out.cell 2, HQ.out.cell 3, HQ.out.cell 4, HQ.out.cell 5, HQ.out.cell 6, HS.out.x.cell 3, HS.out.x.cell 2⟩
      clear hK K
      try simp only [Act.put, pS]
      refine wpAnyH_done (by kernel_rfl) ?_ _
      try simp only [Act.put, pS]
      go_wp2_with fail
      go_meet
      exact ⟨gd, mb', dA, dc, rfl, HDn.out, HC2.out, HO6.out, HQ.out, HS.out, HSt.out, HG.out, HGd.out.2.2.2.2.1⟩
    ·go_simp
     obtain ⟨W7, hW7⟩ : ∃ W7, V0.alloc (.cells #[.int .i64 0, .int .u64 0, .int .i64 0, .int .i64 0, .slice none 0 0] 80) = W7 := ⟨_, rfl⟩
     have HDn := Lib.hid (show Bk W7 V0.heap.size 80 #[.int .i64 0, .int .u64 0, .int .i64 0, .int .i64 0, .slice none 0 0] by rw [← hW7]; exact Bk.new _ _ _)
     have hb7 : Below V0.heap.size V0 W7 := by rw [← hW7]; exact (Below.refl _ _).alloc (Nat.le_refl _) _
     have HGd := Lib.hid (show gx ≠ V0.heap.size ∧ gp ≠ V0.heap.size ∧ gq ≠ V0.heap.size ∧ sb ≠ V0.heap.size ∧ sb2 ≠ V0.heap.size ∧ B0 ≤ V0.heap.size ∧ w.heap.size ≤ V0.heap.size from ⟨Nat.ne_of_lt HS.out.x.lt, Nat.ne_of_lt HS.out.p.lt, Nat.ne_of_lt HQ.out.lt, Nat.ne_of_lt HSt.out.st.lt, Nat.ne_of_lt HC2.out.st.lt, HS.out.size, HG.out.size⟩)
     have HQ := Lib.hid (HQ.out.below hb7 HQ.out.lt)
     have HS := Lib.hid (HS.out.below hb7)
     have HSt := Lib.hid (HSt.out.more (bk_grown_below hb7))
     have HC2 := Lib.hid (HC2.out.more (bk_grown_below hb7))
     have HG := Lib.hid (grown_on HG.out (bk_grown_below hb7))
     rw [hW7]
     obtain ⟨gd, hgd⟩ : ∃ gd, V0.heap.size = gd := ⟨_, rfl⟩
     rw [hgd] at HDn HGd ⊢
     clear hW7 hb7 hgd
     refine hK.out _ _ ?_ (fun hHeld => ?_)
     ·exact ⟨HS.out.x.cell 6, HQ.out.cell 2, HQ.out.cell 3, HQ.out.cell 4, HQ.out.cell 5, HQ.out.cell 6, HS.out.x.cell 3, HS.out.x.cell 2⟩
     clear hK K
     try simp only [Act.put, pS]
     refine comeH 8 rfl rfl rfl rfl (by kernel_rfl) (by rfl) (fun K hK => ?_)
     go_simp
     refine (ocode_any ps A0 n0 c0 rp _ (HS.out.rp.more HS.out.size)).mono ?_
     rintro e wz ⟨⟨cA, cc, rfl, hcr, hcl⟩, hwc⟩
     rw [hwc]
     have HCr := Lib.hid hcr
     clear hcr hcl hwc
     go_simp
     refine hK.out _ _ ?_ (fun hHeld => ?_)
     ·exact ⟨HS.out.x.cell 6, HQ.out.cell 2, HQ.out.cell 3, HQ.out.cell 4, HQ.out.cell 5, HQ.out.cell 6, HS.out.x.cell 3, HS.out.x.cell 2⟩
     clear hK K
     try simp only [Act.put, pS]
     refine comeH 22 rfl rfl rfl rfl (by kernel_rfl) (by rfl) (fun K hK => ?_)
     go_simp
     refine (run_any W3.heap.size nb sb2 mb2 s (codeP ps rp) cA _ cc [a0, a1, a2, a3] c.F c.W [] none 0 _ HC2.out HOK.out HCr.out (code_ok HPk.out rp) rfl HArg.out (by have := HRt.out.F; omega) (by have := HRt.out.W; omega) (Rd.nil _ _ _ _) (by simp) (Nat.le_refl _) (by simp) (by omega)).mono ?_
     rintro e w6 hrp
     rw [HD.out] at hrp
     obtain ⟨⟨nv, mb', rfl, hst, hown, _, _⟩, hok6, hg6⟩ := hrp
     obtain ⟨dA, dc, rfl, _⟩ := Rd.of_own hown
     unfold doneV
     have HQ := Lib.hid (HQ.out.grown hg6 (fun e => HN2.out.2.2.2.1 (by injection e with e; exact e.symm)))
     have HS := Lib.hid (HS.out.grown hg6 HN2.out.2.2.2.2.2.1 HN2.out.2.1 HN2.out.2.2.1)
     have HSt := Lib.hid (HSt.out.other HC2.out.st hg6 HN2.out.2.2.2.2.1)
     have HG := Lib.hid (grown_in HG.out hg6 HN2.out.2.2.2.2.2.2)
     have HDn := Lib.hid (HDn.out.grown hg6 (fun e => HGd.out.2.2.2.2.1 (by injection e with e)))
     have HC2 := Lib.hid hst
     have HO6 := Lib.hid hok6
     clear hst hown hg6 hok6
     go_simp
     refine hK.out _ _ ?_ (fun hHeld => ?_)
     ·exact ⟨HS.out.x.cell 6, HQ.out.cell 2, HQ.out.cell 3, HQ.out.cell 4, HQ.out.cell 5, HQ.out.cell 6, HS.out.x.cell 3, HS.out.x.cell 2⟩
     clear hK K
     try simp only [Act.put, pS]
     have z0 : w6.cell? ⟨gd, 0, none⟩ = some (.int .i64 0) := HDn.out.cell 0
     have y0 := HDn.out.frozen 0
     have z1 : w6.cell? ⟨gd, 1, none⟩ = some (.int .u64 0) := HDn.out.cell 1
     have y1 := HDn.out.frozen 1
     have z2 : w6.cell? ⟨gd, 2, none⟩ = some (.int .i64 0) := HDn.out.cell 2
     have y2 := HDn.out.frozen 2
     have z3 : w6.cell? ⟨gd, 3, none⟩ = some (.int .i64 0) := HDn.out.cell 3
     have y3 := HDn.out.frozen 3
     have z4 : w6.cell? ⟨gd, 4, none⟩ = some (.slice none 0 0) := HDn.out.cell 4
     have y4 := HDn.out.frozen 4
     refine comeH 24 rfl rfl rfl rfl (by kernel_rfl) (by rfl) (fun K hK => ?_)
     go_simp
     obtain ⟨W8, hW8⟩ : ∃ W8, (((((w6.setCell ⟨gd, 0, none⟩ (.int .i64 D.code)).setCell ⟨gd, 1, none⟩ (.int .u64 D.val)).setCell ⟨gd, 2, none⟩ (.int .i64 D.steps)).setCell ⟨gd, 3, none⟩ (.int .i64 D.writes)).setCell ⟨gd, 4, none⟩ (.slice dA D.news.length dc)) = W8 := ⟨_, rfl⟩
     have hg8 : w6.grownBy W8 (some gd) := by rw [← hW8]; exact grown_five _ _ _ _ _ _ _
     have HC2 := Lib.hid (HC2.out.other HDn.out hg8 HGd.out.2.2.2.2.1)
     have HSt := Lib.hid (HSt.out.other HDn.out hg8 HGd.out.2.2.2.1)
     have HDn := Lib.hid (show Bk W8 gd 80 #[.int .i64 D.code, .int .u64 D.val, .int .i64 D.steps, .int .i64 D.writes, .slice dA D.news.length dc] by rw [← hW8]; exact HDn.out.five _ _ _ _ _)
     have HQ := Lib.hid (HQ.out.grown hg8 (fun e => HGd.out.2.2.1 (by injection e with e; exact e.symm)))
     have HS := Lib.hid (HS.out.grown hg8 HGd.out.2.2.2.2.2.1 HGd.out.1 HGd.out.2.1)
     have HG := Lib.hid (grown_in HG.out hg8 HGd.out.2.2.2.2.2.2)
     rw [hW8]
     clear hW8 hg8 z0 y0 z1 y1 z2 y2 z3 y3 z4 y4
     refine hK.out _ _ ?_ (fun hHeld => ?_)
     ·exact ⟨HS.out.x.cell 6, HQ.out.cell 2, HQ.out.cell 3, HQ.out.cell 4, HQ.out.cell 5, HQ.out.cell 6, HS.out.x.cell 3, HS.out.x.cell 2⟩
     clear hK K
     try simp only [Act.put, pS]
     refine wpAnyH_done (by kernel_rfl) ?_ _
     try simp only [Act.put, pS]
     go_wp2_with fail
     go_meet
     exact ⟨gd, mb', dA, dc, rfl, HDn.out, HC2.out, HO6.out, HQ.out, HS.out, HSt.out, HG.out, HGd.out.2.2.2.2.1⟩
  case rest =>
  obtain ⟨gd, mb', dA, dc, rfl, HDn, HC2, HO6, HQ, HS, HSt, HG, HSd⟩ := hcut
  clear j0 j1 j2 j3 j4 j5 j6 j7
  have q10 : wc.cell? ⟨gq, 10, none⟩ = some (.bool rd) := HQ.out.cell 10
  have q11 : wc.cell? ⟨gq, 11, none⟩ = some (.int .i64 rc) := HQ.out.cell 11
  have q12 : wc.cell? ⟨gq, 12, none⟩ = some (.int .u64 rv) := HQ.out.cell 12
  have k0 : wc.cell? ⟨gd, 0, none⟩ = some (.int .i64 D.code) := HDn.out.cell 0
  have k1 : wc.cell? ⟨gd, 1, none⟩ = some (.int .u64 D.val) := HDn.out.cell 1
  have hneq := fun W => neq_res D.code D.val rc rv W
  have HL2 : Hid (∀ W, Calls Try.prog 45 #[.pointer (some ⟨gx, 0, none⟩), .agg #[.int .i64 rw_, .int .i64 rt, .int .i64 rp, .int .u64 a0, .int .u64 a1, .int .u64 a2, .int .u64 a3, .int .i64 rf, .int .i64 rl, .int .i64 rs, .bool rd, .int .i64 rc, .int .u64 rv]] W fun e w' => e = .returned (.bool false) ∧ Below W.heap.size W w') := fun W => HLt.out gx W
  have HOkR : Hid (okRun ⟨rw_, rt, rp, a0, a1, a2, a3, rf, rl, rs, rd, rc, rv⟩ D = !(rd && !(decide (D.code = rc ∧ D.val = rv)))) := rfl
  have HFm : Hid (fromP c ps recs (n - 1) (afterP s D) (pl.set k 1) = fromP c ps recs m (afterP s D) (pl.set k 1)) := by show _ = _; rw [HM.out, Nat.add_sub_cancel]
  have hmn : m < n := by have := HM.out; omega
  cases rd with
  | false =>
    have HTr : Hid (tryP c ps recs (fromP c ps recs (n - 1)) s pl k = fromP c ps recs m (afterP s D) (pl.set k 1)) := by
     show _ = _
     rw [HTk.out, HOkR.out, HFm.out]; rfl
    go_upto_region 12 with fail
    obtain ⟨wl, hwl⟩ : ∃ wl, wc = wl := ⟨_, rfl⟩
    subst hwl
    have kp : wc.cell? ⟨gx, 8, none⟩ = some (.slice (some ⟨gp, 0, none⟩) n1 n1) := HS.out.x.cell 8
    have kk := HS.out.at_ hlt
    have kf := HS.out.p.frozen k
    go_upto_region 13 with fail
    obtain ⟨W9, hW9⟩ : ∃ W9, wc.setCell ⟨gp, k, none⟩ (.int .i64 1) = W9 := ⟨_, rfl⟩
    have hg9 : wc.grownBy W9 (some gp) := by rw [← hW9]; exact grown_set _ _ _ _
    have hp9 : Bk W9 gp 3 (pv (pl.set k 1)) := by rw [← hW9, ← pv_set]; exact HS.out.p.set_ k _
    have HC2 := Lib.hid (HC2.out.other HS.out.p hg9 (fun e => HN2.out.2.2.1 e.symm))
    have HSt := Lib.hid (HSt.out.other HS.out.p hg9 HNe.out)
    have HS := Lib.hid (HS.out.swap hg9 hp9 (by simp))
    have HG := Lib.hid (grown_gg HG.out hg9)
    rw [hW9]
    clear hW9 hg9 hp9 kp kk kf
    cases hR2 : fromP c ps recs m (afterP s D) (pl.set k 1) with
    | true =>
      have HE : Hid (RES = true) := by
       show _ = _
       rw [← HRES.out, HM.out]
       refine fromP_yes (k := k) (by rw [HLen.out]; exact hlt) ?_
       have h := HTr.out
       rw [HM.out, Nat.add_sub_cancel] at h
       exact h.trans hR2
      have hih := HIH.out m hmn (pl.set k 1) (afterP s D) W3.heap.size (nb + ([] : List Int).length + c.F.toNat) sb2 mb' W9 HS.out HC2.out HO6.out HCm.out (by have := HRt.out.F; simp only [List.length_nil]; omega) (fun e => HN2.out.2.2.1 e.symm)
      rw [hR2] at hih
      have HIh := Lib.hid hih
      clear hih hR2
      go_wp2_with
       (go_at_call 31
        refine (HIh.out).mono ?_
        rintro e wv ⟨rfl, hgv, plv, hlv, hbv, _⟩
        have HG := Lib.hid (grown_gg HG.out hgv)
        have HPv := Lib.hid hbv
        have HLv := Lib.hid hlv
        clear hgv hbv hlv)
      go_ret
      exact ⟨ret_bool HE.out.symm, HG.out, plv, HLv.out.trans (List.length_set ..), HPv.out, fun h => by rw [HE.out] at h; cases h⟩
    | false =>
      have HT2 : Hid (∀ z, z < k + 1 → tryP c ps recs (fromP c ps recs (n - 1)) s pl z = false) := fun z hz => by
       rcases Nat.lt_or_ge z k with h | h
       ·exact HT.out z h
       ·obtain rfl : z = k := by omega
        rw [HTr.out, hR2]
      have hih := HIH.out m hmn (pl.set k 1) (afterP s D) W3.heap.size (nb + ([] : List Int).length + c.F.toNat) sb2 mb' W9 HS.out HC2.out HO6.out HCm.out (by have := HRt.out.F; simp only [List.length_nil]; omega) (fun e => HN2.out.2.2.1 e.symm)
      rw [hR2] at hih
      have HIh := Lib.hid hih
      clear hih hR2
      go_upto_region 15 with
       (go_at_call 31
        refine (HIh.out).mono ?_
        rintro e wv ⟨rfl, hgv, plv, hlv, hbv, hev⟩
        obtain rfl := hev rfl
        have HSt := Lib.hid (HSt.out.other HS.out.p hgv HNe.out)
        have HS := Lib.hid (HS.out.swap hgv hbv rfl)
        have HG := Lib.hid (grown_gg HG.out hgv)
        clear hgv hbv hlv hev)
      have kp : wv.cell? ⟨gx, 8, none⟩ = some (.slice (some ⟨gp, 0, none⟩) n1 n1) := HS.out.x.cell 8
      have kk := HS.out.at_ hlt
      have kf := HS.out.p.frozen k
      go_upto_region 16 with fail
      obtain ⟨Wx, hWx⟩ : ∃ Wx, wv.setCell ⟨gp, k, none⟩ (.int .i64 0) = Wx := ⟨_, rfl⟩
      have hgx : wv.grownBy Wx (some gp) := by rw [← hWx]; exact grown_set _ _ _ _
      have hpx : Bk Wx gp 3 (pv pl) := by
       have h : Bk Wx gp 3 (pv ((pl.set k 1).set k 0)) := by rw [← hWx, ← pv_set]; exact HS.out.p.set_ k _
       rw [HBk.out] at h
       exact h
      have HSt := Lib.hid (HSt.out.other HS.out.p hgx HNe.out)
      have HS := Lib.hid (HS.out.swap hgx hpx (show pl.length = (pl.set k 1).length by rw [List.length_set]))
      have HG := Lib.hid (grown_gg HG.out hgx)
      rw [hWx]
      clear hWx hgx hpx kp kk kf
      go_wp2
      go_roundw
      case rel => exact ⟨k + 1, ⟨by omega, by go_num⟩, HT2.out, HS.out, HSt.out, HG.out⟩
      case measure => simp [intOf]; omega
  | true =>
    cases hdd : decide (D.code = rc ∧ D.val = rv) with
    | false =>
      rw [hdd] at hneq HOkR
      have HT2 : Hid (∀ z, z < k + 1 → tryP c ps recs (fromP c ps recs (n - 1)) s pl z = false) := fun z hz => by
       rcases Nat.lt_or_ge z k with h | h
       ·exact HT.out z h
       ·obtain rfl : z = k := by omega
        rw [HTk.out, HOkR.out]; rfl
      have q0 : wc.cell? ⟨gq, 0, none⟩ = some (.int .i64 rw_) := HQ.out.cell 0
      have q1 : wc.cell? ⟨gq, 1, none⟩ = some (.int .i64 rt) := HQ.out.cell 1
      have q2 : wc.cell? ⟨gq, 2, none⟩ = some (.int .i64 rp) := HQ.out.cell 2
      have q3 : wc.cell? ⟨gq, 3, none⟩ = some (.int .u64 a0) := HQ.out.cell 3
      have q4 : wc.cell? ⟨gq, 4, none⟩ = some (.int .u64 a1) := HQ.out.cell 4
      have q5 : wc.cell? ⟨gq, 5, none⟩ = some (.int .u64 a2) := HQ.out.cell 5
      have q6 : wc.cell? ⟨gq, 6, none⟩ = some (.int .u64 a3) := HQ.out.cell 6
      have q7 : wc.cell? ⟨gq, 7, none⟩ = some (.int .i64 rf) := HQ.out.cell 7
      have q8 : wc.cell? ⟨gq, 8, none⟩ = some (.int .i64 rl) := HQ.out.cell 8
      have q9 : wc.cell? ⟨gq, 9, none⟩ = some (.int .i64 rs) := HQ.out.cell 9
      clear hdd
      go_wp2_with
       (go_at_call 45
        refine (HL2.out _).mono ?_
        rintro e wl ⟨rfl, hb9⟩
        have HS := Lib.hid (HS.out.below hb9)
        have HSt := Lib.hid (HSt.out.more (bk_grown_below hb9))
        have HG := Lib.hid (grown_on HG.out (bk_grown_below hb9))
        clear hb9)
      go_roundw
      case rel => exact ⟨k + 1, ⟨by omega, by go_num⟩, HT2.out, HS.out, HSt.out, HG.out⟩
      case measure => simp [intOf]; omega
    | true =>
      rw [hdd] at hneq HOkR
      have HTr : Hid (tryP c ps recs (fromP c ps recs (n - 1)) s pl k = fromP c ps recs m (afterP s D) (pl.set k 1)) := by
       show _ = _
       rw [HTk.out, HOkR.out, HFm.out]; rfl
      have q0 : wc.cell? ⟨gq, 0, none⟩ = some (.int .i64 rw_) := HQ.out.cell 0
      have q1 : wc.cell? ⟨gq, 1, none⟩ = some (.int .i64 rt) := HQ.out.cell 1
      have q2 : wc.cell? ⟨gq, 2, none⟩ = some (.int .i64 rp) := HQ.out.cell 2
      have q3 : wc.cell? ⟨gq, 3, none⟩ = some (.int .u64 a0) := HQ.out.cell 3
      have q4 : wc.cell? ⟨gq, 4, none⟩ = some (.int .u64 a1) := HQ.out.cell 4
      have q5 : wc.cell? ⟨gq, 5, none⟩ = some (.int .u64 a2) := HQ.out.cell 5
      have q6 : wc.cell? ⟨gq, 6, none⟩ = some (.int .u64 a3) := HQ.out.cell 6
      have q7 : wc.cell? ⟨gq, 7, none⟩ = some (.int .i64 rf) := HQ.out.cell 7
      have q8 : wc.cell? ⟨gq, 8, none⟩ = some (.int .i64 rl) := HQ.out.cell 8
      have q9 : wc.cell? ⟨gq, 9, none⟩ = some (.int .i64 rs) := HQ.out.cell 9
      clear hdd
      go_upto_region 12 with
       (go_at_call 45
        refine (HL2.out _).mono ?_
        rintro e wl ⟨rfl, hb9⟩
        have HS := Lib.hid (HS.out.below hb9)
        have HSt := Lib.hid (HSt.out.more (bk_grown_below hb9))
        have HC2 := Lib.hid (HC2.out.more (bk_grown_below hb9))
        have HG := Lib.hid (grown_on HG.out (bk_grown_below hb9))
        clear hb9)
      have kp : wl.cell? ⟨gx, 8, none⟩ = some (.slice (some ⟨gp, 0, none⟩) n1 n1) := HS.out.x.cell 8
      have kk := HS.out.at_ hlt
      have kf := HS.out.p.frozen k
      go_upto_region 13 with fail
      obtain ⟨W9, hW9⟩ : ∃ W9, wl.setCell ⟨gp, k, none⟩ (.int .i64 1) = W9 := ⟨_, rfl⟩
      have hg9 : wl.grownBy W9 (some gp) := by rw [← hW9]; exact grown_set _ _ _ _
      have hp9 : Bk W9 gp 3 (pv (pl.set k 1)) := by rw [← hW9, ← pv_set]; exact HS.out.p.set_ k _
      have HC2 := Lib.hid (HC2.out.other HS.out.p hg9 (fun e => HN2.out.2.2.1 e.symm))
      have HSt := Lib.hid (HSt.out.other HS.out.p hg9 HNe.out)
      have HS := Lib.hid (HS.out.swap hg9 hp9 (by simp))
      have HG := Lib.hid (grown_gg HG.out hg9)
      rw [hW9]
      clear hW9 hg9 hp9 kp kk kf
      cases hR2 : fromP c ps recs m (afterP s D) (pl.set k 1) with
      | true =>
        have HE : Hid (RES = true) := by
         show _ = _
         rw [← HRES.out, HM.out]
         refine fromP_yes (k := k) (by rw [HLen.out]; exact hlt) ?_
         have h := HTr.out
         rw [HM.out, Nat.add_sub_cancel] at h
         exact h.trans hR2
        have hih := HIH.out m hmn (pl.set k 1) (afterP s D) W3.heap.size (nb + ([] : List Int).length + c.F.toNat) sb2 mb' W9 HS.out HC2.out HO6.out HCm.out (by have := HRt.out.F; simp only [List.length_nil]; omega) (fun e => HN2.out.2.2.1 e.symm)
        rw [hR2] at hih
        have HIh := Lib.hid hih
        clear hih hR2
        go_wp2_with
         (go_at_call 31
          refine (HIh.out).mono ?_
          rintro e wv ⟨rfl, hgv, plv, hlv, hbv, _⟩
          have HG := Lib.hid (grown_gg HG.out hgv)
          have HPv := Lib.hid hbv
          have HLv := Lib.hid hlv
          clear hgv hbv hlv)
        go_ret
        exact ⟨ret_bool HE.out.symm, HG.out, plv, HLv.out.trans (List.length_set ..), HPv.out, fun h => by rw [HE.out] at h; cases h⟩
      | false =>
        have HT2 : Hid (∀ z, z < k + 1 → tryP c ps recs (fromP c ps recs (n - 1)) s pl z = false) := fun z hz => by
         rcases Nat.lt_or_ge z k with h | h
         ·exact HT.out z h
         ·obtain rfl : z = k := by omega
          rw [HTr.out, hR2]
        have hih := HIH.out m hmn (pl.set k 1) (afterP s D) W3.heap.size (nb + ([] : List Int).length + c.F.toNat) sb2 mb' W9 HS.out HC2.out HO6.out HCm.out (by have := HRt.out.F; simp only [List.length_nil]; omega) (fun e => HN2.out.2.2.1 e.symm)
        rw [hR2] at hih
        have HIh := Lib.hid hih
        clear hih hR2
        go_upto_region 15 with
         (go_at_call 31
          refine (HIh.out).mono ?_
          rintro e wv ⟨rfl, hgv, plv, hlv, hbv, hev⟩
          obtain rfl := hev rfl
          have HSt := Lib.hid (HSt.out.other HS.out.p hgv HNe.out)
          have HS := Lib.hid (HS.out.swap hgv hbv rfl)
          have HG := Lib.hid (grown_gg HG.out hgv)
          clear hgv hbv hlv hev)
        have kp : wv.cell? ⟨gx, 8, none⟩ = some (.slice (some ⟨gp, 0, none⟩) n1 n1) := HS.out.x.cell 8
        have kk := HS.out.at_ hlt
        have kf := HS.out.p.frozen k
        go_upto_region 16 with fail
        obtain ⟨Wx, hWx⟩ : ∃ Wx, wv.setCell ⟨gp, k, none⟩ (.int .i64 0) = Wx := ⟨_, rfl⟩
        have hgx : wv.grownBy Wx (some gp) := by rw [← hWx]; exact grown_set _ _ _ _
        have hpx : Bk Wx gp 3 (pv pl) := by
         have h : Bk Wx gp 3 (pv ((pl.set k 1).set k 0)) := by rw [← hWx, ← pv_set]; exact HS.out.p.set_ k _
         rw [HBk.out] at h
         exact h
        have HSt := Lib.hid (HSt.out.other HS.out.p hgx HNe.out)
        have HS := Lib.hid (HS.out.swap hgx hpx (show pl.length = (pl.set k 1).length by rw [List.length_set]))
        have HG := Lib.hid (grown_gg HG.out hgx)
        rw [hWx]
        clear hWx hgx hpx kp kk kf
        go_wp2
        go_roundw
        case rel => exact ⟨k + 1, ⟨by omega, by go_num⟩, HT2.out, HS.out, HSt.out, HG.out⟩
        case measure => simp [intOf]; omega
end Go.Proofs.Ytjggmimaolddkaa
