import Derived.Test.YtjggmimaolddkaaOrAT
import Derived.BigQuiet
import Derived.Deep.DeepCutAuto
import Derived.Test.YtjggmimaolddkaaOrAR
namespace Go.Proofs.Ytjggmimaolddkaa
open Go.RowKit
set_option linter.unusedVariables false
def ReplayPost (w : World) (R : Option MSt × Nat × Int) (e : Ending) (w' : World) : Prop :=
 ∃ pv, e = .returned (.tuple #[pv, .int .i64 (R.2.1 : Int), .int .i64 R.2.2]) ∧ (R.1 = none → pv = .pointer none) ∧
  (∀ s, R.1 = some s → ∃ nb sb mb, pv = .pointer (some ⟨sb, 0, none⟩) ∧ StIn w' w.heap.size nb sb mb s ∧ SOk s ∧ Few64 s ∧ nb ≤ 3000000) ∧ Below w.heap.size w w'
theorem ReplayPost.fail {w w' : World} {R : Option MSt × Nat × Int} {k : Nat} {x : Int} (h : R = (none, k, x)) (hb : Below w.heap.size w w') : ReplayPost w R (.returned (.tuple #[.pointer none, .int .i64 (k : Int), .int .i64 x])) w' := by
 subst h
 exact ⟨_, rfl, fun _ => rfl, fun s hs => by simp at hs, hb⟩
theorem ReplayPost.good {w w' : World} {R : Option MSt × Nat × Int} {s : MSt} {nb sb mb : Nat} (h : R = (some s, 0, 0)) (hst : StIn w' w.heap.size nb sb mb s) (h1 : SOk s) (h2 : Few64 s) (h3 : nb ≤ 3000000) (hb : Below w.heap.size w w') : ReplayPost w R (.returned (.tuple #[.pointer (some ⟨sb, 0, none⟩), .int .i64 0, .int .i64 0])) w' := by
 subst h
 exact ⟨_, rfl, fun h => by simp at h, fun s' hs => by simp at hs; subst hs; exact ⟨nb, sb, mb, rfl, hst, h1, h2, h3⟩, hb⟩
theorem code_ok {ps : List (List Ins)} (h : ∀ p ∈ ps, ∀ i ∈ p, i.Ok) (k : Int) : ∀ i ∈ codeP ps k, i.Ok := by
 unfold codeP
 split
 ·intro i hi; simp at hi
 ·rw [List.getD_eq_getElem?_getD]
  cases hk : ps[k.toNat]? with
  | none => intro i hi; simp at hi
  | some q => exact h q (List.mem_of_getElem? hk)
theorem oempty_ok : SOk emptyS := ⟨fun x hx => by simp [emptyS, zero16] at hx; subst hx; exact ⟨by decide, by decide⟩, fun h ws e => by cases e⟩
theorem okeys_len {s : MSt} (h : Few64 s) (ss : List Int) (hk : KeysOf s.blocks ss) : ss.length ≤ 65 :=
 nodup_len 65 ss hk.1 fun x hx => by
  have := h x ((hk.2 x).1 hx).2
  omega
set_option maxRecDepth 100000 in
set_option maxHeartbeats 8000000 in
theorem oreplay_any (c : Cfg) (ps : List (List Ins)) (recs : List Rc7) (rows : List Rx) (A0 : Option Addr) (n0 c0 : Nat) (A1 : Option Addr) (n1 c1 : Nat) (A2 : Option Addr) (n2 c2 : Nat) (w : World)
 (hp : ProgsIn w w.heap.size A0 n0 ps) (hr : RdR w w.heap.size A1 n1 recs) (hrow : RowsIn w w.heap.size A2 n2 rows)
 (hpk : ∀ p ∈ ps, ∀ i ∈ p, i.Ok) (hrk : ∀ q ∈ recs, q.Ok) (hok : ∀ x ∈ rows, x.Ok) (hn2 : n2 ≤ 1000) :
 Calls Try.prog 11 #[c.v, .slice A0 n0 c0, .slice A1 n1 c1, .slice A2 n2 c2] w (ReplayPost w (replayP c ps recs rows)) := by
 have HP := Lib.hid hp
 have HR := Lib.hid hr
 have HRow := Lib.hid hrow
 have HPk := Lib.hid hpk
 have HRk := Lib.hid hrk
 have HOk := Lib.hid hok
 have HLen := Lib.hid hrow.len
 have hof := fun W1 => lof_any c W1
 clear hp hr hrow hpk hrk hok
 unfold Cfg.v
 have HC0 : Hid (Bk (w.alloc (.cells #[.int .i64 c.T, .int .i64 c.B, .int .i64 c.W, .int .i64 c.F, .int .u64 c.fi, .int .u64 c.la] 44)) w.heap.size 44 #[.int .i64 c.T, .int .i64 c.B, .int .i64 c.W, .int .i64 c.F, .int .u64 c.fi, .int .u64 c.la]) := Bk.new w _ _
 have HB0 : Hid (Below w.heap.size w (w.alloc (.cells #[.int .i64 c.T, .int .i64 c.B, .int .i64 c.W, .int .i64 c.F, .int .u64 c.fi, .int .u64 c.la] 44))) := (Below.refl _ _).alloc (Nat.le_refl _) _
 unfold Cfg.v at hof
 go_enter Try.func11, Try.ntmps11
 by_cases hR0 : c.right = true
 case neg =>
  have hR1 : c.right = false := by simpa using hR0
  have HE : Hid (replayP c ps recs rows = (none, 0, 1)) := by show _ = _; unfold replayP; rw [hR1]; rfl
  have HV : Hid (ofV c = .tuple #[.agg zeroC, .int .i64 1]) := by show _ = _; unfold ofV; rw [hR1]; rfl
  rw [HV.out] at hof
  clear hR0 hR1
  go_wp2_with (first
   | (go_at_call 19
      refine (hof _).mono ?_
      rintro e wn ⟨rfl, hbn⟩
      have HB := Lib.hid (HB0.out.trans (hbn.mono HB0.out.size))
      have HZn : Hid (Bk (wn.alloc (.cells zeroC 74)) wn.heap.size 74 zeroC) := Bk.new _ _ _
      clear hbn)
   | (refine wpList_store_row (by rfl) 74 (.tmp 11) (.tmp 23) (by rfl) wn.heap.size zeroC (by rfl) (by rfl) 74 zeroC HZn.out info_lmap (by rfl) zeroC_one ?_))
  go_ret3
  exact .fail HE.out (lbelow_setRow (HB.out.alloc HB.out.size _) HB.out.size _)
 have HRt := Lib.hid ((Cfg.right_iff c).1 hR0)
 have HE0 : Hid (replayP c ps recs rows = replayGo c ps recs rows emptyS 0) := by show _ = _; unfold replayP; rw [hR0]; rfl
 have HV : Hid (ofV c = .tuple #[.agg c.mapC, .int .i64 0]) := by show _ = _; unfold ofV; rw [hR0]; rfl
 rw [HV.out] at hof
 obtain ⟨RES, hRES⟩ : ∃ RES, replayP c ps recs rows = RES := ⟨_, rfl⟩
 rw [hRES] at HE0 ⊢
 clear hR0 hRES
 go_upto_region 4 with (first
  | (go_at_call 19
     refine (hof _).mono ?_
     rintro e wn ⟨rfl, hbn⟩
     have HB := Lib.hid (HB0.out.trans (hbn.mono HB0.out.size))
     have HC := Lib.hid (HC0.out.below hbn HC0.out.lt)
     have HZn : Hid (Bk (wn.alloc (.cells zeroC 74)) wn.heap.size 74 zeroC) := Bk.new _ _ _
     clear hbn)
  | (refine wpList_store_row (by rfl) 74 (.tmp 11) (.tmp 23) (by rfl) wn.heap.size c.mapC (by rfl) (by rfl) 74 zeroC HZn.out info_lmap (by rfl) (mapC_one c) ?_))
 obtain ⟨W3, hW3⟩ : ∃ W3, (wn.alloc (.cells zeroC 74)).setRow wn.heap.size c.mapC = W3 := ⟨_, rfl⟩
 have hg3 : Below wn.heap.size wn W3 := by rw [← hW3]; exact lbelow_setRow ((Below.refl _ _).alloc (Nat.le_refl _) _) (Nat.le_refl _) _
 have HM := Lib.hid (show Bk W3 wn.heap.size 74 c.mapC by rw [← hW3]; exact HZn.out.setRow _)
 have HB := Lib.hid (HB.out.trans (hg3.mono HB.out.size))
 have HC := Lib.hid (HC.out.below hg3 HC.out.lt)
 change Code.wp _ _ _ _ ((wn.alloc (.cells zeroC 74)).setRow wn.heap.size c.mapC)
 rw [hW3]
 obtain ⟨g11, hg11⟩ : ∃ g11, wn.heap.size = g11 := ⟨_, rfl⟩
 rw [hg11] at HM ⊢
 clear hW3 hg3 HZn hg11
 go_upto_region 5 with
  (go_at_call 20
   refine (mnew_any _).mono ?_
   rintro e W5 ⟨sb, mb0, rfl, hst, hbn⟩
   have HSb : Hid (w.heap.size ≤ sb ∧ w.heap.size ≠ sb ∧ g11 ≠ sb) := ⟨Nat.le_trans HB.out.size hst.bs, Nat.ne_of_lt (Nat.lt_of_lt_of_le HC.out.lt hst.bs), Nat.ne_of_lt (Nat.lt_of_lt_of_le HM.out.lt hst.bs)⟩
   have HS := Lib.hid (show StIn W5 w.heap.size 0 sb mb0 emptyS from ⟨hst.st, hst.map, hst.roots, Nat.le_trans HB.out.size hst.bs, Nat.le_trans HB.out.size hst.bm⟩)
   have HM := Lib.hid (HM.out.below hbn HM.out.lt)
   have HC := Lib.hid (HC.out.below hbn HC.out.lt)
   have HB := Lib.hid (HB.out.trans (hbn.mono HB.out.size))
   clear hst hbn)
 go_wp2
 go_loopw [31] (fun i wr => ∃ (k nb mb : Nat) (s : MSt), (k ≤ n2 ∧ i = .int .i64 k ∧ nb ≤ 2000 * k) ∧ Hid (replayGo c ps recs (rows.drop k) s k = RES) ∧ Hid (StIn wr w.heap.size nb sb mb s) ∧ Hid (SOk s) ∧ Hid (Few64 s) ∧ Hid (Bk wr w.heap.size 44 #[.int .i64 c.T, .int .i64 c.B, .int .i64 c.W, .int .i64 c.F, .int .u64 c.fi, .int .u64 c.la]) ∧ Hid (Bk wr g11 74 c.mapC) ∧ Hid (Below w.heap.size w wr)) (fun i _ => n2 - (intOf i).toNat)
 case atStart => exact ⟨0, 0, mb0, emptyS, ⟨by omega, rfl, by omega⟩, HE0.out.symm, HS.out, oempty_ok, empty_few, HC.out, HM.out, HB.out⟩
 case round =>
  obtain ⟨k, nb, mb, s, ⟨hk, rfl, hnb⟩, HG, HS, HOK, HF, HC, HM, HB⟩ := hrel
  by_cases hlt : k < n2
  case neg =>
   obtain rfl : k = n2 := by omega
   have hg := HG.out
   rw [List.drop_of_length_le (by rw [HLen.out]; exact Nat.le_refl _)] at hg
   have HE := Lib.hid (show RES = (some s, 0, 0) from hg.symm)
   clear hg
   go_wp2
   go_ret3
   exact .good HE.out HS.out HOK.out HF.out (by omega) HB.out
  have hlti : (k : Int) < (n2 : Int) := by omega
  obtain ⟨b, o, r, rfl, hbB, hrw, hc⟩ := (HRow.out.rows.below HB.out).rwAt hlt
  have hkl : k < rows.length := by rw [HLen.out]; exact hlt
  obtain ⟨x, hx⟩ : ∃ x, rows[k]? = some x := ⟨_, List.getElem?_eq_getElem hkl⟩
  obtain rfl : x.r = r := by
   rw [List.getElem?_map, hx] at hrw
   simpa using hrw
  have hdr : rows.drop k = x :: rows.drop (k + 1) := by
   rw [List.drop_eq_getElem_cons hkl]; rw [List.getElem?_eq_getElem hkl] at hx; injection hx with hx; rw [hx]
  have hg := HG.out
  rw [hdr, replayGo] at hg
  have hmem := List.mem_of_getElem? hx
  have HXo := Lib.hid (HOk.out x hmem)
  obtain ⟨nA, nc, hnv, hnr, hnl⟩ := HRow.out.news x hmem
  have HNr := Lib.hid (hnr.below HB.out)
  have HNl := Lib.hid hnl
  have hnf := HXo.out.few
  have hfk : ∀ q, findK x.r.key recs 0 = some q → True := fun _ _ => trivial
  obtain ⟨⟨rat, rwho, rtag, rco, rva, rnv⟩, news⟩ := x
  simp only at hnv hc hnf HNr HNl
  subst hnv
  have HKey : Hid (Rw7.key ⟨rat, rwho, rtag, rco, rva, .slice nA news.length nc⟩ = (rwho, rtag)) := rfl
  have HXu : Hid (∀ h ∈ news, U64 h) := HXo.out.news
  obtain ⟨X, hX⟩ : ∃ X : Rx, Rx.mk ⟨rat, rwho, rtag, rco, rva, .slice nA news.length nc⟩ news = X := ⟨_, rfl⟩
  have hXr : X.r = ⟨rat, rwho, rtag, rco, rva, .slice nA news.length nc⟩ := by rw [← hX]
  have hXn : X.news = news := by rw [← hX]
  rw [hX] at hg
  have HXr := Lib.hid hXr
  have HXn := Lib.hid hXn
  have hkey : X.r.key = (rwho, rtag) := by rw [hXr]
  rw [hkey] at hg
  have hcode : X.r.code = rco := by rw [hXr]
  rw [hcode] at hg
  have d0 := hc 0 _ rfl
  have d1 := hc 1 _ rfl
  have d2 := hc 2 _ rfl
  have d3 := hc 3 _ rfl
  have d4 := hc 4 _ rfl
  have d5 := hc 5 _ rfl
  simp only [← Nat.add_assoc, Nat.add_zero] at d0 d1 d2 d3 d4 d5
  have HFk : Hid (findI (rwho, rtag) recs 0 = match findK (rwho, rtag) recs 0 with | none => -1 | some (i, _) => (i : Int)) := rfl
  clear hc hrw hdr hkl hx hX hXr hXn hkey hcode hmem HXo hnr hnl hfk HKey
  go_upto_region 8 with fail
  obtain ⟨W1, hW1⟩ : ∃ W1, wr.alloc (.cells #[.int .i64 rat, .int .i64 rwho, .int .i64 rtag, .int .i64 rco, .int .u64 rva, .slice nA news.length nc] 36) = W1 := ⟨_, rfl⟩
  have HX1 := Lib.hid (show Bk W1 wr.heap.size 36 #[.int .i64 rat, .int .i64 rwho, .int .i64 rtag, .int .i64 rco, .int .u64 rva, .slice nA news.length nc] by rw [← hW1]; exact Bk.new _ _ _)
  have hb1 : Below wr.heap.size wr W1 := by rw [← hW1]; exact (Below.refl _ _).alloc (Nat.le_refl _) _
  have HGsb := Lib.hid (show wr.heap.size ≠ sb from (Nat.ne_of_lt HS.out.st.lt).symm)
  have HGw := Lib.hid HB.out.size
  have HS := Lib.hid (HS.out.more (bk_grown_below hb1))
  have HC := Lib.hid (HC.out.below hb1 HC.out.lt)
  have HM := Lib.hid (HM.out.below hb1 HM.out.lt)
  have HNr := Lib.hid (HNr.out.below (hb1.mono HB.out.size))
  have HB := Lib.hid (HB.out.trans (hb1.mono HB.out.size))
  rw [hW1]
  obtain ⟨gr, hgr⟩ : ∃ gr, wr.heap.size = gr := ⟨_, rfl⟩
  rw [hgr] at HX1 HGsb HGw ⊢
  clear hW1 hb1 hgr d0 d1 d2 d3 d4 d5
  have j1 : W1.cell? ⟨gr, 1, none⟩ = some (.int .i64 rwho) := HX1.out.cell 1
  have j2 : W1.cell? ⟨gr, 2, none⟩ = some (.int .i64 rtag) := HX1.out.cell 2
  have j3 : W1.cell? ⟨gr, 3, none⟩ = some (.int .i64 rco) := HX1.out.cell 3
  cases hf : findK (rwho, rtag) recs 0 with
  | none =>
    have hfi : findI (rwho, rtag) recs 0 = -1 := by unfold findI; rw [hf]
    rw [hf] at hg
    have HE := Lib.hid (show RES = (none, k, 4) from hg.symm)
    clear hg hf
    go_wp2_with
     (go_at_call 18
      refine (ofind_any recs A1 n1 c1 rwho rtag _ ((HR.out.below HB.out).more HB.out.size)).mono ?_
      rintro e W2 ⟨rfl, hb2⟩
      have HB := Lib.hid (HB.out.trans (hb2.mono HB.out.size))
      clear hb2)
    go_ret3
    exact .fail HE.out HB.out
  | some iq =>
    obtain ⟨i, q⟩ := iq
    have hfi : findI (rwho, rtag) recs 0 = (i : Int) := by unfold findI; rw [hf]
    rw [hf] at hg
    obtain ⟨hqm, hqk, _, hqi⟩ := findK_mem hf
    have hin : i < n1 := by rw [← HR.out.rcLen]; exact (List.getElem?_eq_some_iff.1 hqi).1
    simp only [Nat.sub_zero] at hqi
    have HQi := Lib.hid hqi
    have HQo := Lib.hid (HRk.out q hqm)
    have hii : (i : Int) < (n1 : Int) := by omega
    simp only at hg
    clear hf hqm hqk hqi
    by_cases h45 : rco = 45
    ·subst h45
     rw [if_pos rfl] at hg
     have HG2 := Lib.hid hg
     clear hg
     go_wp2_with
      (go_at_call 18
       refine (ofind_any recs A1 n1 c1 rwho rtag _ ((HR.out.below HB.out).more HB.out.size)).mono ?_
       rintro e W2 ⟨rfl, hb2⟩
       have HX1 := Lib.hid (HX1.out.below hb2 HX1.out.lt)
       have j3 : W2.cell? ⟨gr, 3, none⟩ = some (.int .i64 45) := HX1.out.cell 3
       have HS := Lib.hid (HS.out.more (bk_grown_below hb2))
       have HC := Lib.hid (HC.out.below hb2 HC.out.lt)
       have HM := Lib.hid (HM.out.below hb2 HM.out.lt)
       have HB := Lib.hid (HB.out.trans (hb2.mono HB.out.size))
       clear hb2)
     go_roundw
     case rel => exact ⟨k + 1, nb, mb, s, ⟨by omega, by go_num, by omega⟩, HG2.out, HS.out, HOK.out, HF.out, HC.out, HM.out, HB.out⟩
     case measure => simp [intOf]; omega
    rw [if_neg h45] at hg
    have e45 : (rco == 45) = false := beq_eq_false_iff_ne.2 h45
    go_upto_region 12 with
     (go_at_call 18
      refine (ofind_any recs A1 n1 c1 rwho rtag _ ((HR.out.below HB.out).more HB.out.size)).mono ?_
      rintro e W2 ⟨rfl, hb2⟩
      have HX1 := Lib.hid (HX1.out.below hb2 HX1.out.lt)
      have j3 : W2.cell? ⟨gr, 3, none⟩ = some (.int .i64 rco) := HX1.out.cell 3
      have HNr := Lib.hid (HNr.out.below (hb2.mono HB.out.size))
      have HS := Lib.hid (HS.out.more (bk_grown_below hb2))
      have HC := Lib.hid (HC.out.below hb2 HC.out.lt)
      have HM := Lib.hid (HM.out.below hb2 HM.out.lt)
      have HB := Lib.hid (HB.out.trans (hb2.mono HB.out.size))
      clear hb2)
    obtain ⟨rb, ro, q', rfl, hrb, hq', hqc⟩ := (HR.out.below HB.out).rcAt hin
    obtain rfl : q = q' := by have := HQi.out; rw [this] at hq'; injection hq'
    have hrun : ∀ d : MRun, runRow c ps q s X = d → True := fun _ _ => trivial
    have HRun : Hid (runRow c ps q s X = runP s (codeP ps q.prog) q.args c.F c.W news) := by show _ = _; unfold runRow; rw [HXn.out]
    obtain ⟨qw, qt, qp, a0, a1, a2, a3, qf, ql, qs, qd, qc, qv⟩ := q
    simp only at HRun
    have d0 := hqc 0 _ rfl
    have d1 := hqc 1 _ rfl
    have d2 := hqc 2 _ rfl
    have d3 := hqc 3 _ rfl
    have d4 := hqc 4 _ rfl
    have d5 := hqc 5 _ rfl
    have d6 := hqc 6 _ rfl
    have d7 := hqc 7 _ rfl
    have d8 := hqc 8 _ rfl
    have d9 := hqc 9 _ rfl
    have d10 := hqc 10 _ rfl
    have d11 := hqc 11 _ rfl
    have d12 := hqc 12 _ rfl
    simp only [← Nat.add_assoc, Nat.add_zero] at d0 d1 d2 d3 d4 d5 d6 d7 d8 d9 d10 d11 d12
    have HArg : Hid (∀ a ∈ [a0, a1, a2, a3], U64 a) := HQo.out.args
    obtain ⟨D, hD⟩ : ∃ D, runRow c ps ⟨qw, qt, qp, a0, a1, a2, a3, qf, ql, qs, qd, qc, qv⟩ s X = D := ⟨_, rfl⟩
    have HD : Hid (runP s (codeP ps qp) [a0, a1, a2, a3] c.F c.W news = D) := HRun.out.symm.trans hD
    have HFD : Hid (Few64 (afterP s D)) := by show Few64 _; rw [← HD.out]; exact after_few HF.out (run_near HF.out HXu.out)
    rw [hD] at hg
    clear hD HRun
    clear hqc hq' hrun HQi HQo
    go_upto_region 13 with fail
    obtain ⟨W3, hW3⟩ : ∃ W3, W2.alloc (.cells #[.int .i64 qw, .int .i64 qt, .int .i64 qp, .int .u64 a0, .int .u64 a1, .int .u64 a2, .int .u64 a3, .int .i64 qf, .int .i64 ql, .int .i64 qs, .bool qd, .int .i64 qc, .int .u64 qv] 41) = W3 := ⟨_, rfl⟩
    have HQ := Lib.hid (show Bk W3 W2.heap.size 41 #[.int .i64 qw, .int .i64 qt, .int .i64 qp, .int .u64 a0, .int .u64 a1, .int .u64 a2, .int .u64 a3, .int .i64 qf, .int .i64 ql, .int .i64 qs, .bool qd, .int .i64 qc, .int .u64 qv] by rw [← hW3]; exact Bk.new _ _ _)
    have hb3 : Below W2.heap.size W2 W3 := by rw [← hW3]; exact (Below.refl _ _).alloc (Nat.le_refl _) _
    have HGqs := Lib.hid (show W2.heap.size ≠ sb from (Nat.ne_of_lt HS.out.st.lt).symm)
    have HS := Lib.hid (HS.out.more (bk_grown_below hb3))
    have HX1 := Lib.hid (HX1.out.below hb3 HX1.out.lt)
    have HC := Lib.hid (HC.out.below hb3 HC.out.lt)
    have HM := Lib.hid (HM.out.below hb3 HM.out.lt)
    have HNr := Lib.hid (HNr.out.below (hb3.mono HB.out.size))
    have HB := Lib.hid (HB.out.trans (hb3.mono HB.out.size))
    rw [hW3]
    obtain ⟨gq, hgq⟩ : ∃ gq, W2.heap.size = gq := ⟨_, rfl⟩
    rw [hgq] at HQ HGqs ⊢
    clear hW3 hb3 hgq d0 d1 d2 d3 d4 d5 d6 d7 d8 d9 d10 d11 d12 j1 j2 j3
    go_upto_region 14 with
     (go_at_call 21
      refine (handles_many _ nb sb mb s _ HS.out (by omega) (fun ss h => by have := okeys_len HF.out ss h; omega)).mono ?_
      rintro e W4 ⟨hv, ss, rfl, hks, _, hrow, hb4⟩
      have hlive := live_keys HF.out hks
      obtain ⟨hA, hc, rfl, _⟩ := Rd.of_own hrow
      have HS := Lib.hid (HS.out.more (bk_grown_below hb4))
      have HX1 := Lib.hid (HX1.out.below hb4 HX1.out.lt)
      have HQ := Lib.hid (HQ.out.below hb4 HQ.out.lt)
      have HC := Lib.hid (HC.out.below hb4 HC.out.lt)
      have HM := Lib.hid (HM.out.below hb4 HM.out.lt)
      have HNr := Lib.hid (HNr.out.below (hb4.mono HB.out.size))
      have HB := Lib.hid (HB.out.trans (hb4.mono HB.out.size))
      rw [hlive]
      clear hks hrow hb4 hlive)
    have j0 : W4.cell? ⟨gq, 2, none⟩ = some (.int .i64 qp) := HQ.out.cell 2
    have j1 : W4.cell? ⟨gq, 3, none⟩ = some (.int .u64 a0) := HQ.out.cell 3
    have j2 : W4.cell? ⟨gq, 4, none⟩ = some (.int .u64 a1) := HQ.out.cell 4
    have j3 : W4.cell? ⟨gq, 5, none⟩ = some (.int .u64 a2) := HQ.out.cell 5
    have j4 : W4.cell? ⟨gq, 6, none⟩ = some (.int .u64 a3) := HQ.out.cell 6
    have j5 : W4.cell? ⟨w.heap.size, 2, none⟩ = some (.int .i64 c.W) := HC.out.cell 2
    have j6 : W4.cell? ⟨w.heap.size, 3, none⟩ = some (.int .i64 c.F) := HC.out.cell 3
    have j7 : W4.cell? ⟨gr, 5, none⟩ = some (.slice nA news.length nc) := HX1.out.cell 5
    have HDL : Hid (∀ wx : World, (∃ (g mb' : Nat) (dA : Option Addr) (dc : Nat), True) → True) := fun _ _ => trivial
    go_cut [19] (fun v wx => ∃ (gd mb' : Nat) (dA : Option Addr) (dc : Nat), v = .pointer (some ⟨gd, 0, none⟩) ∧ Hid (Bk wx gd 80 #[.int .i64 D.code, .int .u64 D.val, .int .i64 D.steps, .int .i64 D.writes, .slice dA D.news.length dc]) ∧ Hid (StIn wx w.heap.size (nb + news.length + c.F.toNat) sb mb' (afterP s D)) ∧ Hid (SOk (afterP s D)) ∧ Hid (Bk wx gr 36 #[.int .i64 rat, .int .i64 rwho, .int .i64 rtag, .int .i64 rco, .int .u64 rva, .slice nA news.length nc]) ∧ Hid (Bk wx w.heap.size 44 #[.int .i64 c.T, .int .i64 c.B, .int .i64 c.W, .int .i64 c.F, .int .u64 c.fi, .int .u64 c.la]) ∧ Hid (Bk wx g11 74 c.mapC) ∧ Hid (Below w.heap.size w wx))
    case first =>
     as_aux_lemma =>
      refine wp_region_held_drew (S := (fun w' => w'.cell? ⟨gq, 2, none⟩ = some (.int .i64 qp) ∧ w'.cell? ⟨gq, 3, none⟩ = some (.int .u64 a0) ∧ w'.cell? ⟨gq, 4, none⟩ = some (.int .u64 a1) ∧ w'.cell? ⟨gq, 5, none⟩ = some (.int .u64 a2) ∧ w'.cell? ⟨gq, 6, none⟩ = some (.int .u64 a3) ∧ w'.cell? ⟨w.heap.size, 2, none⟩ = some (.int .i64 c.W) ∧ w'.cell? ⟨w.heap.size, 3, none⟩ = some (.int .i64 c.F) ∧ w'.cell? ⟨gr, 5, none⟩ = some (.slice nA news.length nc))) (by kernel_rfl) ?_ (fun hHeld => ?_)
      ·exact ⟨j0, j1, j2, j3, j4, j5, j6, j7⟩
      refine takeA 0 ?_
      try simp only [Act.put, pS]
      refine takeA 1 ?_
      try simp only [Act.put, pS]
      refine takeA 2 ?_
      try simp only [Act.put, pS]
      refine takeA 3 ?_
      try simp only [Act.put, pS]
      refine takeA 4 ?_
      try simp only [Act.put, pS]
      refine takeA 6 ?_
      try simp only [Act.put, pS]
      refine takeA 7 ?_
      try simp only [Act.put, pS]
      refine takeA 8 ?_
      try simp only [Act.put, pS]
      refine takeA 9 ?_
      try simp only [Act.put, pS]
      refine takeA 10 ?_
      try simp only [Act.put, pS]
      refine takeA 11 ?_
      try simp only [Act.put, pS]
      refine takeA 12 ?_
      try simp only [Act.put, pS]
      refine takeA 13 ?_
      try simp only [Act.put, pS]
      refine takeA 14 ?_
      try simp only [Act.put, pS]
      have HX1 := Lib.hid HX1.out.drew
      have HQ := Lib.hid HQ.out.drew
      have HC := Lib.hid HC.out.drew
      have HM := Lib.hid HM.out.drew
      have HS := Lib.hid (HS.out.more (grown_drew _ _))
      have HB := Lib.hid HB.out.drew
      have HNr := Lib.hid HNr.out.drew
      obtain ⟨V0, hV0⟩ : ∃ V0, W4.drew = V0 := ⟨_, rfl⟩
      rw [hV0] at hHeld HX1 HQ HC HM HS HB HNr ⊢
      clear hV0 j0 j1 j2 j3 j4 j5 j6 j7
      refine comeH2 5 16 rfl rfl rfl rfl rfl rfl rfl rfl (by kernel_rfl) (by rfl) (by rfl) (fun K hK => ?_) (fun K hK => ?_)
      ·go_simp
       refine (ocode_any ps A0 n0 c0 qp _ ((HP.out.below HB.out).more HB.out.size)).mono ?_
       rintro e wc ⟨⟨cA, cc, rfl, hcr, hcl⟩, hwc⟩
       rw [hwc]
       have HCr := Lib.hid hcr
       clear hcr hcl hwc
       go_simp
       refine hK.out _ _ ?_ (fun hHeld => ?_)
       ·exact ⟨HQ.out.cell 2, HQ.out.cell 3, HQ.out.cell 4, HQ.out.cell 5, HQ.out.cell 6, HC.out.cell 2, HC.out.cell 3, HX1.out.cell 5⟩
       clear hK K
       try simp only [Act.put, pS]
       refine comeH2 15 16 rfl rfl rfl rfl rfl rfl rfl rfl (by kernel_rfl) (by rfl) (by rfl) (fun K hK => ?_) (fun K hK => ?_)
       ·go_simp
        refine (run_any w.heap.size nb sb mb s (codeP ps qp) cA _ cc [a0, a1, a2, a3] c.F c.W news nA nc _ HS.out HOK.out HCr.out (code_ok HPk.out qp) rfl HArg.out (by have := HRt.out.F; omega) (by have := HRt.out.W; omega) (HNr.out.more HB.out.size) HXu.out HNl.out (by omega) (by omega)).mono ?_
        rintro e w6 hrp
        rw [HD.out] at hrp
        obtain ⟨⟨nv, mb', rfl, hst, hown, _, _⟩, hok6, hg6⟩ := hrp
        obtain ⟨dA, dc, rfl, _⟩ := Rd.of_own hown
        unfold doneV
        have HX1 := Lib.hid (HX1.out.grown hg6 (fun e => HGsb.out (by injection e with e; exact e.symm)))
        have HQ := Lib.hid (HQ.out.grown hg6 (fun e => HGqs.out (by injection e with e; exact e.symm)))
        have HC := Lib.hid (HC.out.grown hg6 (fun e => HSb.out.2.1 (by injection e with e; exact e.symm)))
        have HM := Lib.hid (HM.out.grown hg6 (fun e => HSb.out.2.2 (by injection e with e; exact e.symm)))
        have HB := Lib.hid (HB.out.grown hg6 HB.out.size (fun g e => by cases e; exact HSb.out.1))
        have HS := Lib.hid hst
        have HOK := Lib.hid hok6
        clear hst hown hg6 hok6
        go_simp
        refine hK.out _ _ ?_ (fun hHeld => ?_)
        ·exact ⟨HQ.out.cell 2, HQ.out.cell 3, HQ.out.cell 4, HQ.out.cell 5, HQ.out.cell 6, HC.out.cell 2, HC.out.cell 3, HX1.out.cell 5⟩
        clear hK K
        try simp only [Act.put, pS]
        refine comeH 16 rfl rfl rfl rfl (by kernel_rfl) (by rfl) (fun K hK => ?_)
        go_simp
        obtain ⟨W7, hW7⟩ : ∃ W7, w6.alloc (.cells #[.int .i64 0, .int .u64 0, .int .i64 0, .int .i64 0, .slice none 0 0] 80) = W7 := ⟨_, rfl⟩
        have HDn := Lib.hid (show Bk W7 w6.heap.size 80 #[.int .i64 0, .int .u64 0, .int .i64 0, .int .i64 0, .slice none 0 0] by rw [← hW7]; exact Bk.new _ _ _)
        have hb7 : Below w6.heap.size w6 W7 := by rw [← hW7]; exact (Below.refl _ _).alloc (Nat.le_refl _) _
        have HGd := Lib.hid (show w.heap.size ≤ w6.heap.size ∧ gr ≠ w6.heap.size ∧ gq ≠ w6.heap.size ∧ w.heap.size ≠ w6.heap.size ∧ g11 ≠ w6.heap.size ∧ sb ≠ w6.heap.size from ⟨HB.out.size, Nat.ne_of_lt HX1.out.lt, Nat.ne_of_lt HQ.out.lt, Nat.ne_of_lt HC.out.lt, Nat.ne_of_lt HM.out.lt, Nat.ne_of_lt HS.out.st.lt⟩)
        have HX1 := Lib.hid (HX1.out.below hb7 HX1.out.lt)
        have HQ := Lib.hid (HQ.out.below hb7 HQ.out.lt)
        have HC := Lib.hid (HC.out.below hb7 HC.out.lt)
        have HM := Lib.hid (HM.out.below hb7 HM.out.lt)
        have HS := Lib.hid (HS.out.more (bk_grown_below hb7))
        have HB := Lib.hid (HB.out.trans (hb7.mono HB.out.size))
        rw [hW7]
        obtain ⟨gd, hgd⟩ : ∃ gd, w6.heap.size = gd := ⟨_, rfl⟩
        rw [hgd] at HDn HGd ⊢
        clear hW7 hb7 hgd
        refine hK.out _ _ ?_ (fun hHeld => ?_)
        ·exact ⟨HQ.out.cell 2, HQ.out.cell 3, HQ.out.cell 4, HQ.out.cell 5, HQ.out.cell 6, HC.out.cell 2, HC.out.cell 3, HX1.out.cell 5⟩
        clear hK K
        try simp only [Act.put, pS]
        have z0 : W7.cell? ⟨gd, 0, none⟩ = some (.int .i64 0) := HDn.out.cell 0
        have y0 := HDn.out.frozen 0
        have z1 : W7.cell? ⟨gd, 1, none⟩ = some (.int .u64 0) := HDn.out.cell 1
        have y1 := HDn.out.frozen 1
        have z2 : W7.cell? ⟨gd, 2, none⟩ = some (.int .i64 0) := HDn.out.cell 2
        have y2 := HDn.out.frozen 2
        have z3 : W7.cell? ⟨gd, 3, none⟩ = some (.int .i64 0) := HDn.out.cell 3
        have y3 := HDn.out.frozen 3
        have z4 : W7.cell? ⟨gd, 4, none⟩ = some (.slice none 0 0) := HDn.out.cell 4
        have y4 := HDn.out.frozen 4
        refine comeH 17 rfl rfl rfl rfl (by kernel_rfl) (by rfl) (fun K hK => ?_)
        go_simp
        obtain ⟨W8, hW8⟩ : ∃ W8, (((((W7.setCell ⟨gd, 0, none⟩ (.int .i64 D.code)).setCell ⟨gd, 1, none⟩ (.int .u64 D.val)).setCell ⟨gd, 2, none⟩ (.int .i64 D.steps)).setCell ⟨gd, 3, none⟩ (.int .i64 D.writes)).setCell ⟨gd, 4, none⟩ (.slice dA D.news.length dc)) = W8 := ⟨_, rfl⟩
        have hg8 : W7.grownBy W8 (some gd) := by rw [← hW8]; exact grown_five _ _ _ _ _ _ _
        have HS := Lib.hid (HS.out.other HDn.out hg8 HGd.out.2.2.2.2.2)
        have HDn := Lib.hid (show Bk W8 gd 80 #[.int .i64 D.code, .int .u64 D.val, .int .i64 D.steps, .int .i64 D.writes, .slice dA D.news.length dc] by rw [← hW8]; exact HDn.out.five _ _ _ _ _)
        have HQ := Lib.hid (HQ.out.grown hg8 (fun e => HGd.out.2.2.1 (by injection e with e; exact e.symm)))
        have HX1 := Lib.hid (HX1.out.grown hg8 (fun e => HGd.out.2.1 (by injection e with e; exact e.symm)))
        have HC := Lib.hid (HC.out.grown hg8 (fun e => HGd.out.2.2.2.1 (by injection e with e; exact e.symm)))
        have HM := Lib.hid (HM.out.grown hg8 (fun e => HGd.out.2.2.2.2.1 (by injection e with e; exact e.symm)))
        have HB := Lib.hid (HB.out.grown hg8 HB.out.size (fun g e => by cases e; exact HGd.out.1))
        rw [hW8]
        clear hW8 hg8 z0 y0 z1 y1 z2 y2 z3 y3 z4 y4
        refine hK.out _ _ ?_ (fun hHeld => ?_)
        ·exact ⟨HQ.out.cell 2, HQ.out.cell 3, HQ.out.cell 4, HQ.out.cell 5, HQ.out.cell 6, HC.out.cell 2, HC.out.cell 3, HX1.out.cell 5⟩
        clear hK K
        try simp only [Act.put, pS]
        refine wpAnyH_done (by kernel_rfl) ?_ _
        try simp only [Act.put, pS]
        go_wp2_with fail
        go_meet
        exact ⟨gd, mb', dA, dc, rfl, HDn.out, HS.out, HOK.out, HX1.out, HC.out, HM.out, HB.out⟩
       ·go_simp
        obtain ⟨W7, hW7⟩ : ∃ W7, V0.alloc (.cells #[.int .i64 0, .int .u64 0, .int .i64 0, .int .i64 0, .slice none 0 0] 80) = W7 := ⟨_, rfl⟩
        have HDn := Lib.hid (show Bk W7 V0.heap.size 80 #[.int .i64 0, .int .u64 0, .int .i64 0, .int .i64 0, .slice none 0 0] by rw [← hW7]; exact Bk.new _ _ _)
        have hb7 : Below V0.heap.size V0 W7 := by rw [← hW7]; exact (Below.refl _ _).alloc (Nat.le_refl _) _
        have HGd := Lib.hid (show w.heap.size ≤ V0.heap.size ∧ gr ≠ V0.heap.size ∧ gq ≠ V0.heap.size ∧ w.heap.size ≠ V0.heap.size ∧ g11 ≠ V0.heap.size ∧ sb ≠ V0.heap.size from ⟨HB.out.size, Nat.ne_of_lt HX1.out.lt, Nat.ne_of_lt HQ.out.lt, Nat.ne_of_lt HC.out.lt, Nat.ne_of_lt HM.out.lt, Nat.ne_of_lt HS.out.st.lt⟩)
        have HX1 := Lib.hid (HX1.out.below hb7 HX1.out.lt)
        have HQ := Lib.hid (HQ.out.below hb7 HQ.out.lt)
        have HC := Lib.hid (HC.out.below hb7 HC.out.lt)
        have HM := Lib.hid (HM.out.below hb7 HM.out.lt)
        have HS := Lib.hid (HS.out.more (bk_grown_below hb7))
        have HCr := Lib.hid ((HCr.out.below hb7).more hb7.size)
        have HNr := Lib.hid (HNr.out.below (hb7.mono HB.out.size))
        have HB := Lib.hid (HB.out.trans (hb7.mono HB.out.size))
        rw [hW7]
        obtain ⟨gd, hgd⟩ : ∃ gd, V0.heap.size = gd := ⟨_, rfl⟩
        rw [hgd] at HDn HGd ⊢
        clear hW7 hb7 hgd
        refine hK.out _ _ ?_ (fun hHeld => ?_)
        ·exact ⟨HQ.out.cell 2, HQ.out.cell 3, HQ.out.cell 4, HQ.out.cell 5, HQ.out.cell 6, HC.out.cell 2, HC.out.cell 3, HX1.out.cell 5⟩
        clear hK K
        try simp only [Act.put, pS]
        refine comeH 15 rfl rfl rfl rfl (by kernel_rfl) (by rfl) (fun K hK => ?_)
        go_simp
        refine (run_any w.heap.size nb sb mb s (codeP ps qp) cA _ cc [a0, a1, a2, a3] c.F c.W news nA nc _ HS.out HOK.out HCr.out (code_ok HPk.out qp) rfl HArg.out (by have := HRt.out.F; omega) (by have := HRt.out.W; omega) (HNr.out.more HB.out.size) HXu.out HNl.out (by omega) (by omega)).mono ?_
        rintro e w6 hrp
        rw [HD.out] at hrp
        obtain ⟨⟨nv, mb', rfl, hst, hown, _, _⟩, hok6, hg6⟩ := hrp
        obtain ⟨dA, dc, rfl, _⟩ := Rd.of_own hown
        unfold doneV
        have HX1 := Lib.hid (HX1.out.grown hg6 (fun e => HGsb.out (by injection e with e; exact e.symm)))
        have HQ := Lib.hid (HQ.out.grown hg6 (fun e => HGqs.out (by injection e with e; exact e.symm)))
        have HC := Lib.hid (HC.out.grown hg6 (fun e => HSb.out.2.1 (by injection e with e; exact e.symm)))
        have HM := Lib.hid (HM.out.grown hg6 (fun e => HSb.out.2.2 (by injection e with e; exact e.symm)))
        have HB := Lib.hid (HB.out.grown hg6 HB.out.size (fun g e => by cases e; exact HSb.out.1))
        have HDn := Lib.hid (HDn.out.grown hg6 (fun e => HGd.out.2.2.2.2.2 (by injection e with e)))
        have HS := Lib.hid hst
        have HOK := Lib.hid hok6
        clear hst hown hg6 hok6
        go_simp
        refine hK.out _ _ ?_ (fun hHeld => ?_)
        ·exact ⟨HQ.out.cell 2, HQ.out.cell 3, HQ.out.cell 4, HQ.out.cell 5, HQ.out.cell 6, HC.out.cell 2, HC.out.cell 3, HX1.out.cell 5⟩
        clear hK K
        try simp only [Act.put, pS]
        have z0 : w6.cell? ⟨gd, 0, none⟩ = some (.int .i64 0) := HDn.out.cell 0
        have y0 := HDn.out.frozen 0
        have z1 : w6.cell? ⟨gd, 1, none⟩ = some (.int .u64 0) := HDn.out.cell 1
        have y1 := HDn.out.frozen 1
        have z2 : w6.cell? ⟨gd, 2, none⟩ = some (.int .i64 0) := HDn.out.cell 2
        have y2 := HDn.out.frozen 2
        have z3 : w6.cell? ⟨gd, 3, none⟩ = some (.int .i64 0) := HDn.out.cell 3
        have y3 := HDn.out.frozen 3
        have z4 : w6.cell? ⟨gd, 4, none⟩ = some (.slice none 0 0) := HDn.out.cell 4
        have y4 := HDn.out.frozen 4
        refine comeH 17 rfl rfl rfl rfl (by kernel_rfl) (by rfl) (fun K hK => ?_)
        go_simp
        obtain ⟨W8, hW8⟩ : ∃ W8, (((((w6.setCell ⟨gd, 0, none⟩ (.int .i64 D.code)).setCell ⟨gd, 1, none⟩ (.int .u64 D.val)).setCell ⟨gd, 2, none⟩ (.int .i64 D.steps)).setCell ⟨gd, 3, none⟩ (.int .i64 D.writes)).setCell ⟨gd, 4, none⟩ (.slice dA D.news.length dc)) = W8 := ⟨_, rfl⟩
        have hg8 : w6.grownBy W8 (some gd) := by rw [← hW8]; exact grown_five _ _ _ _ _ _ _
        have HS := Lib.hid (HS.out.other HDn.out hg8 HGd.out.2.2.2.2.2)
        have HDn := Lib.hid (show Bk W8 gd 80 #[.int .i64 D.code, .int .u64 D.val, .int .i64 D.steps, .int .i64 D.writes, .slice dA D.news.length dc] by rw [← hW8]; exact HDn.out.five _ _ _ _ _)
        have HQ := Lib.hid (HQ.out.grown hg8 (fun e => HGd.out.2.2.1 (by injection e with e; exact e.symm)))
        have HX1 := Lib.hid (HX1.out.grown hg8 (fun e => HGd.out.2.1 (by injection e with e; exact e.symm)))
        have HC := Lib.hid (HC.out.grown hg8 (fun e => HGd.out.2.2.2.1 (by injection e with e; exact e.symm)))
        have HM := Lib.hid (HM.out.grown hg8 (fun e => HGd.out.2.2.2.2.1 (by injection e with e; exact e.symm)))
        have HB := Lib.hid (HB.out.grown hg8 HB.out.size (fun g e => by cases e; exact HGd.out.1))
        rw [hW8]
        clear hW8 hg8 z0 y0 z1 y1 z2 y2 z3 y3 z4 y4
        refine hK.out _ _ ?_ (fun hHeld => ?_)
        ·exact ⟨HQ.out.cell 2, HQ.out.cell 3, HQ.out.cell 4, HQ.out.cell 5, HQ.out.cell 6, HC.out.cell 2, HC.out.cell 3, HX1.out.cell 5⟩
        clear hK K
        try simp only [Act.put, pS]
        refine wpAnyH_done (by kernel_rfl) ?_ _
        try simp only [Act.put, pS]
        go_wp2_with fail
        go_meet
        exact ⟨gd, mb', dA, dc, rfl, HDn.out, HS.out, HOK.out, HX1.out, HC.out, HM.out, HB.out⟩
      ·go_simp
       obtain ⟨W7, hW7⟩ : ∃ W7, V0.alloc (.cells #[.int .i64 0, .int .u64 0, .int .i64 0, .int .i64 0, .slice none 0 0] 80) = W7 := ⟨_, rfl⟩
       have HDn := Lib.hid (show Bk W7 V0.heap.size 80 #[.int .i64 0, .int .u64 0, .int .i64 0, .int .i64 0, .slice none 0 0] by rw [← hW7]; exact Bk.new _ _ _)
       have hb7 : Below V0.heap.size V0 W7 := by rw [← hW7]; exact (Below.refl _ _).alloc (Nat.le_refl _) _
       have HGd := Lib.hid (show w.heap.size ≤ V0.heap.size ∧ gr ≠ V0.heap.size ∧ gq ≠ V0.heap.size ∧ w.heap.size ≠ V0.heap.size ∧ g11 ≠ V0.heap.size ∧ sb ≠ V0.heap.size from ⟨HB.out.size, Nat.ne_of_lt HX1.out.lt, Nat.ne_of_lt HQ.out.lt, Nat.ne_of_lt HC.out.lt, Nat.ne_of_lt HM.out.lt, Nat.ne_of_lt HS.out.st.lt⟩)
       have HX1 := Lib.hid (HX1.out.below hb7 HX1.out.lt)
       have HQ := Lib.hid (HQ.out.below hb7 HQ.out.lt)
       have HC := Lib.hid (HC.out.below hb7 HC.out.lt)
       have HM := Lib.hid (HM.out.below hb7 HM.out.lt)
       have HS := Lib.hid (HS.out.more (bk_grown_below hb7))
       have HNr := Lib.hid (HNr.out.below (hb7.mono HB.out.size))
       have HB := Lib.hid (HB.out.trans (hb7.mono HB.out.size))
       rw [hW7]
       obtain ⟨gd, hgd⟩ : ∃ gd, V0.heap.size = gd := ⟨_, rfl⟩
       rw [hgd] at HDn HGd ⊢
       clear hW7 hb7 hgd
       refine hK.out _ _ ?_ (fun hHeld => ?_)
       ·exact ⟨HQ.out.cell 2, HQ.out.cell 3, HQ.out.cell 4, HQ.out.cell 5, HQ.out.cell 6, HC.out.cell 2, HC.out.cell 3, HX1.out.cell 5⟩
       clear hK K
       try simp only [Act.put, pS]
       refine comeH 5 rfl rfl rfl rfl (by kernel_rfl) (by rfl) (fun K hK => ?_)
       go_simp
       refine (ocode_any ps A0 n0 c0 qp _ ((HP.out.below HB.out).more HB.out.size)).mono ?_
       rintro e wc ⟨⟨cA, cc, rfl, hcr, hcl⟩, hwc⟩
       rw [hwc]
       have HCr := Lib.hid hcr
       clear hcr hcl hwc
       go_simp
       refine hK.out _ _ ?_ (fun hHeld => ?_)
       ·exact ⟨HQ.out.cell 2, HQ.out.cell 3, HQ.out.cell 4, HQ.out.cell 5, HQ.out.cell 6, HC.out.cell 2, HC.out.cell 3, HX1.out.cell 5⟩
       clear hK K
       try simp only [Act.put, pS]
       refine comeH 15 rfl rfl rfl rfl (by kernel_rfl) (by rfl) (fun K hK => ?_)
       go_simp
       refine (run_any w.heap.size nb sb mb s (codeP ps qp) cA _ cc [a0, a1, a2, a3] c.F c.W news nA nc _ HS.out HOK.out HCr.out (code_ok HPk.out qp) rfl HArg.out (by have := HRt.out.F; omega) (by have := HRt.out.W; omega) (HNr.out.more HB.out.size) HXu.out HNl.out (by omega) (by omega)).mono ?_
       rintro e w6 hrp
       rw [HD.out] at hrp
       obtain ⟨⟨nv, mb', rfl, hst, hown, _, _⟩, hok6, hg6⟩ := hrp
       obtain ⟨dA, dc, rfl, _⟩ := Rd.of_own hown
       unfold doneV
       have HX1 := Lib.hid (HX1.out.grown hg6 (fun e => HGsb.out (by injection e with e; exact e.symm)))
       have HQ := Lib.hid (HQ.out.grown hg6 (fun e => HGqs.out (by injection e with e; exact e.symm)))
       have HC := Lib.hid (HC.out.grown hg6 (fun e => HSb.out.2.1 (by injection e with e; exact e.symm)))
       have HM := Lib.hid (HM.out.grown hg6 (fun e => HSb.out.2.2 (by injection e with e; exact e.symm)))
       have HB := Lib.hid (HB.out.grown hg6 HB.out.size (fun g e => by cases e; exact HSb.out.1))
       have HDn := Lib.hid (HDn.out.grown hg6 (fun e => HGd.out.2.2.2.2.2 (by injection e with e)))
       have HS := Lib.hid hst
       have HOK := Lib.hid hok6
       clear hst hown hg6 hok6
       go_simp
       refine hK.out _ _ ?_ (fun hHeld => ?_)
       ·exact ⟨HQ.out.cell 2, HQ.out.cell 3, HQ.out.cell 4, HQ.out.cell 5, HQ.out.cell 6, HC.out.cell 2, HC.out.cell 3, HX1.out.cell 5⟩
       clear hK K
       try simp only [Act.put, pS]
       have z0 : w6.cell? ⟨gd, 0, none⟩ = some (.int .i64 0) := HDn.out.cell 0
       have y0 := HDn.out.frozen 0
       have z1 : w6.cell? ⟨gd, 1, none⟩ = some (.int .u64 0) := HDn.out.cell 1
       have y1 := HDn.out.frozen 1
       have z2 : w6.cell? ⟨gd, 2, none⟩ = some (.int .i64 0) := HDn.out.cell 2
       have y2 := HDn.out.frozen 2
       have z3 : w6.cell? ⟨gd, 3, none⟩ = some (.int .i64 0) := HDn.out.cell 3
       have y3 := HDn.out.frozen 3
       have z4 : w6.cell? ⟨gd, 4, none⟩ = some (.slice none 0 0) := HDn.out.cell 4
       have y4 := HDn.out.frozen 4
       refine comeH 17 rfl rfl rfl rfl (by kernel_rfl) (by rfl) (fun K hK => ?_)
       go_simp
       obtain ⟨W8, hW8⟩ : ∃ W8, (((((w6.setCell ⟨gd, 0, none⟩ (.int .i64 D.code)).setCell ⟨gd, 1, none⟩ (.int .u64 D.val)).setCell ⟨gd, 2, none⟩ (.int .i64 D.steps)).setCell ⟨gd, 3, none⟩ (.int .i64 D.writes)).setCell ⟨gd, 4, none⟩ (.slice dA D.news.length dc)) = W8 := ⟨_, rfl⟩
       have hg8 : w6.grownBy W8 (some gd) := by rw [← hW8]; exact grown_five _ _ _ _ _ _ _
       have HS := Lib.hid (HS.out.other HDn.out hg8 HGd.out.2.2.2.2.2)
       have HDn := Lib.hid (show Bk W8 gd 80 #[.int .i64 D.code, .int .u64 D.val, .int .i64 D.steps, .int .i64 D.writes, .slice dA D.news.length dc] by rw [← hW8]; exact HDn.out.five _ _ _ _ _)
       have HQ := Lib.hid (HQ.out.grown hg8 (fun e => HGd.out.2.2.1 (by injection e with e; exact e.symm)))
       have HX1 := Lib.hid (HX1.out.grown hg8 (fun e => HGd.out.2.1 (by injection e with e; exact e.symm)))
       have HC := Lib.hid (HC.out.grown hg8 (fun e => HGd.out.2.2.2.1 (by injection e with e; exact e.symm)))
       have HM := Lib.hid (HM.out.grown hg8 (fun e => HGd.out.2.2.2.2.1 (by injection e with e; exact e.symm)))
       have HB := Lib.hid (HB.out.grown hg8 HB.out.size (fun g e => by cases e; exact HGd.out.1))
       rw [hW8]
       clear hW8 hg8 z0 y0 z1 y1 z2 y2 z3 y3 z4 y4
       refine hK.out _ _ ?_ (fun hHeld => ?_)
       ·exact ⟨HQ.out.cell 2, HQ.out.cell 3, HQ.out.cell 4, HQ.out.cell 5, HQ.out.cell 6, HC.out.cell 2, HC.out.cell 3, HX1.out.cell 5⟩
       clear hK K
       try simp only [Act.put, pS]
       refine wpAnyH_done (by kernel_rfl) ?_ _
       try simp only [Act.put, pS]
       go_wp2_with fail
       go_meet
       exact ⟨gd, mb', dA, dc, rfl, HDn.out, HS.out, HOK.out, HX1.out, HC.out, HM.out, HB.out⟩
    case rest =>
    obtain ⟨gd, mb', dA, dc, rfl, HDn, HS, HOK, HX1, HC, HM, HB⟩ := hcut
    have HF := HFD
    clear j0 j1 j2 j3 j4 j5 j6 j7
    have k0 : wc.cell? ⟨gd, 0, none⟩ = some (.int .i64 D.code) := HDn.out.cell 0
    have k1 : wc.cell? ⟨gd, 1, none⟩ = some (.int .u64 D.val) := HDn.out.cell 1
    have k4 : wc.cell? ⟨gd, 4, none⟩ = some (.slice dA D.news.length dc) := HDn.out.cell 4
    have k5 : wc.cell? ⟨gr, 3, none⟩ = some (.int .i64 rco) := HX1.out.cell 3
    have k6 : wc.cell? ⟨gr, 4, none⟩ = some (.int .u64 rva) := HX1.out.cell 4
    have k7 : wc.cell? ⟨gr, 5, none⟩ = some (.slice nA news.length nc) := HX1.out.cell 5
    have k8 : wc.cell? ⟨w.heap.size, 1, none⟩ = some (.int .i64 c.B) := HC.out.cell 1
    have hneq := fun W => neq_res D.code D.val rco rva W
    have HBad : Hid (badRun c s X D = if ¬ (D.code = rco ∧ D.val = rva) ∨ D.news.length ≠ news.length then 51 else if D.code = 43 ∧ (liveP s : Int) + news.length + c.lim < c.B then 43 else 0) := by
     show _ = _
     unfold badRun
     rw [HXr.out, HXn.out]
    by_cases hres : D.code = rco ∧ D.val = rva
    case neg =>
     have hd : decide (D.code = rco ∧ D.val = rva) = false := decide_eq_false hres
     rw [hd] at hneq
     have HE := Lib.hid (show RES = (none, k, 51) by rw [← hg, HBad.out, if_pos (Or.inl hres)]; rfl)
     clear hg hres hd
     go_wp2
     go_ret3
     exact .fail HE.out HB.out
    have hd : decide (D.code = rco ∧ D.val = rva) = true := decide_eq_true hres
    rw [hd] at hneq
    by_cases hlen : D.news.length = news.length
    case neg =>
     have hl1 : ((D.news.length : Int) == (news.length : Int)) = false := by rw [beq_eq_false_iff_ne]; omega
     have HE := Lib.hid (show RES = (none, k, 51) by rw [← hg, HBad.out, if_pos (Or.inr hlen)]; rfl)
     clear hg hres hd hlen
     go_wp2
     go_ret3
     exact .fail HE.out HB.out
    have hnot : ¬ (¬ (D.code = rco ∧ D.val = rva) ∨ D.news.length ≠ news.length) := fun h => h.elim (fun h => h hres) (fun h => h hlen)
    rw [hlen] at k4
    have hB63 := HRt.out.B
    have hlv := live_le s
    have hbl := HRt.out.bounds.lim
    obtain ⟨L, hL⟩ : ∃ L, c.lim = L := ⟨_, rfl⟩
    have hlim := fun W => llimit_any c _ (cfgIn_mapC c) HRt.out W
    rw [hL] at HBad hbl hlim
    clear hres hd hlen hL
    by_cases h43 : D.code = 43
    case neg =>
     have hb0 : badRun c s X D = 0 := by rw [HBad.out, if_neg hnot, if_neg (fun h => h43 h.1)]
     have HG2 := Lib.hid (show replayGo c ps recs (rows.drop (k + 1)) (afterP s D) (k + 1) = RES by rw [← hg, hb0]; rfl)
     have e43 : (D.code == 43) = false := beq_eq_false_iff_ne.2 h43
     clear hg hnot hb0
     go_upto_region 17 with fail
     refine wp_region_held_drew (S := (fun w' => w'.cell? ⟨gd, 0, none⟩ = some (.int .i64 D.code))) (by kernel_rfl) ?_ (fun hHeld => ?_)
     ·exact k0
     refine takeA 0 ?_
     try simp only [Act.put, pS]
     refine takeA 1 ?_
     try simp only [Act.put, pS]
     refine takeA 2 ?_
     try simp only [Act.put, pS]
     refine takeA 3 ?_
     try simp only [Act.put, pS]
     refine takeA 4 ?_
     try simp only [Act.put, pS]
     refine skipA 5 ?_
     try simp only [Act.put, pS]
     refine skipA 6 ?_
     try simp only [Act.put, pS]
     refine skipA 7 ?_
     try simp only [Act.put, pS]
     refine skipA 8 ?_
     try simp only [Act.put, pS]
     refine skipA 9 ?_
     try simp only [Act.put, pS]
     refine skipA 10 ?_
     try simp only [Act.put, pS]
     refine skipA 11 ?_
     try simp only [Act.put, pS]
     refine skipA 12 ?_
     try simp only [Act.put, pS]
     refine skipA 13 ?_
     try simp only [Act.put, pS]
     refine skipA 14 ?_
     try simp only [Act.put, pS]
     refine skipA 15 ?_
     try simp only [Act.put, pS]
     refine takeA 16 ?_
     try simp only [Act.put, pS]
     refine takeA 17 ?_
     try simp only [Act.put, pS]
     refine wpAnyH_done (by kernel_rfl) ?_ _
     try simp only [Act.put, pS]
     go_wp2
     go_roundw
     case rel => exact ⟨k + 1, nb + news.length + c.F.toNat, mb', afterP s D, ⟨by omega, by go_num, by have := HRt.out.F; omega⟩, HG2.out, HS.out.more (grown_drew _ _), HOK.out, HF.out, HC.out.drew, HM.out.drew, HB.out.drew⟩
     case measure => simp [intOf]; omega
    have e43 : (D.code == 43) = true := beq_iff_eq.2 h43
    have kr : wc.rangeAt g11 0 c.mapC.toList := HM.out.rangeAt
    have e1 : IntKind.i64.wrap ((liveP s : Int) + (news.length : Int)) = (liveP s : Int) + (news.length : Int) := IntWalk.i64_in _ (by omega)
    have e2 : IntKind.i64.wrap ((liveP s : Int) + (news.length : Int) + L) = (liveP s : Int) + (news.length : Int) + L := IntWalk.i64_in _ (by omega)
    obtain ⟨bb, hbb⟩ : ∃ bb, decide ((liveP s : Int) + (news.length : Int) + L < c.B) = bb := ⟨_, rfl⟩
    clear hB63 hlv hbl
    go_upto_region 17 with fail
    refine wp_region_held_drew (S := (fun w' => w'.cell? ⟨gd, 0, none⟩ = some (.int .i64 D.code) ∧ w'.cell? ⟨gr, 5, none⟩ = some (.slice nA news.length nc) ∧ w'.rangeAt g11 0 c.mapC.toList ∧ w'.cell? ⟨w.heap.size, 1, none⟩ = some (.int .i64 c.B))) (by kernel_rfl) ?_ (fun hHeld => ?_)
    ·exact ⟨k0, k7, kr, k8⟩
    refine takeA 0 ?_
    try simp only [Act.put, pS]
    refine takeA 1 ?_
    try simp only [Act.put, pS]
    refine takeA 2 ?_
    try simp only [Act.put, pS]
    refine takeA 3 ?_
    try simp only [Act.put, pS]
    refine takeA 4 ?_
    try simp only [Act.put, pS]
    refine takeA 5 ?_
    try simp only [Act.put, pS]
    refine takeA 6 ?_
    try simp only [Act.put, pS]
    refine takeA 7 ?_
    try simp only [Act.put, pS]
    refine takeA 8 ?_
    try simp only [Act.put, pS]
    refine takeA 9 ?_
    try simp only [Act.put, pS]
    refine loadH 10 rfl rfl rfl (by kernel_rfl) (by kernel_rfl) (by kernel_rfl) (fun _ _ _ _ _ h => h) (by rfl) (by assumption) rfl c.mapC Try.underlying74 rfl info_lmap ?_ ?_
    ·(intro w hSw; (try dsimp only at hSw); go_split_ands; assumption)
    try simp only [Act.put, pS]
    refine takeA 13 ?_
    try simp only [Act.put, pS]
    refine takeA 14 ?_
    try simp only [Act.put, pS]
    refine comeH 11 rfl rfl rfl rfl (by kernel_rfl) (by rfl) (fun K hK => ?_)
    go_simp
    refine (hlim _).mono ?_
    rintro e wl ⟨rfl, hbl⟩
    have HDn := Lib.hid (HDn.out.drew.below hbl HDn.out.drew.lt)
    have HX1 := Lib.hid (HX1.out.drew.below hbl HX1.out.drew.lt)
    have HC := Lib.hid (HC.out.drew.below hbl HC.out.drew.lt)
    have HM := Lib.hid (HM.out.drew.below hbl HM.out.drew.lt)
    have HS := Lib.hid ((HS.out.more (grown_drew _ _)).more (bk_grown_below hbl))
    have HB := Lib.hid (HB.out.drew.trans (hbl.mono HB.out.size))
    clear hbl
    go_simp
    refine hK.out _ _ ?_ (fun hHeld => ?_)
    ·exact ⟨HDn.out.cell 0, HX1.out.cell 5, HM.out.rangeAt, HC.out.cell 1⟩
    clear hK K
    try simp only [Act.put, pS]
    refine takeA 12 ?_
    try simp only [Act.put, pS]
    refine takeA 15 ?_
    try simp only [Act.put, pS]
    refine takeA 16 ?_
    try simp only [Act.put, pS]
    refine takeA 17 ?_
    try simp only [Act.put, pS]
    refine wpAnyH_done (by kernel_rfl) ?_ _
    try simp only [Act.put, pS]
    cases bb
    ·have hb0 : badRun c s X D = 0 := by rw [HBad.out, if_neg hnot, if_neg (fun h => (of_decide_eq_false hbb) h.2)]
     have HG2 := Lib.hid (show replayGo c ps recs (rows.drop (k + 1)) (afterP s D) (k + 1) = RES by rw [← hg, hb0]; rfl)
     clear hg hnot hb0 hbb
     go_wp2
     go_roundw
     case rel => exact ⟨k + 1, nb + news.length + c.F.toNat, mb', afterP s D, ⟨by omega, by go_num, by have := HRt.out.F; omega⟩, HG2.out, HS.out, HOK.out, HF.out, HC.out, HM.out, HB.out⟩
     case measure => simp [intOf]; omega
    ·have hb0 : badRun c s X D = 43 := by rw [HBad.out, if_neg hnot, if_pos ⟨h43, of_decide_eq_true hbb⟩]
     have HE := Lib.hid (show RES = (none, k, 43) by rw [← hg, hb0]; rfl)
     clear hg hnot hb0 hbb
     go_wp2
     go_ret3
     exact .fail HE.out HB.out
end Go.Proofs.Ytjggmimaolddkaa
