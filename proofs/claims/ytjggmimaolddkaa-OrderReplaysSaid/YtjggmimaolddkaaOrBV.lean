import Derived.Test.YtjggmimaolddkaaOrAV
import Derived.Test.YtjggmimaolddkaaOrAZ
import Derived.Test.YtjggmimaolddkaaOrBA
import Derived.Test.YtjggmimaolddkaaOrBT
import Derived.Test.YtjggmimaolddkaaOrBU
import Derived.Deep.DeepCutAuto
import Derived.Test.YtjggmimaolddkaaOrAR
namespace Go.Proofs.Ytjggmimaolddkaa
open Go.RowKit
set_option linter.unusedVariables false
set_option linter.unusedSimpArgs false
theorem StR.not_zero {w : World} {roots : List Int} {bv : Value} {s : MSt} {g : Nat} (h : StR w roots bv s) (hz : Bk w g 53 zeroSt) : SlIn (fun b => b ≠ g) bv := by
 obtain ⟨A, n, k, l, rfl, hx, hb⟩ := h.box
 intro a n' k' e hn e2
 injection e with e1 en _
 subst e1 en
 obtain ⟨b, o, e3, _, hc⟩ := hx.rd.at_ hn
 injection e3 with e3
 subst e3
 simp only at e2
 subst e2
 have hl : 0 < l.length := by rw [hx.len]; exact hn
 obtain ⟨x, hxl⟩ : ∃ x, l[0]? = some x := ⟨_, List.getElem?_eq_getElem hl⟩
 have hm := List.mem_of_getElem? hxl
 have h1 := (h.few x.h (by rw [(hb.is_ x.h x.words).2 hm]; rfl)).1
 have h9 := flat_nine (fun b hb => (hx.ok b hb).2) hxl 0 (by omega)
 have h0 := hc 0 (.int .u64 x.h) (by
  rw [show (0 : Nat) = 0 * 9 + 0 from rfl, h9]; rfl)
 rw [Nat.add_zero, hz.cell] at h0
 have hall : ∀ v ∈ zeroSt, ∀ y : Int, v = Value.int .u64 y → y = 0 := by
  intro v hv y e
  subst e
  simp [zeroSt] at hv
  exact hv
 have := hall _ (Array.mem_of_getElem? h0) _ rfl
 omega
theorem replayP_form (c : Cfg) (ps : List (List Ins)) (recs : List Rc7) (rows : List Rx) : (∃ s', replayP c ps recs rows = (some s', 0, 0)) ∨ (∃ k x, replayP c ps recs rows = (none, k, x) ∧ x ≠ 0) := by
 unfold replayP
 split
 ·rcases replayGo_form c ps recs rows emptyS 0 with h | ⟨k, x, h, hx, _⟩
  ·exact .inl h
  ·exact .inr ⟨k, x, h, hx⟩
 ·exact .inr ⟨0, 1, rfl, by decide⟩
set_option maxRecDepth 100000 in
set_option maxHeartbeats 16000000 in
theorem replays_walk (cc : Cfg) (ps : List (List Ins)) (A0 : Option Addr) (n0 c0 : Nat) (recs : List Rc7) (A1 : Option Addr) (n1 c1 : Nat) (rows : List Rx) (A2 : Option Addr) (n2 c2 : Nat) (W : World)
 (hp : ProgsIn W W.heap.size A0 n0 ps) (hpk : ∀ q ∈ ps, ∀ i ∈ q, i.Ok) (hc0 : n0 ≤ c0) (hr : RdR W W.heap.size A1 n1 recs) (hrk : ∀ q ∈ recs, q.Wf) (hc1 : n1 ≤ c1) (hrow : RowsIn W W.heap.size A2 n2 rows) (hxk : ∀ x ∈ rows, x.Wf W W.heap.size) (hc2 : n2 ≤ c2) :
 Calls Try.prog 4 #[cc.v, .slice A0 n0 c0, .slice A1 n1 c1, .slice A2 n2 c2] W fun e w' => e = .returned (.bool true) ∧ Below W.heap.size W w' := by
 have HP := Lib.hid hp
 have HPk := Lib.hid hpk
 have HR := Lib.hid hr
 have HRk : Hid (∀ q ∈ recs, q.Ok) := fun q hq => (hrk q hq).ok
 have HRow := Lib.hid hrow
 have HLn := Lib.hid hrow.len
 have hn1 := hr.le
 have hn2 := hrow.rows.le
 unfold maxLen at hn1 hn2
 unfold Cfg.v
 have HC0 : Hid (Bk (W.alloc (.cells #[.int .i64 cc.T, .int .i64 cc.B, .int .i64 cc.W, .int .i64 cc.F, .int .u64 cc.fi, .int .u64 cc.la] 44)) W.heap.size 44 #[.int .i64 cc.T, .int .i64 cc.B, .int .i64 cc.W, .int .i64 cc.F, .int .u64 cc.fi, .int .u64 cc.la]) := Bk.new W _ _
 have HB0 : Hid (Below W.heap.size W (W.alloc (.cells #[.int .i64 cc.T, .int .i64 cc.B, .int .i64 cc.W, .int .i64 cc.F, .int .u64 cc.fi, .int .u64 cc.la] 44))) := (Below.refl _ _).alloc (Nat.le_refl _) _
 have hfw := fun W1 hp hr => ofew_any cc ps A0 n0 c0 A1 n1 c1 rows A2 n2 c2 W1 hp hn1 hr
 unfold Cfg.v at hfw
 have HFw := Lib.hid hfw
 clear hfw hp hpk hr hrk hrow
 go_enter Try.func4, Try.ntmps4
 go_upto_region 3 with
  (go_at_call 6
   refine (alive17_any _).mono ?_
   rintro e w1 ⟨rfl, hb1⟩
   have HC := Lib.hid (HC0.out.below hb1 HC0.out.lt)
   have HB := Lib.hid (HB0.out.trans (hb1.mono HB0.out.size))
   clear hb1)
 have j0 : w1.cell? ⟨W.heap.size, 0, none⟩ = some (.int .i64 cc.T) := HC.out.cell 0
 have j1 : w1.cell? ⟨W.heap.size, 1, none⟩ = some (.int .i64 cc.B) := HC.out.cell 1
 have j2 : w1.cell? ⟨W.heap.size, 2, none⟩ = some (.int .i64 cc.W) := HC.out.cell 2
 have j3 : w1.cell? ⟨W.heap.size, 3, none⟩ = some (.int .i64 cc.F) := HC.out.cell 3
 have j4 : w1.cell? ⟨W.heap.size, 4, none⟩ = some (.int .u64 cc.fi) := HC.out.cell 4
 have j5 : w1.cell? ⟨W.heap.size, 5, none⟩ = some (.int .u64 cc.la) := HC.out.cell 5
 cases hfe : fewO cc ps n1 rows with
 | false =>
   go_wp2_with
    (go_at_call 10
     refine (HFw.out _ ((HP.out.below HB.out).more HB.out.size) ((HRow.out.below HB.out).more HB.out.size)).mono ?_
     rintro e w2 ⟨rfl, hb2⟩
     rw [hfe]
     have HB := Lib.hid (HB.out.trans (hb2.mono HB.out.size))
     clear hb2)
   go_ret
   exact ⟨rfl, HB.out⟩
 | true =>
 obtain ⟨hf1, hf2, hf3⟩ := fewO_yes hfe
 rw [HLn.out] at hf3
 have HXo : Hid (∀ x ∈ rows, x.Ok) := fun x hx => ⟨(hxk x hx).row, (hxk x hx).news, by have := hf1 x hx; omega⟩
 clear hf1 hxk
 go_upto_region 5 with
  (go_at_call 10
   refine (HFw.out _ ((HP.out.below HB.out).more HB.out.size) ((HRow.out.below HB.out).more HB.out.size)).mono ?_
   rintro e w2 ⟨rfl, hb2⟩
   rw [hfe]
   have HC := Lib.hid (HC.out.below hb2 HC.out.lt)
   have HB := Lib.hid (HB.out.trans (hb2.mono HB.out.size))
   clear hb2)
 clear j0 j1 j2 j3 j4 j5 hfe
 have j0 : w2.cell? ⟨W.heap.size, 0, none⟩ = some (.int .i64 cc.T) := HC.out.cell 0
 have j1 : w2.cell? ⟨W.heap.size, 1, none⟩ = some (.int .i64 cc.B) := HC.out.cell 1
 have j2 : w2.cell? ⟨W.heap.size, 2, none⟩ = some (.int .i64 cc.W) := HC.out.cell 2
 have j3 : w2.cell? ⟨W.heap.size, 3, none⟩ = some (.int .i64 cc.F) := HC.out.cell 3
 have j4 : w2.cell? ⟨W.heap.size, 4, none⟩ = some (.int .u64 cc.fi) := HC.out.cell 4
 have j5 : w2.cell? ⟨W.heap.size, 5, none⟩ = some (.int .u64 cc.la) := HC.out.cell 5
 have hrpl : ∀ W1, ProgsIn W1 W1.heap.size A0 n0 ps → RdR W1 W1.heap.size A1 n1 recs → RowsIn W1 W1.heap.size A2 n2 rows → Calls Try.prog 11 #[.agg #[.int .i64 cc.T, .int .i64 cc.B, .int .i64 cc.W, .int .i64 cc.F, .int .u64 cc.fi, .int .u64 cc.la], .slice A0 n0 c0, .slice A1 n1 c1, .slice A2 n2 c2] W1 (ReplayPost W1 (replayP cc ps recs rows)) := fun W1 h1 h2 h3 => oreplay_any cc ps recs rows A0 n0 c0 A1 n1 c1 A2 n2 c2 W1 h1 h2 h3 HPk.out HRk.out HXo.out (by omega)
 have hrpl2 : ∀ W1 B1 d1 B2 d2, ProgsIn W1 W1.heap.size A0 n0 ps → RdR W1 W1.heap.size B1 n1 recs → RowsIn W1 W1.heap.size B2 n2 rows → Calls Try.prog 12 #[.agg #[.int .i64 cc.T, .int .i64 cc.B, .int .i64 cc.W, .int .i64 cc.F, .int .u64 cc.fi, .int .u64 cc.la], .slice A0 n0 c0, .slice B1 n1 d1, .slice B2 n2 d2] W1 (Replay17 W1 (replayP cc ps recs rows)) := fun W1 B1 d1 B2 d2 h1 h2 h3 => rreplay_any cc ps recs rows A0 n0 c0 B1 n1 d1 B2 n2 d2 W1 h1 h2 h3 HPk.out HRk.out HXo.out (by omega)
 have hform := replayP_form cc ps recs rows
 obtain ⟨R, hR⟩ : ∃ R, replayP cc ps recs rows = R := ⟨_, rfl⟩
 rw [hR] at hform hrpl hrpl2
 have HRp := Lib.hid hrpl
 have HRp2 := Lib.hid hrpl2
 have HForm := Lib.hid hform
 have HN1 : Hid (n1 ≤ 100000) := by show _ ≤ _; omega
 have HN2 : Hid (n2 ≤ 100000) := by show _ ≤ _; omega
 have HRo : Hid (∀ r ∈ rows.map Rx.r, r.Ok) := fun r hr => by
  obtain ⟨x, hx, rfl⟩ := List.mem_map.1 hr
  exact (HXo.out x hx).row
 clear hR hrpl hrpl2 hform
 obtain ⟨R1, R2, R3⟩ := R
 go_upto_region 6 with
  (go_at_call 11
   refine (HRp.out _ ((HP.out.below HB.out).more HB.out.size) ((HR.out.below HB.out).more HB.out.size) ((HRow.out.below HB.out).more HB.out.size)).mono ?_
   rintro e w3 hrp
   obtain ⟨pv3, rfl, hpn, hps, hb3⟩ := hrp
   have HPn := Lib.hid hpn
   have HPs := Lib.hid hps
   have HC := Lib.hid (HC.out.below hb3 HC.out.lt)
   have HB := Lib.hid (HB.out.trans (hb3.mono HB.out.size))
   clear hb3 hpn hps)
 clear j0 j1 j2 j3 j4 j5
 have j0 : w3.cell? ⟨W.heap.size, 0, none⟩ = some (.int .i64 cc.T) := HC.out.cell 0
 have j1 : w3.cell? ⟨W.heap.size, 1, none⟩ = some (.int .i64 cc.B) := HC.out.cell 1
 have j2 : w3.cell? ⟨W.heap.size, 2, none⟩ = some (.int .i64 cc.W) := HC.out.cell 2
 have j3 : w3.cell? ⟨W.heap.size, 3, none⟩ = some (.int .i64 cc.F) := HC.out.cell 3
 have j4 : w3.cell? ⟨W.heap.size, 4, none⟩ = some (.int .u64 cc.fi) := HC.out.cell 4
 have j5 : w3.cell? ⟨W.heap.size, 5, none⟩ = some (.int .u64 cc.la) := HC.out.cell 5
 go_cut [12, 13, 14] (fun v12 v13 v14 wx => ∃ (g12 : Nat) (roots : List Int) (bv : Value), v12 = .pointer (some ⟨g12, 0, none⟩) ∧ v13 = .int .i64 (R2 : Int) ∧ v14 = .int .i64 R3 ∧ Hid (Bk wx g12 53 (stV roots bv).toArray) ∧ Hid (roots.length = 16) ∧ Hid (∃ A n k, bv = .slice A n k) ∧ Hid (∀ s, R1 = some s → StR wx roots bv s) ∧ Hid (Below W.heap.size W wx) ∧ Hid (Below w3.heap.size w3 wx))
 case first =>
  as_aux_lemma =>
   refine wp_region_held_drew (S := (fun w' => w'.rangeAt W.heap.size 0 (#[.int .i64 cc.T, .int .i64 cc.B, .int .i64 cc.W, .int .i64 cc.F, .int .u64 cc.fi, .int .u64 cc.la] : Array Value).toList)) (by kernel_rfl) ?_ (fun hHeld => ?_)
   ·exact HC.out.range
   refine loadH 0 rfl rfl rfl (by kernel_rfl) (by kernel_rfl) (by kernel_rfl) (fun _ _ _ _ _ h => h) (by rfl) (by assumption) rfl #[.int .i64 cc.T, .int .i64 cc.B, .int .i64 cc.W, .int .i64 cc.F, .int .u64 cc.fi, .int .u64 cc.la] Try.underlying44 rfl (by kernel_rfl) ?_ ?_
   ·(intro w hSw; exact hSw)
   try simp only [Act.put, pS]
   refine takeA 1 ?_
   try simp only [Act.put, pS]
   refine takeA 2 ?_
   try simp only [Act.put, pS]
   refine takeA 4 ?_
   try simp only [Act.put, pS]
   obtain ⟨V0, hV0⟩ : ∃ V0, w3.drew = V0 := ⟨_, rfl⟩
   have HC : Hid (Bk V0 W.heap.size 44 #[.int .i64 cc.T, .int .i64 cc.B, .int .i64 cc.W, .int .i64 cc.F, .int .u64 cc.fi, .int .u64 cc.la]) := by show Bk _ _ _ _; rw [← hV0]; exact HC.out
   have HB : Hid (Below W.heap.size W V0) := by show Below _ _ _; rw [← hV0]; exact HB.out.drew
   have HB3 : Hid (Below w3.heap.size w3 V0) := by show Below _ _ _; rw [← hV0]; exact (Below.refl _ _).drew
   rw [hV0] at hHeld ⊢
   clear hV0 j0 j1 j2 j3 j4 j5
   refine comeH2 3 11 rfl rfl rfl rfl rfl rfl rfl rfl (by kernel_rfl) (by rfl) (by rfl) (fun K hK => ?_) (fun K hK => ?_)
   ·go_simp
    refine (records_any recs A1 n1 c1 _ ((HR.out.below HB.out).more HB.out.size) HN1.out).mono ?_
    rintro e wa1 ⟨v1, rfl, ho1, hb⟩
    obtain ⟨B1, d1, rfl, hd1, _⟩ := Rd.of_own_cap ho1
    have HO1 := Lib.hid ho1
    have HC := Lib.hid (HC.out.below hb HC.out.lt)
    have HB3 := Lib.hid (HB3.out.trans (hb.mono HB3.out.size))
    have HB := Lib.hid (HB.out.trans (hb.mono HB.out.size))
    clear ho1 hb hd1
    go_simp
    refine hK.out _ _ ?_ (fun hHeld => ?_)
    ·exact HC.out.range
    clear hK K
    try simp only [Act.put, pS]
    refine comeH2 5 11 rfl rfl rfl rfl rfl rfl rfl rfl (by kernel_rfl) (by rfl) (by rfl) (fun K hK => ?_) (fun K hK => ?_)
    ·go_simp
     refine (rows_any (rows.map Rx.r) HRo.out A2 n2 c2 _ ((HRow.out.rows.below HB.out).more HB.out.size) HN2.out).mono ?_
     rintro e wb2 ⟨v2, rfl, ho2, hb⟩
     obtain ⟨B2, d2, rfl, hd2, _⟩ := Rd.of_own_cap ho2
     have HO2 := Lib.hid ho2
     have HC := Lib.hid (HC.out.below hb HC.out.lt)
     have HO1 := Lib.hid (own_below HO1.out hb)
     have HB3 := Lib.hid (HB3.out.trans (hb.mono HB3.out.size))
     have HB := Lib.hid (HB.out.trans (hb.mono HB.out.size))
     clear ho2 hb hd2
     go_simp
     refine hK.out _ _ ?_ (fun hHeld => ?_)
     ·exact HC.out.range
     clear hK K
     try simp only [Act.put, pS]
     refine comeH2 6 11 rfl rfl rfl rfl rfl rfl rfl rfl (by kernel_rfl) (by rfl) (by rfl) (fun K hK => ?_) (fun K hK => ?_)
     ·go_simp
      have hrr : RdR wb2 wb2.heap.size B1 n1 recs := by obtain ⟨B1', c', e', h'⟩ := Rd.of_own HO1.out; cases e'; exact h'
      have hrw1 : RdW7 wb2 wb2.heap.size B2 n2 (rows.map Rx.r) := by obtain ⟨B2', c', e', h'⟩ := Rd.of_own HO2.out; cases e'; exact h'
      have hrw : RowsIn wb2 wb2.heap.size B2 n2 rows := ⟨hrw1, fun x hx => ((HRow.out.news x hx).keep fun p hp => HB.out.cell hp).more HB.out.size⟩
      refine (HRp2.out _ B1 d1 B2 d2 ((HP.out.below HB.out).more HB.out.size) hrr hrw).mono ?_
      rintro e wd3 ⟨roots, bv, rfl, hlr, hbv, hst, hb⟩
      have HLR := Lib.hid hlr
      have HBV := Lib.hid hbv
      have HST := Lib.hid hst
      have HC := Lib.hid (HC.out.below hb HC.out.lt)
      have HB3 := Lib.hid (HB3.out.trans (hb.mono HB3.out.size))
      have HB := Lib.hid (HB.out.trans (hb.mono HB.out.size))
      clear hrr hrw hrw1 hlr hbv hst hb
      go_simp
      refine hK.out _ _ ?_ (fun hHeld => ?_)
      ·exact HC.out.range
      clear hK K
      try simp only [Act.put, pS]
      refine takeA 7 ?_
      try simp only [Act.put, pS]
      refine takeA 8 ?_
      try simp only [Act.put, pS]
      refine takeA 9 ?_
      try simp only [Act.put, pS]
      refine takeA 10 ?_
      try simp only [Act.put, pS]
      refine comeH 11 rfl rfl rfl rfl (by kernel_rfl) (by rfl) (fun K hK => ?_)
      go_simp
      obtain ⟨we4, hW7⟩ : ∃ W7, wd3.alloc (.cells #[.int .u64 0, .int .u64 0, .int .u64 0, .int .u64 0, .int .u64 0, .int .u64 0, .int .u64 0, .int .u64 0, .int .u64 0, .int .u64 0, .int .u64 0, .int .u64 0, .int .u64 0, .int .u64 0, .int .u64 0, .int .u64 0, .slice none 0 0] 53) = W7 := ⟨_, rfl⟩
      have H12n : Hid (Bk we4 wd3.heap.size 53 zeroSt) := by show Bk _ _ _ _; rw [← hW7]; exact Bk.new _ _ _
      have hb : Below wd3.heap.size wd3 we4 := by rw [← hW7]; exact (Below.refl _ _).alloc (Nat.le_refl _) _
      have HG12 := Lib.hid (And.intro HC.out.lt HB3.out.size)
      have HNI : Hid (∀ s, R1 = some s → SlIn (fun b => b ≠ wd3.heap.size) bv) := fun s hs => (HST.out s hs).low.mono fun b hb => Nat.ne_of_lt hb
      have HST : Hid (∀ s, R1 = some s → StR we4 roots bv s) := fun s hs => (HST.out s hs).below hb
      have HC := Lib.hid (HC.out.below hb HC.out.lt)
      have HB3 := Lib.hid (HB3.out.trans (hb.mono HB3.out.size))
      have HB := Lib.hid (HB.out.trans (hb.mono HB.out.size))
      rw [hW7]
      obtain ⟨g12, hgd⟩ : ∃ gd, wd3.heap.size = gd := ⟨_, rfl⟩
      rw [hgd] at H12n HG12 HNI ⊢
      have H12 := H12n
      clear hW7 hb hgd H12n
      refine hK.out _ _ ?_ (fun hHeld => ?_)
      ·exact HC.out.range
      clear hK K
      try simp only [Act.put, pS]
      refine comeH 12 rfl rfl rfl rfl (by kernel_rfl) (by rfl) (fun K hK => ?_)
      have HOne : Hid ((stV roots bv).toArray.all (·.oneCell') = true) := by obtain ⟨A, n, k, e⟩ := HBV.out; show _ = _; rw [e]; exact stV_one _ _ _
      refine wp_store_rowH _ _ 53 _ (.tmp 12) (.tmp 40) g12 (stV roots bv).toArray (by rfl) (by rfl) 53 zeroSt H12.out (by rw [stV_len HLR.out]; exact info_st17) (by rw [stV_len HLR.out]; rfl) HOne.out ?_
      have HC := Lib.hid (HC.out.setRow_ne (g := g12) (by have := HG12.out; omega) ((stV roots bv).toArray))
      have H12 := Lib.hid (H12.out.setRow ((stV roots bv).toArray))
      have HB := Lib.hid (lbelow_setRow HB.out (show W.heap.size ≤ g12 by have := HG12.out; omega) ((stV roots bv).toArray))
      have HB3 := Lib.hid (lbelow_setRow HB3.out (show w3.heap.size ≤ g12 by have := HG12.out; omega) ((stV roots bv).toArray))
      have HST : Hid (∀ s, R1 = some s → StR (we4.setRow g12 (stV roots bv).toArray) roots bv s) := fun s hs => (HST.out s hs).keepS (HNI.out s hs) (fun p hp => World.cell?_of_block (setRow_other _ _ _ _ hp)) (by simp)
      refine hK.out _ _ ?_ (fun hHeld => ?_)
      ·exact HC.out.range
      clear hK K
      try simp only [Act.put, pS]
      refine takeA 13 ?_
      try simp only [Act.put, pS]
      refine takeA 14 ?_
      try simp only [Act.put, pS]
      refine wpAnyH_done (by kernel_rfl) ?_ _
      try simp only [Act.put, pS]
      go_wp2_with fail
      go_meet
      exact ⟨g12, roots, bv, rfl, rfl, rfl, H12.out, HLR.out, HBV.out, HST.out, HB.out, HB3.out⟩
     ·go_simp
      obtain ⟨we5, hW7⟩ : ∃ W7, wb2.alloc (.cells #[.int .u64 0, .int .u64 0, .int .u64 0, .int .u64 0, .int .u64 0, .int .u64 0, .int .u64 0, .int .u64 0, .int .u64 0, .int .u64 0, .int .u64 0, .int .u64 0, .int .u64 0, .int .u64 0, .int .u64 0, .int .u64 0, .slice none 0 0] 53) = W7 := ⟨_, rfl⟩
      have H12n : Hid (Bk we5 wb2.heap.size 53 zeroSt) := by show Bk _ _ _ _; rw [← hW7]; exact Bk.new _ _ _
      have hb : Below wb2.heap.size wb2 we5 := by rw [← hW7]; exact (Below.refl _ _).alloc (Nat.le_refl _) _
      have HG12 := Lib.hid (And.intro HC.out.lt HB3.out.size)
      have HC := Lib.hid (HC.out.below hb HC.out.lt)
      have HO1 := Lib.hid (own_below HO1.out hb)
      have HO2 := Lib.hid (own_below HO2.out hb)
      have HB3 := Lib.hid (HB3.out.trans (hb.mono HB3.out.size))
      have HB := Lib.hid (HB.out.trans (hb.mono HB.out.size))
      rw [hW7]
      obtain ⟨g12, hgd⟩ : ∃ gd, wb2.heap.size = gd := ⟨_, rfl⟩
      rw [hgd] at H12n HG12  ⊢
      have H12 := H12n
      clear hW7 hb hgd H12n
      refine hK.out _ _ ?_ (fun hHeld => ?_)
      ·exact HC.out.range
      clear hK K
      try simp only [Act.put, pS]
      refine comeH 6 rfl rfl rfl rfl (by kernel_rfl) (by rfl) (fun K hK => ?_)
      go_simp
      have hrr : RdR we5 we5.heap.size B1 n1 recs := by obtain ⟨B1', c', e', h'⟩ := Rd.of_own HO1.out; cases e'; exact h'
      have hrw1 : RdW7 we5 we5.heap.size B2 n2 (rows.map Rx.r) := by obtain ⟨B2', c', e', h'⟩ := Rd.of_own HO2.out; cases e'; exact h'
      have hrw : RowsIn we5 we5.heap.size B2 n2 rows := ⟨hrw1, fun x hx => ((HRow.out.news x hx).keep fun p hp => HB.out.cell hp).more HB.out.size⟩
      refine (HRp2.out _ B1 d1 B2 d2 ((HP.out.below HB.out).more HB.out.size) hrr hrw).mono ?_
      rintro e wd6 ⟨roots, bv, rfl, hlr, hbv, hst, hb⟩
      have HLR := Lib.hid hlr
      have HBV := Lib.hid hbv
      have HST := Lib.hid hst
      have HC := Lib.hid (HC.out.below hb HC.out.lt)
      have H12 := Lib.hid (H12.out.below hb H12.out.lt)
      have HB3 := Lib.hid (HB3.out.trans (hb.mono HB3.out.size))
      have HB := Lib.hid (HB.out.trans (hb.mono HB.out.size))
      have HNI : Hid (∀ s, R1 = some s → SlIn (fun b => b ≠ g12) bv) := fun s hs => (HST.out s hs).not_zero H12.out
      clear hrr hrw hrw1 hlr hbv hst hb
      go_simp
      refine hK.out _ _ ?_ (fun hHeld => ?_)
      ·exact HC.out.range
      clear hK K
      try simp only [Act.put, pS]
      refine takeA 7 ?_
      try simp only [Act.put, pS]
      refine takeA 8 ?_
      try simp only [Act.put, pS]
      refine takeA 9 ?_
      try simp only [Act.put, pS]
      refine takeA 10 ?_
      try simp only [Act.put, pS]
      refine comeH 12 rfl rfl rfl rfl (by kernel_rfl) (by rfl) (fun K hK => ?_)
      have HOne : Hid ((stV roots bv).toArray.all (·.oneCell') = true) := by obtain ⟨A, n, k, e⟩ := HBV.out; show _ = _; rw [e]; exact stV_one _ _ _
      refine wp_store_rowH _ _ 53 _ (.tmp 12) (.tmp 40) g12 (stV roots bv).toArray (by rfl) (by rfl) 53 zeroSt H12.out (by rw [stV_len HLR.out]; exact info_st17) (by rw [stV_len HLR.out]; rfl) HOne.out ?_
      have HC := Lib.hid (HC.out.setRow_ne (g := g12) (by have := HG12.out; omega) ((stV roots bv).toArray))
      have H12 := Lib.hid (H12.out.setRow ((stV roots bv).toArray))
      have HB := Lib.hid (lbelow_setRow HB.out (show W.heap.size ≤ g12 by have := HG12.out; omega) ((stV roots bv).toArray))
      have HB3 := Lib.hid (lbelow_setRow HB3.out (show w3.heap.size ≤ g12 by have := HG12.out; omega) ((stV roots bv).toArray))
      have HST : Hid (∀ s, R1 = some s → StR (wd6.setRow g12 (stV roots bv).toArray) roots bv s) := fun s hs => (HST.out s hs).keepS (HNI.out s hs) (fun p hp => World.cell?_of_block (setRow_other _ _ _ _ hp)) (by simp)
      refine hK.out _ _ ?_ (fun hHeld => ?_)
      ·exact HC.out.range
      clear hK K
      try simp only [Act.put, pS]
      refine takeA 13 ?_
      try simp only [Act.put, pS]
      refine takeA 14 ?_
      try simp only [Act.put, pS]
      refine wpAnyH_done (by kernel_rfl) ?_ _
      try simp only [Act.put, pS]
      go_wp2_with fail
      go_meet
      exact ⟨g12, roots, bv, rfl, rfl, rfl, H12.out, HLR.out, HBV.out, HST.out, HB.out, HB3.out⟩
    ·go_simp
     obtain ⟨we7, hW7⟩ : ∃ W7, wa1.alloc (.cells #[.int .u64 0, .int .u64 0, .int .u64 0, .int .u64 0, .int .u64 0, .int .u64 0, .int .u64 0, .int .u64 0, .int .u64 0, .int .u64 0, .int .u64 0, .int .u64 0, .int .u64 0, .int .u64 0, .int .u64 0, .int .u64 0, .slice none 0 0] 53) = W7 := ⟨_, rfl⟩
     have H12n : Hid (Bk we7 wa1.heap.size 53 zeroSt) := by show Bk _ _ _ _; rw [← hW7]; exact Bk.new _ _ _
     have hb : Below wa1.heap.size wa1 we7 := by rw [← hW7]; exact (Below.refl _ _).alloc (Nat.le_refl _) _
     have HG12 := Lib.hid (And.intro HC.out.lt HB3.out.size)
     have HC := Lib.hid (HC.out.below hb HC.out.lt)
     have HO1 := Lib.hid (own_below HO1.out hb)
     have HB3 := Lib.hid (HB3.out.trans (hb.mono HB3.out.size))
     have HB := Lib.hid (HB.out.trans (hb.mono HB.out.size))
     rw [hW7]
     obtain ⟨g12, hgd⟩ : ∃ gd, wa1.heap.size = gd := ⟨_, rfl⟩
     rw [hgd] at H12n HG12  ⊢
     have H12 := H12n
     clear hW7 hb hgd H12n
     refine hK.out _ _ ?_ (fun hHeld => ?_)
     ·exact HC.out.range
     clear hK K
     try simp only [Act.put, pS]
     refine comeH 5 rfl rfl rfl rfl (by kernel_rfl) (by rfl) (fun K hK => ?_)
     go_simp
     refine (rows_any (rows.map Rx.r) HRo.out A2 n2 c2 _ ((HRow.out.rows.below HB.out).more HB.out.size) HN2.out).mono ?_
     rintro e wb8 ⟨v2, rfl, ho2, hb⟩
     obtain ⟨B2, d2, rfl, hd2, _⟩ := Rd.of_own_cap ho2
     have HO2 := Lib.hid ho2
     have HC := Lib.hid (HC.out.below hb HC.out.lt)
     have H12 := Lib.hid (H12.out.below hb H12.out.lt)
     have HO1 := Lib.hid (own_below HO1.out hb)
     have HB3 := Lib.hid (HB3.out.trans (hb.mono HB3.out.size))
     have HB := Lib.hid (HB.out.trans (hb.mono HB.out.size))
     clear ho2 hb hd2
     go_simp
     refine hK.out _ _ ?_ (fun hHeld => ?_)
     ·exact HC.out.range
     clear hK K
     try simp only [Act.put, pS]
     refine comeH 6 rfl rfl rfl rfl (by kernel_rfl) (by rfl) (fun K hK => ?_)
     go_simp
     have hrr : RdR wb8 wb8.heap.size B1 n1 recs := by obtain ⟨B1', c', e', h'⟩ := Rd.of_own HO1.out; cases e'; exact h'
     have hrw1 : RdW7 wb8 wb8.heap.size B2 n2 (rows.map Rx.r) := by obtain ⟨B2', c', e', h'⟩ := Rd.of_own HO2.out; cases e'; exact h'
     have hrw : RowsIn wb8 wb8.heap.size B2 n2 rows := ⟨hrw1, fun x hx => ((HRow.out.news x hx).keep fun p hp => HB.out.cell hp).more HB.out.size⟩
     refine (HRp2.out _ B1 d1 B2 d2 ((HP.out.below HB.out).more HB.out.size) hrr hrw).mono ?_
     rintro e wd9 ⟨roots, bv, rfl, hlr, hbv, hst, hb⟩
     have HLR := Lib.hid hlr
     have HBV := Lib.hid hbv
     have HST := Lib.hid hst
     have HC := Lib.hid (HC.out.below hb HC.out.lt)
     have H12 := Lib.hid (H12.out.below hb H12.out.lt)
     have HB3 := Lib.hid (HB3.out.trans (hb.mono HB3.out.size))
     have HB := Lib.hid (HB.out.trans (hb.mono HB.out.size))
     have HNI : Hid (∀ s, R1 = some s → SlIn (fun b => b ≠ g12) bv) := fun s hs => (HST.out s hs).not_zero H12.out
     clear hrr hrw hrw1 hlr hbv hst hb
     go_simp
     refine hK.out _ _ ?_ (fun hHeld => ?_)
     ·exact HC.out.range
     clear hK K
     try simp only [Act.put, pS]
     refine takeA 7 ?_
     try simp only [Act.put, pS]
     refine takeA 8 ?_
     try simp only [Act.put, pS]
     refine takeA 9 ?_
     try simp only [Act.put, pS]
     refine takeA 10 ?_
     try simp only [Act.put, pS]
     refine comeH 12 rfl rfl rfl rfl (by kernel_rfl) (by rfl) (fun K hK => ?_)
     have HOne : Hid ((stV roots bv).toArray.all (·.oneCell') = true) := by obtain ⟨A, n, k, e⟩ := HBV.out; show _ = _; rw [e]; exact stV_one _ _ _
     refine wp_store_rowH _ _ 53 _ (.tmp 12) (.tmp 40) g12 (stV roots bv).toArray (by rfl) (by rfl) 53 zeroSt H12.out (by rw [stV_len HLR.out]; exact info_st17) (by rw [stV_len HLR.out]; rfl) HOne.out ?_
     have HC := Lib.hid (HC.out.setRow_ne (g := g12) (by have := HG12.out; omega) ((stV roots bv).toArray))
     have H12 := Lib.hid (H12.out.setRow ((stV roots bv).toArray))
     have HB := Lib.hid (lbelow_setRow HB.out (show W.heap.size ≤ g12 by have := HG12.out; omega) ((stV roots bv).toArray))
     have HB3 := Lib.hid (lbelow_setRow HB3.out (show w3.heap.size ≤ g12 by have := HG12.out; omega) ((stV roots bv).toArray))
     have HST : Hid (∀ s, R1 = some s → StR (wd9.setRow g12 (stV roots bv).toArray) roots bv s) := fun s hs => (HST.out s hs).keepS (HNI.out s hs) (fun p hp => World.cell?_of_block (setRow_other _ _ _ _ hp)) (by simp)
     refine hK.out _ _ ?_ (fun hHeld => ?_)
     ·exact HC.out.range
     clear hK K
     try simp only [Act.put, pS]
     refine takeA 13 ?_
     try simp only [Act.put, pS]
     refine takeA 14 ?_
     try simp only [Act.put, pS]
     refine wpAnyH_done (by kernel_rfl) ?_ _
     try simp only [Act.put, pS]
     go_wp2_with fail
     go_meet
     exact ⟨g12, roots, bv, rfl, rfl, rfl, H12.out, HLR.out, HBV.out, HST.out, HB.out, HB3.out⟩
   ·go_simp
    obtain ⟨we10, hW7⟩ : ∃ W7, V0.alloc (.cells #[.int .u64 0, .int .u64 0, .int .u64 0, .int .u64 0, .int .u64 0, .int .u64 0, .int .u64 0, .int .u64 0, .int .u64 0, .int .u64 0, .int .u64 0, .int .u64 0, .int .u64 0, .int .u64 0, .int .u64 0, .int .u64 0, .slice none 0 0] 53) = W7 := ⟨_, rfl⟩
    have H12n : Hid (Bk we10 V0.heap.size 53 zeroSt) := by show Bk _ _ _ _; rw [← hW7]; exact Bk.new _ _ _
    have hb : Below V0.heap.size V0 we10 := by rw [← hW7]; exact (Below.refl _ _).alloc (Nat.le_refl _) _
    have HG12 := Lib.hid (And.intro HC.out.lt HB3.out.size)
    have HC := Lib.hid (HC.out.below hb HC.out.lt)
    have HB3 := Lib.hid (HB3.out.trans (hb.mono HB3.out.size))
    have HB := Lib.hid (HB.out.trans (hb.mono HB.out.size))
    rw [hW7]
    obtain ⟨g12, hgd⟩ : ∃ gd, V0.heap.size = gd := ⟨_, rfl⟩
    rw [hgd] at H12n HG12  ⊢
    have H12 := H12n
    clear hW7 hb hgd H12n
    refine hK.out _ _ ?_ (fun hHeld => ?_)
    ·exact HC.out.range
    clear hK K
    try simp only [Act.put, pS]
    refine comeH 3 rfl rfl rfl rfl (by kernel_rfl) (by rfl) (fun K hK => ?_)
    go_simp
    refine (records_any recs A1 n1 c1 _ ((HR.out.below HB.out).more HB.out.size) HN1.out).mono ?_
    rintro e wa11 ⟨v1, rfl, ho1, hb⟩
    obtain ⟨B1, d1, rfl, hd1, _⟩ := Rd.of_own_cap ho1
    have HO1 := Lib.hid ho1
    have HC := Lib.hid (HC.out.below hb HC.out.lt)
    have H12 := Lib.hid (H12.out.below hb H12.out.lt)
    have HB3 := Lib.hid (HB3.out.trans (hb.mono HB3.out.size))
    have HB := Lib.hid (HB.out.trans (hb.mono HB.out.size))
    clear ho1 hb hd1
    go_simp
    refine hK.out _ _ ?_ (fun hHeld => ?_)
    ·exact HC.out.range
    clear hK K
    try simp only [Act.put, pS]
    refine comeH 5 rfl rfl rfl rfl (by kernel_rfl) (by rfl) (fun K hK => ?_)
    go_simp
    refine (rows_any (rows.map Rx.r) HRo.out A2 n2 c2 _ ((HRow.out.rows.below HB.out).more HB.out.size) HN2.out).mono ?_
    rintro e wb12 ⟨v2, rfl, ho2, hb⟩
    obtain ⟨B2, d2, rfl, hd2, _⟩ := Rd.of_own_cap ho2
    have HO2 := Lib.hid ho2
    have HC := Lib.hid (HC.out.below hb HC.out.lt)
    have H12 := Lib.hid (H12.out.below hb H12.out.lt)
    have HO1 := Lib.hid (own_below HO1.out hb)
    have HB3 := Lib.hid (HB3.out.trans (hb.mono HB3.out.size))
    have HB := Lib.hid (HB.out.trans (hb.mono HB.out.size))
    clear ho2 hb hd2
    go_simp
    refine hK.out _ _ ?_ (fun hHeld => ?_)
    ·exact HC.out.range
    clear hK K
    try simp only [Act.put, pS]
    refine comeH 6 rfl rfl rfl rfl (by kernel_rfl) (by rfl) (fun K hK => ?_)
    go_simp
    have hrr : RdR wb12 wb12.heap.size B1 n1 recs := by obtain ⟨B1', c', e', h'⟩ := Rd.of_own HO1.out; cases e'; exact h'
    have hrw1 : RdW7 wb12 wb12.heap.size B2 n2 (rows.map Rx.r) := by obtain ⟨B2', c', e', h'⟩ := Rd.of_own HO2.out; cases e'; exact h'
    have hrw : RowsIn wb12 wb12.heap.size B2 n2 rows := ⟨hrw1, fun x hx => ((HRow.out.news x hx).keep fun p hp => HB.out.cell hp).more HB.out.size⟩
    refine (HRp2.out _ B1 d1 B2 d2 ((HP.out.below HB.out).more HB.out.size) hrr hrw).mono ?_
    rintro e wd13 ⟨roots, bv, rfl, hlr, hbv, hst, hb⟩
    have HLR := Lib.hid hlr
    have HBV := Lib.hid hbv
    have HST := Lib.hid hst
    have HC := Lib.hid (HC.out.below hb HC.out.lt)
    have H12 := Lib.hid (H12.out.below hb H12.out.lt)
    have HB3 := Lib.hid (HB3.out.trans (hb.mono HB3.out.size))
    have HB := Lib.hid (HB.out.trans (hb.mono HB.out.size))
    have HNI : Hid (∀ s, R1 = some s → SlIn (fun b => b ≠ g12) bv) := fun s hs => (HST.out s hs).not_zero H12.out
    clear hrr hrw hrw1 hlr hbv hst hb
    go_simp
    refine hK.out _ _ ?_ (fun hHeld => ?_)
    ·exact HC.out.range
    clear hK K
    try simp only [Act.put, pS]
    refine takeA 7 ?_
    try simp only [Act.put, pS]
    refine takeA 8 ?_
    try simp only [Act.put, pS]
    refine takeA 9 ?_
    try simp only [Act.put, pS]
    refine takeA 10 ?_
    try simp only [Act.put, pS]
    refine comeH 12 rfl rfl rfl rfl (by kernel_rfl) (by rfl) (fun K hK => ?_)
    have HOne : Hid ((stV roots bv).toArray.all (·.oneCell') = true) := by obtain ⟨A, n, k, e⟩ := HBV.out; show _ = _; rw [e]; exact stV_one _ _ _
    refine wp_store_rowH _ _ 53 _ (.tmp 12) (.tmp 40) g12 (stV roots bv).toArray (by rfl) (by rfl) 53 zeroSt H12.out (by rw [stV_len HLR.out]; exact info_st17) (by rw [stV_len HLR.out]; rfl) HOne.out ?_
    have HC := Lib.hid (HC.out.setRow_ne (g := g12) (by have := HG12.out; omega) ((stV roots bv).toArray))
    have H12 := Lib.hid (H12.out.setRow ((stV roots bv).toArray))
    have HB := Lib.hid (lbelow_setRow HB.out (show W.heap.size ≤ g12 by have := HG12.out; omega) ((stV roots bv).toArray))
    have HB3 := Lib.hid (lbelow_setRow HB3.out (show w3.heap.size ≤ g12 by have := HG12.out; omega) ((stV roots bv).toArray))
    have HST : Hid (∀ s, R1 = some s → StR (wd13.setRow g12 (stV roots bv).toArray) roots bv s) := fun s hs => (HST.out s hs).keepS (HNI.out s hs) (fun p hp => World.cell?_of_block (setRow_other _ _ _ _ hp)) (by simp)
    refine hK.out _ _ ?_ (fun hHeld => ?_)
    ·exact HC.out.range
    clear hK K
    try simp only [Act.put, pS]
    refine takeA 13 ?_
    try simp only [Act.put, pS]
    refine takeA 14 ?_
    try simp only [Act.put, pS]
    refine wpAnyH_done (by kernel_rfl) ?_ _
    try simp only [Act.put, pS]
    go_wp2_with fail
    go_meet
    exact ⟨g12, roots, bv, rfl, rfl, rfl, H12.out, HLR.out, HBV.out, HST.out, HB.out, HB3.out⟩
 case rest =>
  obtain ⟨g12, roots, bv, rfl, rfl, rfl, H12, HLR, HBV, HST, HB, HB3⟩ := hcut
  clear j0 j1 j2 j3 j4 j5
  rcases HForm.out with ⟨s, hs⟩ | ⟨k, x, hkx, hx⟩
  ·injection hs with h1 hs
   injection hs with h2 h3
   subst h1 h2 h3
   obtain ⟨nb1, sb1, mb1, rfl, hst1, _, _, hnb⟩ := HPs.out s rfl
   have HSt := Lib.hid (hst1.more (bk_grown_below HB3.out))
   have hSt := HST.out s rfl
   obtain ⟨A, n, k, l, rfl, hX, hBX⟩ := hSt.box
   have hro := hSt.roots
   subst hro
   have hx65 := few_len hBX hSt.few hX
   have hi17 : (Try.prog.info? 53).map (·.size) = some (stV s.roots (.slice A n k)).toArray.size := by rw [stV_len HLR.out]; exact info_st17
   have HX := Lib.hid hX
   have HBX := Lib.hid hBX.boxed
   have HNb := Lib.hid hnb
   clear hst1 hSt hX hBX hnb
   go_wp2_with (first
    | (refine BigFrame.wpList_want (by rfl) (fun K hK => wp_load_row 53 (.tmp 12) (by rfl) g12 (by rfl) 53 (stV s.roots (.slice A n k)).toArray (0, 0) _ H12.out Try.underlying53 (by rfl) hi17 (hK _ _ ?_)))
    | (go_at_call 14
       refine (same17_any _ nb1 sb1 mb1 s A n k l _ HSt.out (by have := HNb.out; omega) HX.out HBX.out (by omega)).mono ?_
       rintro e w5 ⟨rfl, hg5⟩
       have HBf := Lib.hid (HB.out.grown hg5 HB.out.size (fun k e => by cases e))
       clear hg5))
   go_ret
   exact ⟨rfl, HBf.out⟩
  ·injection hkx with h1 hs
   injection hs with h2 h3
   subst h1 h2 h3
   have hpv := HPn.out rfl
   subst hpv
   have hx1 : (R3 == 0) = false := beq_eq_false_iff_ne.2 hx
   have hx2 : (R3 != 0) = true := bne_iff_ne.2 hx
   have hxx : (R3 != R3) = false := by simp
   have hkk : ((R2 : Int) != (R2 : Int)) = false := by simp
   clear hx
   go_wp2
   go_ret
   exact ⟨rfl, HB.out⟩
end Go.Proofs.Ytjggmimaolddkaa
