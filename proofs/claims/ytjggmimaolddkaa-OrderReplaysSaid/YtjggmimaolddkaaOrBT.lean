import Derived.Test.YtjggmimaolddkaaOrBS
import Derived.Test.YtjggmimaolddkaaOrAT
import Derived.Deep.DeepCutAuto
import Derived.Test.YtjggmimaolddkaaOrAR
namespace Go.Proofs.Ytjggmimaolddkaa
open Go.RowKit
set_option linter.unusedVariables false
set_option linter.unusedSimpArgs false
set_option maxRecDepth 100000 in
set_option maxHeartbeats 16000000 in
theorem rreplay_any (c : Cfg) (ps : List (List Ins)) (recs : List Rc7) (rows : List Rx) (A0 : Option Addr) (n0 c0 : Nat) (A1 : Option Addr) (n1 c1 : Nat) (A2 : Option Addr) (n2 c2 : Nat) (w : World)
 (hp : ProgsIn w w.heap.size A0 n0 ps) (hr : RdR w w.heap.size A1 n1 recs) (hrow : RowsIn w w.heap.size A2 n2 rows)
 (hpk : ∀ p ∈ ps, ∀ i ∈ p, i.Ok) (hrk : ∀ q ∈ recs, q.Ok) (hok : ∀ x ∈ rows, x.Ok) (hn2 : n2 ≤ 1000) :
 Calls Try.prog 12 #[c.v, .slice A0 n0 c0, .slice A1 n1 c1, .slice A2 n2 c2] w (Replay17 w (replayP c ps recs rows)) := by
 have HP := Lib.hid hp
 have HR := Lib.hid hr
 have HRow := Lib.hid hrow
 have HPk := Lib.hid hpk
 have HRk := Lib.hid hrk
 have HOk := Lib.hid hok
 have HLen := Lib.hid hrow.len
 have hr7 := fun W1 => rr07_any c W1
 have hlim := fun (hR : c.Right) W1 => rlim07_any c hR W1
 have HLR0 : Hid (zero16.length = 16) := rfl
 clear hp hr hrow hpk hrk hok
 unfold Cfg.v at hr7 hlim ⊢
 have HLIM := Lib.hid hlim
 clear hlim
 obtain ⟨W1, hW1⟩ : ∃ W1, (w.alloc (.cells #[.int .i64 c.T, .int .i64 c.B, .int .i64 c.W, .int .i64 c.F, .int .u64 c.fi, .int .u64 c.la] 44)).alloc (.cells #[.int .u64 0, .int .u64 0, .int .u64 0, .int .u64 0, .int .u64 0, .int .u64 0, .int .u64 0, .int .u64 0, .int .u64 0, .int .u64 0, .int .u64 0, .int .u64 0, .int .u64 0, .int .u64 0, .int .u64 0, .int .u64 0, .slice none 0 0] 53) = W1 := ⟨_, rfl⟩
 have HB : Hid (Below w.heap.size w W1) := by show Below _ _ _; rw [← hW1]; exact ((Below.refl _ _).alloc (Nat.le_refl _) _).alloc (by simp) _
 have HC : Hid (Bk W1 w.heap.size 44 #[.int .i64 c.T, .int .i64 c.B, .int .i64 c.W, .int .i64 c.F, .int .u64 c.fi, .int .u64 c.la]) := by show Bk _ _ _ _; rw [← hW1]; exact (Bk.new w _ _).alloc _
 have HZ : Hid (Bk W1 (w.heap.size + 1) 53 zeroSt) := by show Bk _ _ _ _; rw [← hW1]; exact rf_new1 _ (by simp) _ _
 have HSz : Hid (W1.heap.size = w.heap.size + 1 + 1) := by show _ = _; rw [← hW1]; simp
 have HW1 := Lib.hid hW1
 clear hW1
 go_enter Try.func12, Try.ntmps12
 go_upto_region 1 with fail
 rw [HW1.out]
 clear HW1
 have HZa : Hid (Bk (W1.alloc (.cells #[.int .u64 0, .int .u64 0, .int .u64 0, .int .u64 0, .int .u64 0, .int .u64 0, .int .u64 0, .int .u64 0, .int .u64 0, .int .u64 0, .int .u64 0, .int .u64 0, .int .u64 0, .int .u64 0, .int .u64 0, .int .u64 0, .slice none 0 0] 53)) W1.heap.size 53 zeroSt) := Bk.new _ _ _
 go_upto_region 2 with (first
  | (refine wpList_built (by rfl) 53 #[] (by rfl) [] (by rfl) zeroSt built_st0 ?_)
  | (refine wpList_store_row (by rfl) 53 (.tmp 11) (.tmp 18) (by rfl) W1.heap.size zeroSt (by rfl) (by rfl) 53 zeroSt HZa.out info_st17 rfl (empty_str W1).one ?_))
 obtain ⟨W2, hW2⟩ : ∃ W2, (W1.alloc (.cells #[.int .u64 0, .int .u64 0, .int .u64 0, .int .u64 0, .int .u64 0, .int .u64 0, .int .u64 0, .int .u64 0, .int .u64 0, .int .u64 0, .int .u64 0, .int .u64 0, .int .u64 0, .int .u64 0, .int .u64 0, .int .u64 0, .slice none 0 0] 53)).setRow W1.heap.size zeroSt = W2 := ⟨_, rfl⟩
 have hsz := HSz.out
 have HS : Hid (Bk W2 (w.heap.size + 1 + 1) 53 (stV zero16 (.slice none 0 0)).toArray) := by show Bk _ _ _ _; rw [← hW2, ← hsz]; exact HZa.out.setRow _
 have HB' : Hid (Below w.heap.size w W2) := by show Below _ _ _; rw [← hW2]; exact lbelow_setRow (HB.out.alloc HB.out.size _) HB.out.size _
 have HC' : Hid (Bk W2 w.heap.size 44 #[.int .i64 c.T, .int .i64 c.B, .int .i64 c.W, .int .i64 c.F, .int .u64 c.fi, .int .u64 c.la]) := by show Bk _ _ _ _; rw [← hW2]; exact (HC.out.alloc _).setRow_ne (by omega) _
 have HZ' : Hid (Bk W2 (w.heap.size + 1) 53 zeroSt) := by show Bk _ _ _ _; rw [← hW2]; exact (HZ.out.alloc _).setRow_ne (by omega) _
 try rw [hW2]
 rw [hsz]
 clear hsz hW2 HZa HSz HB HC HZ
 have HB := HB'
 have HC := HC'
 have HZ := HZ'
 clear HB' HC' HZ'
 have HST : Hid (StR W2 zero16 (.slice none 0 0) emptyS) := empty_str W2
 have t0 := (HC.out.cell 0).trans rfl
 have t1 := (HC.out.cell 1).trans rfl
 have t2 := (HC.out.cell 2).trans rfl
 have t3 := (HC.out.cell 3).trans rfl
 have t4 := (HC.out.cell 4).trans rfl
 have t5 := (HC.out.cell 5).trans rfl
 go_wp2_with fail
 refine (hr7 _).mono ?_
 rintro e w3 ⟨rfl, hb3⟩
 have HST := Lib.hid (HST.out.below hb3)
 have HB' := Lib.hid (HB.out.trans (hb3.mono HB.out.size))
 have HC := Lib.hid (HC.out.below hb3 HC.out.lt)
 have HZ := Lib.hid (HZ.out.below hb3 HZ.out.lt)
 have HS := Lib.hid (HS.out.below hb3 HS.out.lt)
 clear hb3 t0 t1 t2 t3 t4 t5 HB hr7
 have HB := HB'
 clear HB'
 cases hR0 : c.right with
 | false =>
   have HE : Hid (replayP c ps recs rows = (none, 0, 1)) := by show _ = _; unfold replayP; rw [hR0]; rfl
   clear hR0
   have HLR := HLR0
   go_wp2_with (first
    | (refine wpList_load_row (by rfl) 53 (.tmp 11) (by rfl) (w.heap.size + 1 + 1) (by rfl) 53 (stV zero16 (.slice none 0 0)).toArray (0, 0) _ (by exact HS.out) Try.underlying53 (by rfl) (by rw [stV_len HLR.out]; exact info_st17) ?_)
    | (refine wpList_store_row (by rfl) 53 (.tmp 8) (.tmp 22) (by rfl) (w.heap.size + 1) (stV zero16 (.slice none 0 0)).toArray (by rfl) (by rfl) 53 zeroSt (by exact HZ.out) (by rw [stV_len HLR.out]; exact info_st17) (by rw [stV_len HLR.out]; rfl) (by exact HST.out.one) ?_)
    | (with_reducible show bodyPost _ _ _ _ _ _
       refine bodyPost_ret (results_ctt rfl _ _ (w.heap.size + 1) 53 (stV zero16 (.slice none 0 0)).toArray _ (by rfl) (HZ.out.setRow _) Try.underlying53 rfl (by rw [stV_len HLR.out]; exact info_st17)) rfl ?_
       have hb9 := lbelow_setRow HB.out (show w.heap.size ≤ w.heap.size + 1 by omega) (stV zero16 (.slice none 0 0)).toArray
       rw [HE.out]
       exact ⟨_, _, rfl, HLR.out, by obtain ⟨A, n, k, l, e, _, _⟩ := HST.out.box; exact ⟨A, n, k, e⟩, fun s hs => (by simp at hs), hb9⟩))
 | true =>
   have HRt := Lib.hid ((Cfg.right_iff c).1 hR0)
   have HE0 : Hid (replayP c ps recs rows = replayGo c ps recs rows emptyS 0) := by show _ = _; unfold replayP; rw [hR0]; rfl
   obtain ⟨RES, hRES⟩ : ∃ RES, replayP c ps recs rows = RES := ⟨_, rfl⟩
   rw [hRES] at HE0
   have HRES := Lib.hid hRES
   have HNI : Hid (SlIn (fun b => b ∉ [w.heap.size, w.heap.size + 1, w.heap.size + 1 + 1]) (.slice none 0 0)) := fun a n k e hn => by injection e with e _ _; cases e
   clear hR0 hRES
   go_wp2
   go_loopw [12] (fun i wr => ∃ (k : Nat) (s : MSt) (roots : List Int) (bv : Value), (k ≤ n2 ∧ i = .int .i64 k) ∧ Hid (replayGo c ps recs (rows.drop k) s k = RES) ∧ Hid (StR wr roots bv s) ∧ Hid (SlIn (fun b => b ∉ [w.heap.size, w.heap.size + 1, w.heap.size + 1 + 1]) bv) ∧ Hid (SOk s) ∧ Hid (Bk wr w.heap.size 44 #[.int .i64 c.T, .int .i64 c.B, .int .i64 c.W, .int .i64 c.F, .int .u64 c.fi, .int .u64 c.la]) ∧ Hid (Bk wr (w.heap.size + 1) 53 zeroSt) ∧ Hid (Bk wr (w.heap.size + 1 + 1) 53 (stV roots bv).toArray) ∧ Hid (Below w.heap.size w wr)) (fun i _ => n2 - (intOf i).toNat)
   case atStart => exact ⟨0, emptyS, zero16, _, ⟨by omega, rfl⟩, HE0.out.symm, HST.out, HNI.out, oempty_ok, HC.out, HZ.out, HS.out, HB.out⟩
   case round =>
    obtain ⟨k, s, roots, bv, ⟨hk, rfl⟩, HG, HST, HNI, HOK, HC, HZ, HS, HB⟩ := hrel
    clear HE0
    have HLR : Hid (roots.length = 16) := by show _ = 16; rw [HST.out.roots]; exact HST.out.len
    by_cases hlt : k < n2
    case neg =>
     obtain rfl : k = n2 := by omega
     have hg := HG.out
     rw [List.drop_of_length_le (by rw [HLen.out]; exact Nat.le_refl _)] at hg
     have HE := Lib.hid (show RES = (some s, 0, 0) from hg.symm)
     clear hg
     go_upto_region 19 with fail
     go_wp2_with (first
      | (refine wpList_load_row (by rfl) 53 (.tmp 11) (by rfl) (w.heap.size + 1 + 1) (by rfl) 53 (stV roots bv).toArray (0, 0) _ (by exact HS.out) Try.underlying53 (by rfl) (by rw [stV_len HLR.out]; exact info_st17) ?_)
      | (refine wpList_store_row (by rfl) 53 (.tmp 8) (.tmp 133) (by rfl) (w.heap.size + 1) (stV roots bv).toArray (by rfl) (by rfl) 53 zeroSt (by exact HZ.out) (by rw [stV_len HLR.out]; exact info_st17) (by rw [stV_len HLR.out]; rfl) (by exact HST.out.one) ?_)
      | (with_reducible show bodyPost _ _ _ _ _ _
         refine bodyPost_ret (results_ctt rfl _ _ (w.heap.size + 1) 53 (stV roots bv).toArray _ (by rfl) (HZ.out.setRow _) Try.underlying53 rfl (by rw [stV_len HLR.out]; exact info_st17)) rfl ?_
         have hb9 := lbelow_setRow HB.out (show w.heap.size ≤ w.heap.size + 1 by omega) (stV roots bv).toArray
         rw [HRES.out, HE.out]
         exact ⟨_, _, rfl, HLR.out, by obtain ⟨A, n, k, l, e, _, _⟩ := HST.out.box; exact ⟨A, n, k, e⟩, fun s' hs => by
          injection hs with hs
          subst hs
          exact HST.out.keepS HNI.out (fun p hp => World.cell?_of_block (setRow_other _ _ _ _ (fun e => hp (by rw [e]; simp)))) (by simp), hb9⟩))
    have hlti : (k : Int) < (n2 : Int) := by omega
    obtain ⟨b, o, r, rfl, hbB, hrw, hc⟩ := (HRow.out.rows.below HB.out).rwAt hlt
    have hkl : k < rows.length := by rw [HLen.out]; exact hlt
    obtain ⟨x, hx⟩ : ∃ x, rows[k]? = some x := ⟨_, List.getElem?_eq_getElem hkl⟩
    obtain rfl : x.r = r := by
     rw [List.getElem?_map, hx] at hrw
     simpa using hrw
    have hdr : rows.drop k = x :: rows.drop (k + 1) := by
     rw [List.drop_eq_getElem_cons hkl]; rw [List.getElem?_eq_getElem hkl] at hx; injection hx with hx; rw [hx]
    have hg := HG.out
    rw [hdr, replayGo] at hg
    have hmem := List.mem_of_getElem? hx
    have HXo := Lib.hid (HOk.out x hmem)
    obtain ⟨nA, nc, hnv, hnr, hnl⟩ := HRow.out.news x hmem
    have HNr := Lib.hid hnr
    have HNl := Lib.hid hnl
    have hnf := HXo.out.few
    obtain ⟨⟨rat, rwho, rtag, rco, rva, rnv⟩, news⟩ := x
    simp only at hnv hc hnf HNr HNl
    subst hnv
    have HXu : Hid (∀ h ∈ news, U64 h) := HXo.out.news
    obtain ⟨X, hX⟩ : ∃ X : Rx, Rx.mk ⟨rat, rwho, rtag, rco, rva, .slice nA news.length nc⟩ news = X := ⟨_, rfl⟩
    have hXr : X.r = ⟨rat, rwho, rtag, rco, rva, .slice nA news.length nc⟩ := by rw [← hX]
    have hXn : X.news = news := by rw [← hX]
    rw [hX] at hg
    have HXr := Lib.hid hXr
    have HXn := Lib.hid hXn
    have hkey : X.r.key = (rwho, rtag) := by rw [hXr]
    rw [hkey] at hg
    have hcode : X.r.code = rco := by rw [hXr]
    rw [hcode] at hg
    have d1 := hc 1 _ rfl
    have d2 := hc 2 _ rfl
    have d3 := hc 3 _ rfl
    have d4 := hc 4 _ rfl
    have d5 := hc 5 _ rfl
    simp only [← Nat.add_assoc, Nat.add_zero] at d1 d2 d3 d4 d5
    clear hc hrw hdr hkl hx hX hXr hXn hkey hcode hmem HXo hnr hnl
    go_upto_region 7 with fail
    refine wp_region_held_drew (S := (fun w' => w'.cell? ⟨b, o + k * 6 + 1, none⟩ = some (.int .i64 rwho) ∧ w'.cell? ⟨b, o + k * 6 + 2, none⟩ = some (.int .i64 rtag))) (by kernel_rfl) ?_ (fun hHeld => ?_)
    ·exact ⟨d1, d2⟩
    refine takeA 0 ?_
    try simp only [Act.put, pS]
    refine takeA 1 ?_
    try simp only [Act.put, pS]
    refine takeA 2 ?_
    try simp only [Act.put, pS]
    refine takeA 3 ?_
    try simp only [Act.put, pS]
    refine takeA 4 ?_
    try simp only [Act.put, pS]
    refine takeA 5 ?_
    try simp only [Act.put, pS]
    refine takeA 6 ?_
    try simp only [Act.put, pS]
    refine takeA 7 ?_
    try simp only [Act.put, pS]
    refine takeA 8 ?_
    try simp only [Act.put, pS]
    refine takeA 9 ?_
    try simp only [Act.put, pS]
    refine takeA 10 ?_
    try simp only [Act.put, pS]
    refine comeH 11 rfl rfl rfl rfl (by kernel_rfl) (by rfl) (fun K hK => ?_)
    go_simp
    refine (rfind17_any recs A1 n1 c1 rwho rtag _ ((HR.out.below HB.out.drew).more HB.out.drew.size)).mono ?_
    rintro e wc ⟨rfl, hwc⟩
    rw [hwc]
    clear hwc
    go_simp
    refine hK.out _ _ ?_ (fun hHeld => ?_)
    ·exact ⟨d1, d2⟩
    clear hK K
    try simp only [Act.put, pS]
    refine takeA 12 ?_
    try simp only [Act.put, pS]
    refine wpAnyH_done (by kernel_rfl) ?_ _
    try simp only [Act.put, pS]
    obtain ⟨V, hV⟩ : ∃ V, wr.drew = V := ⟨_, rfl⟩
    have HST' : Hid (StR V roots bv s) := by show StR _ _ _ _; rw [← hV]; exact HST.out.drew
    have HC' : Hid (Bk V w.heap.size 44 #[.int .i64 c.T, .int .i64 c.B, .int .i64 c.W, .int .i64 c.F, .int .u64 c.fi, .int .u64 c.la]) := by show Bk _ _ _ _; rw [← hV]; exact HC.out
    have HZ' : Hid (Bk V (w.heap.size + 1) 53 zeroSt) := by show Bk _ _ _ _; rw [← hV]; exact HZ.out
    have HS' : Hid (Bk V (w.heap.size + 1 + 1) 53 (stV roots bv).toArray) := by show Bk _ _ _ _; rw [← hV]; exact HS.out
    have HB' : Hid (Below w.heap.size w V) := by show Below _ _ _; rw [← hV]; exact HB.out.drew
    have e3 : V.cell? ⟨b, o + k * 6 + 3, none⟩ = some (.int .i64 rco) := by rw [← hV]; exact d3
    have e4 : V.cell? ⟨b, o + k * 6 + 4, none⟩ = some (.int .u64 rva) := by rw [← hV]; exact d4
    have e5 : V.cell? ⟨b, o + k * 6 + 5, none⟩ = some (.slice nA news.length nc) := by rw [← hV]; exact d5
    rw [hV]
    clear hV HST HC HZ HS HB d1 d2 d3 d4 d5 hHeld
    have HST := HST'
    have HC := HC'
    have HZ := HZ'
    have HS := HS'
    have HB := HB'
    clear HST' HC' HZ' HS' HB'
    have HD3 := Lib.hid e3
    have HD4 := Lib.hid e4
    have HD5 := Lib.hid e5
    cases hf : findK (rwho, rtag) recs 0 with
    | none =>
      have hfi : findI (rwho, rtag) recs 0 = -1 := by unfold findI; rw [hf]
      rw [hf] at hg
      have HE := Lib.hid (show RES = (none, k, 4) from hg.symm)
      rw [hfi]
      clear hg hf hfi e3 e4 e5
      go_upto_region 9 with fail
      go_wp2_with (first
       | (refine wpList_load_row (by rfl) 53 (.tmp 11) (by rfl) (w.heap.size + 1 + 1) (by rfl) 53 (stV roots bv).toArray (0, 0) _ (by exact HS.out) Try.underlying53 (by rfl) (by rw [stV_len HLR.out]; exact info_st17) ?_)
       | (refine wpList_store_row (by rfl) 53 (.tmp 8) (.tmp 43) (by rfl) (w.heap.size + 1) (stV roots bv).toArray (by rfl) (by rfl) 53 zeroSt (by exact HZ.out) (by rw [stV_len HLR.out]; exact info_st17) (by rw [stV_len HLR.out]; rfl) (by exact HST.out.one) ?_)
       | (with_reducible show bodyPost _ _ _ _ _ _
          refine bodyPost_ret (results_ctt rfl _ _ (w.heap.size + 1) 53 (stV roots bv).toArray _ (by rfl) (HZ.out.setRow _) Try.underlying53 rfl (by rw [stV_len HLR.out]; exact info_st17)) rfl ?_
          have hb9 := lbelow_setRow HB.out (show w.heap.size ≤ w.heap.size + 1 by omega) (stV roots bv).toArray
          rw [HRES.out, HE.out]
          exact ⟨_, _, rfl, HLR.out, by obtain ⟨A, n, k, l, e, _, _⟩ := HST.out.box; exact ⟨A, n, k, e⟩, fun s hs => (by simp at hs), hb9⟩))
    | some iq =>
      obtain ⟨i, q⟩ := iq
      have hfi : findI (rwho, rtag) recs 0 = (i : Int) := by unfold findI; rw [hf]
      rw [hf] at hg
      rw [hfi]
      obtain ⟨hqm, hqk, _, hqi⟩ := findK_mem hf
      have hin : i < n1 := by rw [← HR.out.rcLen]; exact (List.getElem?_eq_some_iff.1 hqi).1
      simp only [Nat.sub_zero] at hqi
      have HQi := Lib.hid hqi
      have HQo := Lib.hid (HRk.out q hqm)
      have hii : (i : Int) < (n1 : Int) := by omega
      have h0i : decide ((i : Int) < 0) = false := decide_eq_false (by omega)
      simp only at hg
      clear hf hqm hqk hqi hfi
      by_cases h45 : rco = 45
      ·subst h45
       rw [if_pos rfl] at hg
       have HG2 := Lib.hid hg
       clear hg
       go_wp2
       go_roundw
       case rel => exact ⟨k + 1, s, roots, bv, ⟨by omega, by go_num⟩, HG2.out, HST.out, HNI.out, HOK.out, HC.out, HZ.out, HS.out, HB.out⟩
       case measure => simp [intOf]; omega
      rw [if_neg h45] at hg
      have e45 : (rco == 45) = false := beq_eq_false_iff_ne.2 h45
      obtain ⟨rb, ro, q', rfl, hrb, hq', hqc⟩ := (HR.out.below HB.out).rcAt hin
      obtain rfl : q = q' := by have := HQi.out; rw [this] at hq'; injection hq'
      have HRun : Hid (runRow c ps q s X = runP s (codeP ps q.prog) q.args c.F c.W news) := by show _ = _; unfold runRow; rw [HXn.out]
      obtain ⟨qw, qt, qp, a0, a1, a2, a3, qf, ql, qs, qd, qc, qv⟩ := q
      simp only at HRun
      have d2 := hqc 2 _ rfl
      have d3 := hqc 3 _ rfl
      have d4 := hqc 4 _ rfl
      have d5 := hqc 5 _ rfl
      have d6 := hqc 6 _ rfl
      simp only [← Nat.add_assoc, Nat.add_zero] at d2 d3 d4 d5 d6
      have HArg : Hid (∀ a ∈ [a0, a1, a2, a3], U64 a) := HQo.out.args
      obtain ⟨D, hD⟩ : ∃ D, runRow c ps ⟨qw, qt, qp, a0, a1, a2, a3, qf, ql, qs, qd, qc, qv⟩ s X = D := ⟨_, rfl⟩
      have HD : Hid (runP s (codeP ps qp) [a0, a1, a2, a3] c.F c.W news = D) := HRun.out.symm.trans hD
      rw [hD] at hg
      clear hD HRun hqc hq' HQi HQo
      go_upto_region 12 with fail
      obtain ⟨W3, hW3⟩ : ∃ W3, V.alloc (.cells #[.int .i64 qp, .int .u64 a0, .int .u64 a1, .int .u64 a2, .int .u64 a3] 39) = W3 := ⟨_, rfl⟩
      have HQ : Hid (Bk W3 V.heap.size 39 #[.int .i64 qp, .int .u64 a0, .int .u64 a1, .int .u64 a2, .int .u64 a3]) := by show Bk _ _ _ _; rw [← hW3]; exact Bk.new _ _ _
      have hb3 : Below V.heap.size V W3 := by rw [← hW3]; exact (Below.refl _ _).alloc (Nat.le_refl _) _
      have HNI := Lib.hid (HNI.out.new HST.out)
      have HGq := Lib.hid (And.intro HB.out.size HS.out.lt)
      have HST := Lib.hid (HST.out.below hb3)
      have HC := Lib.hid (HC.out.below hb3 HC.out.lt)
      have HZ := Lib.hid (HZ.out.below hb3 HZ.out.lt)
      have HS := Lib.hid (HS.out.below hb3 HS.out.lt)
      have HNV : Hid (w.cell? ⟨b, o + k * 6 + 5, none⟩ = some (.slice nA news.length nc)) := (HB.out.cell (p := ⟨b, o + k * 6 + 5, none⟩) hbB).symm.trans HD5.out
      have HNC : Hid (w.cell? ⟨b, o + k * 6 + 3, none⟩ = some (.int .i64 rco)) := (HB.out.cell (p := ⟨b, o + k * 6 + 3, none⟩) hbB).symm.trans HD3.out
      have HNW : Hid (w.cell? ⟨b, o + k * 6 + 4, none⟩ = some (.int .u64 rva)) := (HB.out.cell (p := ⟨b, o + k * 6 + 4, none⟩) hbB).symm.trans HD4.out
      have HB := Lib.hid (HB.out.trans (hb3.mono HB.out.size))
      try rw [hW3]
      obtain ⟨gq, hgq⟩ : ∃ gq, V.heap.size = gq := ⟨_, rfl⟩
      rw [hgq] at HQ HNI HGq ⊢
      clear hW3 hb3 hgq d2 d3 d4 d5 d6 e3 e4 e5 HD3 HD4 HD5
      obtain ⟨xA, xn, xk, lx, rfl, hX, hBX⟩ := HST.out.box
      have HLV : Hid ((xn : Int) = (liveP s : Int)) := by show _ = _; rw [← hBX.len HST.out.few, hX.len]
      have hx63 := hX.rd.le
      unfold maxLen at hx63
      have k16 : W3.cell? ⟨w.heap.size + 1 + 1, 16, none⟩ = some (.slice xA xn xk) := (HS.out.cell 16).trans (stV_bv HLR.out _)
      clear hX hBX
      go_upto_region 13 with fail
      have j0 : W3.cell? ⟨gq, 0, none⟩ = some (.int .i64 qp) := HQ.out.cell 0
      have j1 : W3.rangeAt gq 1 [.int .u64 a0, .int .u64 a1, .int .u64 a2, .int .u64 a3] := by
       exact args_range HQ.out
      have j2 : W3.cell? ⟨w.heap.size, 2, none⟩ = some (.int .i64 c.W) := HC.out.cell 2
      have j3 : W3.cell? ⟨w.heap.size, 3, none⟩ = some (.int .i64 c.F) := HC.out.cell 3
      have j5 : W3.cell? ⟨b, o + k * 6 + 5, none⟩ = some (.slice nA news.length nc) := (HB.out.cell (p := ⟨b, o + k * 6 + 5, none⟩) hbB).trans HNV.out
      clear k16
      go_cut [16, 17] (fun v16 v17 wx => ∃ (g16 g17 : Nat) (c5 : RR) (roots5 : List Int) (bv5 : Value), v16 = .pointer (some ⟨g16, 0, none⟩) ∧ v17 = .pointer (some ⟨g17, 0, none⟩) ∧ Hid (Bk wx g16 53 (stV roots5 bv5).toArray) ∧ Hid (BkC wx g17 c5) ∧ Hid (c5.e = D.code ∧ c5.val = D.val ∧ ∃ A k, c5.nv = .slice A D.news.length k) ∧ Hid (StR wx roots5 bv5 (afterP s D)) ∧ Hid (SlIn (fun b => b ∉ [w.heap.size, w.heap.size + 1, w.heap.size + 1 + 1]) bv5) ∧ Hid (Bk wx w.heap.size 44 #[.int .i64 c.T, .int .i64 c.B, .int .i64 c.W, .int .i64 c.F, .int .u64 c.fi, .int .u64 c.la]) ∧ Hid (Bk wx (w.heap.size + 1) 53 zeroSt) ∧ Hid (Bk wx (w.heap.size + 1 + 1) 53 (stV roots (.slice xA xn xk)).toArray) ∧ Hid (Below w.heap.size w wx))
      case first =>
       as_aux_lemma =>
        refine wp_region_held_drew (S := (fun w' => Bk w' (w.heap.size + 1 + 1) 53 (stV roots (.slice xA xn xk)).toArray ∧ w'.rangeAt gq 1 [.int .u64 a0, .int .u64 a1, .int .u64 a2, .int .u64 a3] ∧ w'.cell? ⟨gq, 0, none⟩ = some (.int .i64 qp) ∧ w'.cell? ⟨w.heap.size, 3, none⟩ = some (.int .i64 c.F) ∧ w'.cell? ⟨w.heap.size, 2, none⟩ = some (.int .i64 c.W) ∧ w'.cell? ⟨b, o + k * 6 + 5, none⟩ = some (.slice nA news.length nc))) (by kernel_rfl) ?_ (fun hHeld => ?_)
        ·exact ⟨HS.out, j1, j0, j3, j2, j5⟩
        refine loadH 0 rfl rfl rfl (by kernel_rfl) (by kernel_rfl) (by kernel_rfl) (fun _ _ _ _ _ h => h) (by rfl) (by assumption) rfl (stV roots (.slice xA xn xk)).toArray Try.underlying53 rfl (by rw [stV_len HLR.out]; exact info_st17) ?_ ?_
        ·(intro w hSw; exact hSw.1.range)
        try simp only [Act.put, pS]
        refine takeA 1 ?_
        try simp only [Act.put, pS]
        refine takeA 2 ?_
        try simp only [Act.put, pS]
        refine takeA 3 ?_
        try simp only [Act.put, pS]
        refine takeA 5 ?_
        try simp only [Act.put, pS]
        refine loadH 6 rfl rfl rfl (by kernel_rfl) (by kernel_rfl) (by kernel_rfl) (fun _ _ _ _ _ h => h) (by rfl) (by assumption) rfl #[.int .u64 a0, .int .u64 a1, .int .u64 a2, .int .u64 a3] Try.underlying37 rfl (by kernel_rfl) ?_ ?_
        ·(intro w hSw; exact hSw.2.1)
        try simp only [Act.put, pS]
        refine takeA 7 ?_
        try simp only [Act.put, pS]
        refine takeA 8 ?_
        try simp only [Act.put, pS]
        refine takeA 9 ?_
        try simp only [Act.put, pS]
        refine takeA 10 ?_
        try simp only [Act.put, pS]
        refine takeA 11 ?_
        try simp only [Act.put, pS]
        refine takeA 12 ?_
        try simp only [Act.put, pS]
        refine takeA 13 ?_
        try simp only [Act.put, pS]
        refine takeA 14 ?_
        try simp only [Act.put, pS]
        refine takeA 15 ?_
        try simp only [Act.put, pS]
        obtain ⟨V0, hV0⟩ : ∃ V0, W3.drew = V0 := ⟨_, rfl⟩
        have HC : Hid (Bk V0 w.heap.size 44 #[.int .i64 c.T, .int .i64 c.B, .int .i64 c.W, .int .i64 c.F, .int .u64 c.fi, .int .u64 c.la]) := by show Bk _ _ _ _; rw [← hV0]; exact HC.out
        have HZ : Hid (Bk V0 (w.heap.size + 1) 53 zeroSt) := by show Bk _ _ _ _; rw [← hV0]; exact HZ.out
        have HS : Hid (Bk V0 (w.heap.size + 1 + 1) 53 (stV roots (.slice xA xn xk)).toArray) := by show Bk _ _ _ _; rw [← hV0]; exact HS.out
        have HQ : Hid (Bk V0 gq 39 #[.int .i64 qp, .int .u64 a0, .int .u64 a1, .int .u64 a2, .int .u64 a3]) := by show Bk _ _ _ _; rw [← hV0]; exact HQ.out
        have HST : Hid (StR V0 roots (.slice xA xn xk) s) := by show StR _ _ _ _; rw [← hV0]; exact HST.out.drew
        have HB : Hid (Below w.heap.size w V0) := by show Below _ _ _; rw [← hV0]; exact HB.out.drew
        rw [hV0] at hHeld ⊢
        clear hV0 j0 j1 j2 j3 j5
        refine comeH3 4 20 21 rfl rfl rfl rfl rfl rfl rfl rfl rfl rfl rfl rfl (by kernel_rfl) (by rfl) (by rfl) (by rfl) (fun K hK => ?_) (fun K hK => ?_) (fun K hK => ?_)
        ·go_simp
         refine (rcode17_any ps A0 n0 c0 qp _ ((HP.out.below HB.out).more HB.out.size)).mono ?_
         rintro e wc ⟨⟨cA, cc, rfl, hcr, hcl⟩, hwc⟩
         rw [hwc]
         have HCr := Lib.hid hcr
         have HCl := Lib.hid hcl
         clear hcr hcl hwc
         go_simp
         refine hK.out _ _ ?_ (fun hHeld => ?_)
         ·exact ⟨HS.out, args_range HQ.out, HQ.out.cell 0, HC.out.cell 3, HC.out.cell 2, (HB.out.cell (p := ⟨b, o + k * 6 + 5, none⟩) hbB).trans HNV.out⟩
         clear hK K
         try simp only [Act.put, pS]
         refine comeH3 16 20 21 rfl rfl rfl rfl rfl rfl rfl rfl rfl rfl rfl rfl (by kernel_rfl) (by rfl) (by rfl) (by rfl) (fun K hK => ?_) (fun K hK => ?_) (fun K hK => ?_)
         ·go_simp
          have hS1 : SlIn (fun b => b ∉ [gq, w.heap.size, w.heap.size + 1, w.heap.size + 1 + 1] ∧ b < V0.heap.size) (.slice xA xn xk) := HNI.out.and HST.out.low
          have hS2 : SlIn (fun b => b ∉ [gq, w.heap.size, w.heap.size + 1, w.heap.size + 1 + 1] ∧ b < V0.heap.size) (.slice nA news.length nc) := (SlIn.low HNr.out).mono (fun b hb => ⟨by intro hm; have q0 := HGq.out.1; simp only [List.mem_cons, List.not_mem_nil, or_false] at hm; omega, by have := HB.out.size; omega⟩)
          have hLt : ∀ b, V0.heap.size ≤ b → b ∉ [gq, w.heap.size, w.heap.size + 1, w.heap.size + 1 + 1] := by intro b hb hm; have l0 := HC.out.lt; have l1 := HZ.out.lt; have l2 := HS.out.lt; have l3 := HQ.out.lt; simp only [List.mem_cons, List.not_mem_nil, or_false] at hm; omega
          have hF := HRt.out.F
          have hW := HRt.out.W
          refine (rplay_any s roots xA xn xk (codeP ps qp) cA _ cc [a0, a1, a2, a3] c.F c.W nA nc news _ HST.out HOK.out HCr.out HCl.out (code_ok HPk.out qp) rfl HArg.out (by omega) (by omega) ((HNr.out.below HB.out).more HB.out.size) HNl.out HXu.out hnf _ hS1 hS2 (fun b hb => hb.2)).mono ?_
          rintro e wp1 ⟨c5, roots5, bv5, rfl, hv5, hst5, hs5, hsl5, hb6⟩
          rw [HD.out] at hv5 hst5
          have HE5 : Hid (c5.e = D.code ∧ c5.val = D.val ∧ ∃ A k, c5.nv = .slice A D.news.length k) := ⟨hv5.err, hv5.val, by obtain ⟨A', k', e', _, _⟩ := hv5.news; exact ⟨A', k', e'⟩⟩
          have HZ5 := Lib.hid hv5.sz
          have HO5 := Lib.hid hv5.ones
          have HST5 := Lib.hid hst5
          have HNI5 : Hid (SlIn (fun b => b ∉ [gq, w.heap.size, w.heap.size + 1, w.heap.size + 1 + 1]) bv5) := hsl5.mono (fun b hb => hb.elim (fun h => h.1) (fun h => hLt b h))
          have HC := Lib.hid (HC.out.below hb6 HC.out.lt)
          have HZ := Lib.hid (HZ.out.below hb6 HZ.out.lt)
          have HS := Lib.hid (HS.out.below hb6 HS.out.lt)
          have HQ := Lib.hid (HQ.out.below hb6 HQ.out.lt)
          have HB := Lib.hid (HB.out.trans (hb6.mono HB.out.size))
          clear hv5 hst5 hs5 hsl5 hb6 hS1 hS2 hLt hF hW
          go_simp
          refine hK.out _ _ ?_ (fun hHeld => ?_)
          ·exact ⟨HS.out, args_range HQ.out, HQ.out.cell 0, HC.out.cell 3, HC.out.cell 2, (HB.out.cell (p := ⟨b, o + k * 6 + 5, none⟩) hbB).trans HNV.out⟩
          clear hK K
          try simp only [Act.put, pS]
          refine takeA 17 ?_
          try simp only [Act.put, pS]
          refine takeA 18 ?_
          try simp only [Act.put, pS]
          refine takeA 19 ?_
          try simp only [Act.put, pS]
          refine comeH2 20 21 rfl rfl rfl rfl rfl rfl rfl rfl (by kernel_rfl) (by rfl) (by rfl) (fun K hK => ?_) (fun K hK => ?_)
          ·go_simp
           obtain ⟨Wa2, hW7⟩ : ∃ W7, wp1.alloc (.cells #[.int .u64 0, .int .u64 0, .int .u64 0, .int .u64 0, .int .u64 0, .int .u64 0, .int .u64 0, .int .u64 0, .int .u64 0, .int .u64 0, .int .u64 0, .int .u64 0, .int .u64 0, .int .u64 0, .int .u64 0, .int .u64 0, .slice none 0 0] 53) = W7 := ⟨_, rfl⟩
           have H16n : Hid (Bk Wa2 wp1.heap.size 53 zeroSt) := by show Bk _ _ _ _; rw [← hW7]; exact Bk.new _ _ _
           have hb7 : Below wp1.heap.size wp1 Wa2 := by rw [← hW7]; exact (Below.refl _ _).alloc (Nat.le_refl _) _
           have HGg16 := Lib.hid (show (w.heap.size + 1 + 1 < wp1.heap.size) ∧ gq < wp1.heap.size from ⟨HS.out.lt, HQ.out.lt⟩)
           have HNI5 := Lib.hid (HNI5.out.new HST5.out)
           have HC := Lib.hid (HC.out.below hb7 HC.out.lt)
           have HZ := Lib.hid (HZ.out.below hb7 HZ.out.lt)
           have HS := Lib.hid (HS.out.below hb7 HS.out.lt)
           have HQ := Lib.hid (HQ.out.below hb7 HQ.out.lt)
           have HST5 := Lib.hid (HST5.out.below hb7)
           have HB := Lib.hid (HB.out.trans (hb7.mono HB.out.size))
           rw [hW7]
           obtain ⟨g16, hgd⟩ : ∃ gd, wp1.heap.size = gd := ⟨_, rfl⟩
           rw [hgd] at H16n HGg16 HNI5 ⊢
           have H16 := H16n
           clear hW7 hb7 hgd H16n
           refine hK.out _ _ ?_ (fun hHeld => ?_)
           ·exact ⟨HS.out, args_range HQ.out, HQ.out.cell 0, HC.out.cell 3, HC.out.cell 2, (HB.out.cell (p := ⟨b, o + k * 6 + 5, none⟩) hbB).trans HNV.out⟩
           clear hK K
           try simp only [Act.put, pS]
           refine comeH 21 rfl rfl rfl rfl (by kernel_rfl) (by rfl) (fun K hK => ?_)
           go_simp
           obtain ⟨Wa3, hW7⟩ : ∃ W7, Wa2.alloc (.cells #[.int .u64 0, .int .u64 0, .int .u64 0, .int .u64 0, .int .u64 0, .int .u64 0, .int .u64 0, .int .u64 0, .int .u64 0, .int .u64 0, .int .u64 0, .int .u64 0, .int .u64 0, .int .u64 0, .int .u64 0, .int .u64 0, .slice none 0 0, .int .i64 0, .int .u64 0, .int .u64 0, .int .u64 0, .int .u64 0, .int .u64 0, .int .u64 0, .int .u64 0, .int .u64 0, .int .u64 0, .int .u64 0, .int .u64 0, .int .u64 0, .int .u64 0, .int .u64 0, .int .u64 0, .int .u64 0, .int .i64 0, .int .i64 0, .slice none 0 0, .slice none 0 0, .bool false, .int .u64 0, .int .i64 0] 87) = W7 := ⟨_, rfl⟩
           have H17n : Hid (Bk Wa3 Wa2.heap.size 87 zero41) := by show Bk _ _ _ _; rw [← hW7]; exact Bk.new _ _ _
           have hb7 : Below Wa2.heap.size Wa2 Wa3 := by rw [← hW7]; exact (Below.refl _ _).alloc (Nat.le_refl _) _
           have HGg17 := Lib.hid (show (w.heap.size + 1 + 1 < Wa2.heap.size) ∧ gq < Wa2.heap.size ∧ g16 < Wa2.heap.size from ⟨HS.out.lt, HQ.out.lt, H16.out.lt⟩)
           have HNI5 := Lib.hid (HNI5.out.new HST5.out)
           have HC := Lib.hid (HC.out.below hb7 HC.out.lt)
           have HZ := Lib.hid (HZ.out.below hb7 HZ.out.lt)
           have HS := Lib.hid (HS.out.below hb7 HS.out.lt)
           have HQ := Lib.hid (HQ.out.below hb7 HQ.out.lt)
           have H16 := Lib.hid (H16.out.below hb7 H16.out.lt)
           have HST5 := Lib.hid (HST5.out.below hb7)
           have HB := Lib.hid (HB.out.trans (hb7.mono HB.out.size))
           rw [hW7]
           obtain ⟨g17, hgd⟩ : ∃ gd, Wa2.heap.size = gd := ⟨_, rfl⟩
           rw [hgd] at H17n HGg17 HNI5 ⊢
           have H17 := H17n
           clear hW7 hb7 hgd H17n
           refine hK.out _ _ ?_ (fun hHeld => ?_)
           ·exact ⟨HS.out, args_range HQ.out, HQ.out.cell 0, HC.out.cell 3, HC.out.cell 2, (HB.out.cell (p := ⟨b, o + k * 6 + 5, none⟩) hbB).trans HNV.out⟩
           clear hK K
           try simp only [Act.put, pS]
           refine comeH 22 rfl rfl rfl rfl (by kernel_rfl) (by rfl) (fun K hK => ?_)
           refine wp_store_rowH _ _ 53 _ (.tmp 16) (.tmp 78) g16 (stV roots5 bv5).toArray (by rfl) (by rfl) 53 zeroSt H16.out (by rw [stV_len (by rw [HST5.out.roots]; exact HST5.out.len)]; exact info_st17) (by rw [stV_len (by rw [HST5.out.roots]; exact HST5.out.len)]; rfl) HST5.out.one ?_
           have HC := Lib.hid (HC.out.setRow_ne (g := g16) (by have q0 := HGq.out; have q1 := HGg16.out; have q2 := HGg17.out; omega) ((stV roots5 bv5).toArray))
           have HZ := Lib.hid (HZ.out.setRow_ne (g := g16) (by have q0 := HGq.out; have q1 := HGg16.out; have q2 := HGg17.out; omega) ((stV roots5 bv5).toArray))
           have HS := Lib.hid (HS.out.setRow_ne (g := g16) (by have q0 := HGq.out; have q1 := HGg16.out; have q2 := HGg17.out; omega) ((stV roots5 bv5).toArray))
           have HQ := Lib.hid (HQ.out.setRow_ne (g := g16) (by have q0 := HGq.out; have q1 := HGg16.out; have q2 := HGg17.out; omega) ((stV roots5 bv5).toArray))
           have H17 := Lib.hid (H17.out.setRow_ne (g := g16) (by have q0 := HGq.out; have q1 := HGg16.out; have q2 := HGg17.out; omega) ((stV roots5 bv5).toArray))
           have H16 := Lib.hid (H16.out.setRow ((stV roots5 bv5).toArray))
           have HST5 := Lib.hid (HST5.out.keepS HNI5.out (fun p hp => World.cell?_of_block (setRow_other _ _ _ _ (fun e => hp (by rw [e]; simp)))) (show Wa3.heap.size ≤ (Wa3.setRow g16 (stV roots5 bv5).toArray).heap.size by simp))
           have HB := Lib.hid (lbelow_setRow HB.out (show w.heap.size ≤ g16 by have q0 := HGq.out; have q1 := HGg16.out; have q2 := HGg17.out; omega) ((stV roots5 bv5).toArray))
           obtain ⟨Ws1, hWs⟩ : ∃ W9, Wa3.setRow g16 (stV roots5 bv5).toArray = W9 := ⟨_, rfl⟩
           rw [hWs] at HC HZ HS HQ H17 H16 HST5 HB ⊢
           clear hWs
           refine hK.out _ _ ?_ (fun hHeld => ?_)
           ·exact ⟨HS.out, args_range HQ.out, HQ.out.cell 0, HC.out.cell 3, HC.out.cell 2, (HB.out.cell (p := ⟨b, o + k * 6 + 5, none⟩) hbB).trans HNV.out⟩
           clear hK K
           try simp only [Act.put, pS]
           refine comeH 23 rfl rfl rfl rfl (by kernel_rfl) (by rfl) (fun K hK => ?_)
           refine wp_store_rowH _ _ 87 _ (.tmp 17) (.tmp 79) g17 c5.cells.toArray (by rfl) (by rfl) 87 zero41 H17.out (info_run17 HZ5.out) (zero41_size HZ5.out) HO5.out ?_
           have HC := Lib.hid (HC.out.setRow_ne (g := g17) (by have q0 := HGq.out; have q1 := HGg16.out; have q2 := HGg17.out; omega) (c5.cells.toArray))
           have HZ := Lib.hid (HZ.out.setRow_ne (g := g17) (by have q0 := HGq.out; have q1 := HGg16.out; have q2 := HGg17.out; omega) (c5.cells.toArray))
           have HS := Lib.hid (HS.out.setRow_ne (g := g17) (by have q0 := HGq.out; have q1 := HGg16.out; have q2 := HGg17.out; omega) (c5.cells.toArray))
           have HQ := Lib.hid (HQ.out.setRow_ne (g := g17) (by have q0 := HGq.out; have q1 := HGg16.out; have q2 := HGg17.out; omega) (c5.cells.toArray))
           have H16 := Lib.hid (H16.out.setRow_ne (g := g17) (by have q0 := HGq.out; have q1 := HGg16.out; have q2 := HGg17.out; omega) (c5.cells.toArray))
           have H17 := Lib.hid (H17.out.setRow (c5.cells.toArray))
           have HST5 := Lib.hid (HST5.out.keepS HNI5.out (fun p hp => World.cell?_of_block (setRow_other _ _ _ _ (fun e => hp (by rw [e]; simp)))) (show Ws1.heap.size ≤ (Ws1.setRow g17 c5.cells.toArray).heap.size by simp))
           have HB := Lib.hid (lbelow_setRow HB.out (show w.heap.size ≤ g17 by have q0 := HGq.out; have q1 := HGg16.out; have q2 := HGg17.out; omega) (c5.cells.toArray))
           refine hK.out _ _ ?_ (fun hHeld => ?_)
           ·exact ⟨HS.out, args_range HQ.out, HQ.out.cell 0, HC.out.cell 3, HC.out.cell 2, (HB.out.cell (p := ⟨b, o + k * 6 + 5, none⟩) hbB).trans HNV.out⟩
           clear hK K
           try simp only [Act.put, pS]
           refine wpAnyH_done (by kernel_rfl) ?_ _
           try simp only [Act.put, pS]
           go_wp2_with (go_meet; exact ⟨g16, g17, c5, roots5, bv5, rfl, rfl, H16.out, ⟨H17.out, HZ5.out⟩, HE5.out, HST5.out, HNI5.out.mono (fun b hb hm => hb (by simp only [List.mem_cons, List.not_mem_nil, or_false] at hm ⊢; omega)), HC.out, HZ.out, HS.out, HB.out⟩)
          ·go_simp
           obtain ⟨Wa4, hW7⟩ : ∃ W7, wp1.alloc (.cells #[.int .u64 0, .int .u64 0, .int .u64 0, .int .u64 0, .int .u64 0, .int .u64 0, .int .u64 0, .int .u64 0, .int .u64 0, .int .u64 0, .int .u64 0, .int .u64 0, .int .u64 0, .int .u64 0, .int .u64 0, .int .u64 0, .slice none 0 0, .int .i64 0, .int .u64 0, .int .u64 0, .int .u64 0, .int .u64 0, .int .u64 0, .int .u64 0, .int .u64 0, .int .u64 0, .int .u64 0, .int .u64 0, .int .u64 0, .int .u64 0, .int .u64 0, .int .u64 0, .int .u64 0, .int .u64 0, .int .i64 0, .int .i64 0, .slice none 0 0, .slice none 0 0, .bool false, .int .u64 0, .int .i64 0] 87) = W7 := ⟨_, rfl⟩
           have H17n : Hid (Bk Wa4 wp1.heap.size 87 zero41) := by show Bk _ _ _ _; rw [← hW7]; exact Bk.new _ _ _
           have hb7 : Below wp1.heap.size wp1 Wa4 := by rw [← hW7]; exact (Below.refl _ _).alloc (Nat.le_refl _) _
           have HGg17 := Lib.hid (show (w.heap.size + 1 + 1 < wp1.heap.size) ∧ gq < wp1.heap.size from ⟨HS.out.lt, HQ.out.lt⟩)
           have HNI5 := Lib.hid (HNI5.out.new HST5.out)
           have HC := Lib.hid (HC.out.below hb7 HC.out.lt)
           have HZ := Lib.hid (HZ.out.below hb7 HZ.out.lt)
           have HS := Lib.hid (HS.out.below hb7 HS.out.lt)
           have HQ := Lib.hid (HQ.out.below hb7 HQ.out.lt)
           have HST5 := Lib.hid (HST5.out.below hb7)
           have HB := Lib.hid (HB.out.trans (hb7.mono HB.out.size))
           rw [hW7]
           obtain ⟨g17, hgd⟩ : ∃ gd, wp1.heap.size = gd := ⟨_, rfl⟩
           rw [hgd] at H17n HGg17 HNI5 ⊢
           have H17 := H17n
           clear hW7 hb7 hgd H17n
           refine hK.out _ _ ?_ (fun hHeld => ?_)
           ·exact ⟨HS.out, args_range HQ.out, HQ.out.cell 0, HC.out.cell 3, HC.out.cell 2, (HB.out.cell (p := ⟨b, o + k * 6 + 5, none⟩) hbB).trans HNV.out⟩
           clear hK K
           try simp only [Act.put, pS]
           refine comeH 20 rfl rfl rfl rfl (by kernel_rfl) (by rfl) (fun K hK => ?_)
           go_simp
           obtain ⟨Wa5, hW7⟩ : ∃ W7, Wa4.alloc (.cells #[.int .u64 0, .int .u64 0, .int .u64 0, .int .u64 0, .int .u64 0, .int .u64 0, .int .u64 0, .int .u64 0, .int .u64 0, .int .u64 0, .int .u64 0, .int .u64 0, .int .u64 0, .int .u64 0, .int .u64 0, .int .u64 0, .slice none 0 0] 53) = W7 := ⟨_, rfl⟩
           have H16n : Hid (Bk Wa5 Wa4.heap.size 53 zeroSt) := by show Bk _ _ _ _; rw [← hW7]; exact Bk.new _ _ _
           have hb7 : Below Wa4.heap.size Wa4 Wa5 := by rw [← hW7]; exact (Below.refl _ _).alloc (Nat.le_refl _) _
           have HGg16 := Lib.hid (show (w.heap.size + 1 + 1 < Wa4.heap.size) ∧ gq < Wa4.heap.size ∧ g17 < Wa4.heap.size from ⟨HS.out.lt, HQ.out.lt, H17.out.lt⟩)
           have HNI5 := Lib.hid (HNI5.out.new HST5.out)
           have HC := Lib.hid (HC.out.below hb7 HC.out.lt)
           have HZ := Lib.hid (HZ.out.below hb7 HZ.out.lt)
           have HS := Lib.hid (HS.out.below hb7 HS.out.lt)
           have HQ := Lib.hid (HQ.out.below hb7 HQ.out.lt)
           have H17 := Lib.hid (H17.out.below hb7 H17.out.lt)
           have HST5 := Lib.hid (HST5.out.below hb7)
           have HB := Lib.hid (HB.out.trans (hb7.mono HB.out.size))
           rw [hW7]
           obtain ⟨g16, hgd⟩ : ∃ gd, Wa4.heap.size = gd := ⟨_, rfl⟩
           rw [hgd] at H16n HGg16 HNI5 ⊢
           have H16 := H16n
           clear hW7 hb7 hgd H16n
           refine hK.out _ _ ?_ (fun hHeld => ?_)
           ·exact ⟨HS.out, args_range HQ.out, HQ.out.cell 0, HC.out.cell 3, HC.out.cell 2, (HB.out.cell (p := ⟨b, o + k * 6 + 5, none⟩) hbB).trans HNV.out⟩
           clear hK K
           try simp only [Act.put, pS]
           refine comeH 22 rfl rfl rfl rfl (by kernel_rfl) (by rfl) (fun K hK => ?_)
           refine wp_store_rowH _ _ 53 _ (.tmp 16) (.tmp 78) g16 (stV roots5 bv5).toArray (by rfl) (by rfl) 53 zeroSt H16.out (by rw [stV_len (by rw [HST5.out.roots]; exact HST5.out.len)]; exact info_st17) (by rw [stV_len (by rw [HST5.out.roots]; exact HST5.out.len)]; rfl) HST5.out.one ?_
           have HC := Lib.hid (HC.out.setRow_ne (g := g16) (by have q0 := HGq.out; have q1 := HGg16.out; have q2 := HGg17.out; omega) ((stV roots5 bv5).toArray))
           have HZ := Lib.hid (HZ.out.setRow_ne (g := g16) (by have q0 := HGq.out; have q1 := HGg16.out; have q2 := HGg17.out; omega) ((stV roots5 bv5).toArray))
           have HS := Lib.hid (HS.out.setRow_ne (g := g16) (by have q0 := HGq.out; have q1 := HGg16.out; have q2 := HGg17.out; omega) ((stV roots5 bv5).toArray))
           have HQ := Lib.hid (HQ.out.setRow_ne (g := g16) (by have q0 := HGq.out; have q1 := HGg16.out; have q2 := HGg17.out; omega) ((stV roots5 bv5).toArray))
           have H17 := Lib.hid (H17.out.setRow_ne (g := g16) (by have q0 := HGq.out; have q1 := HGg16.out; have q2 := HGg17.out; omega) ((stV roots5 bv5).toArray))
           have H16 := Lib.hid (H16.out.setRow ((stV roots5 bv5).toArray))
           have HST5 := Lib.hid (HST5.out.keepS HNI5.out (fun p hp => World.cell?_of_block (setRow_other _ _ _ _ (fun e => hp (by rw [e]; simp)))) (show Wa5.heap.size ≤ (Wa5.setRow g16 (stV roots5 bv5).toArray).heap.size by simp))
           have HB := Lib.hid (lbelow_setRow HB.out (show w.heap.size ≤ g16 by have q0 := HGq.out; have q1 := HGg16.out; have q2 := HGg17.out; omega) ((stV roots5 bv5).toArray))
           obtain ⟨Ws1, hWs⟩ : ∃ W9, Wa5.setRow g16 (stV roots5 bv5).toArray = W9 := ⟨_, rfl⟩
           rw [hWs] at HC HZ HS HQ H17 H16 HST5 HB ⊢
           clear hWs
           refine hK.out _ _ ?_ (fun hHeld => ?_)
           ·exact ⟨HS.out, args_range HQ.out, HQ.out.cell 0, HC.out.cell 3, HC.out.cell 2, (HB.out.cell (p := ⟨b, o + k * 6 + 5, none⟩) hbB).trans HNV.out⟩
           clear hK K
           try simp only [Act.put, pS]
           refine comeH 23 rfl rfl rfl rfl (by kernel_rfl) (by rfl) (fun K hK => ?_)
           refine wp_store_rowH _ _ 87 _ (.tmp 17) (.tmp 79) g17 c5.cells.toArray (by rfl) (by rfl) 87 zero41 H17.out (info_run17 HZ5.out) (zero41_size HZ5.out) HO5.out ?_
           have HC := Lib.hid (HC.out.setRow_ne (g := g17) (by have q0 := HGq.out; have q1 := HGg16.out; have q2 := HGg17.out; omega) (c5.cells.toArray))
           have HZ := Lib.hid (HZ.out.setRow_ne (g := g17) (by have q0 := HGq.out; have q1 := HGg16.out; have q2 := HGg17.out; omega) (c5.cells.toArray))
           have HS := Lib.hid (HS.out.setRow_ne (g := g17) (by have q0 := HGq.out; have q1 := HGg16.out; have q2 := HGg17.out; omega) (c5.cells.toArray))
           have HQ := Lib.hid (HQ.out.setRow_ne (g := g17) (by have q0 := HGq.out; have q1 := HGg16.out; have q2 := HGg17.out; omega) (c5.cells.toArray))
           have H16 := Lib.hid (H16.out.setRow_ne (g := g17) (by have q0 := HGq.out; have q1 := HGg16.out; have q2 := HGg17.out; omega) (c5.cells.toArray))
           have H17 := Lib.hid (H17.out.setRow (c5.cells.toArray))
           have HST5 := Lib.hid (HST5.out.keepS HNI5.out (fun p hp => World.cell?_of_block (setRow_other _ _ _ _ (fun e => hp (by rw [e]; simp)))) (show Ws1.heap.size ≤ (Ws1.setRow g17 c5.cells.toArray).heap.size by simp))
           have HB := Lib.hid (lbelow_setRow HB.out (show w.heap.size ≤ g17 by have q0 := HGq.out; have q1 := HGg16.out; have q2 := HGg17.out; omega) (c5.cells.toArray))
           refine hK.out _ _ ?_ (fun hHeld => ?_)
           ·exact ⟨HS.out, args_range HQ.out, HQ.out.cell 0, HC.out.cell 3, HC.out.cell 2, (HB.out.cell (p := ⟨b, o + k * 6 + 5, none⟩) hbB).trans HNV.out⟩
           clear hK K
           try simp only [Act.put, pS]
           refine wpAnyH_done (by kernel_rfl) ?_ _
           try simp only [Act.put, pS]
           go_wp2_with (go_meet; exact ⟨g16, g17, c5, roots5, bv5, rfl, rfl, H16.out, ⟨H17.out, HZ5.out⟩, HE5.out, HST5.out, HNI5.out.mono (fun b hb hm => hb (by simp only [List.mem_cons, List.not_mem_nil, or_false] at hm ⊢; omega)), HC.out, HZ.out, HS.out, HB.out⟩)
         ·go_simp
          obtain ⟨Wa6, hW7⟩ : ∃ W7, V0.alloc (.cells #[.int .u64 0, .int .u64 0, .int .u64 0, .int .u64 0, .int .u64 0, .int .u64 0, .int .u64 0, .int .u64 0, .int .u64 0, .int .u64 0, .int .u64 0, .int .u64 0, .int .u64 0, .int .u64 0, .int .u64 0, .int .u64 0, .slice none 0 0] 53) = W7 := ⟨_, rfl⟩
          have H16n : Hid (Bk Wa6 V0.heap.size 53 zeroSt) := by show Bk _ _ _ _; rw [← hW7]; exact Bk.new _ _ _
          have hb7 : Below V0.heap.size V0 Wa6 := by rw [← hW7]; exact (Below.refl _ _).alloc (Nat.le_refl _) _
          have HGg16 := Lib.hid (show (w.heap.size + 1 + 1 < V0.heap.size) ∧ gq < V0.heap.size from ⟨HS.out.lt, HQ.out.lt⟩)
          have HNI := Lib.hid (HNI.out.new HST.out)
          have HC := Lib.hid (HC.out.below hb7 HC.out.lt)
          have HZ := Lib.hid (HZ.out.below hb7 HZ.out.lt)
          have HS := Lib.hid (HS.out.below hb7 HS.out.lt)
          have HQ := Lib.hid (HQ.out.below hb7 HQ.out.lt)
          have HST := Lib.hid (HST.out.below hb7)
          have HCr := Lib.hid ((HCr.out.below hb7).more hb7.size)
          have HB := Lib.hid (HB.out.trans (hb7.mono HB.out.size))
          rw [hW7]
          obtain ⟨g16, hgd⟩ : ∃ gd, V0.heap.size = gd := ⟨_, rfl⟩
          rw [hgd] at H16n HGg16 HNI ⊢
          have H16 := H16n
          clear hW7 hb7 hgd H16n
          refine hK.out _ _ ?_ (fun hHeld => ?_)
          ·exact ⟨HS.out, args_range HQ.out, HQ.out.cell 0, HC.out.cell 3, HC.out.cell 2, (HB.out.cell (p := ⟨b, o + k * 6 + 5, none⟩) hbB).trans HNV.out⟩
          clear hK K
          try simp only [Act.put, pS]
          refine comeH2 16 21 rfl rfl rfl rfl rfl rfl rfl rfl (by kernel_rfl) (by rfl) (by rfl) (fun K hK => ?_) (fun K hK => ?_)
          ·go_simp
           have hS1 : SlIn (fun b => b ∉ [g16, gq, w.heap.size, w.heap.size + 1, w.heap.size + 1 + 1] ∧ b < Wa6.heap.size) (.slice xA xn xk) := HNI.out.and HST.out.low
           have hS2 : SlIn (fun b => b ∉ [g16, gq, w.heap.size, w.heap.size + 1, w.heap.size + 1 + 1] ∧ b < Wa6.heap.size) (.slice nA news.length nc) := (SlIn.low HNr.out).mono (fun b hb => ⟨by intro hm; have q0 := HGq.out.1; have q1 := HGg16.out.1; simp only [List.mem_cons, List.not_mem_nil, or_false] at hm; omega, by have := HB.out.size; omega⟩)
           have hLt : ∀ b, Wa6.heap.size ≤ b → b ∉ [g16, gq, w.heap.size, w.heap.size + 1, w.heap.size + 1 + 1] := by intro b hb hm; have l0 := HC.out.lt; have l1 := HZ.out.lt; have l2 := HS.out.lt; have l3 := HQ.out.lt; have l4 := H16.out.lt; simp only [List.mem_cons, List.not_mem_nil, or_false] at hm; omega
           have hF := HRt.out.F
           have hW := HRt.out.W
           refine (rplay_any s roots xA xn xk (codeP ps qp) cA _ cc [a0, a1, a2, a3] c.F c.W nA nc news _ HST.out HOK.out HCr.out HCl.out (code_ok HPk.out qp) rfl HArg.out (by omega) (by omega) ((HNr.out.below HB.out).more HB.out.size) HNl.out HXu.out hnf _ hS1 hS2 (fun b hb => hb.2)).mono ?_
           rintro e wp7 ⟨c5, roots5, bv5, rfl, hv5, hst5, hs5, hsl5, hb6⟩
           rw [HD.out] at hv5 hst5
           have HE5 : Hid (c5.e = D.code ∧ c5.val = D.val ∧ ∃ A k, c5.nv = .slice A D.news.length k) := ⟨hv5.err, hv5.val, by obtain ⟨A', k', e', _, _⟩ := hv5.news; exact ⟨A', k', e'⟩⟩
           have HZ5 := Lib.hid hv5.sz
           have HO5 := Lib.hid hv5.ones
           have HST5 := Lib.hid hst5
           have HNI5 : Hid (SlIn (fun b => b ∉ [g16, gq, w.heap.size, w.heap.size + 1, w.heap.size + 1 + 1]) bv5) := hsl5.mono (fun b hb => hb.elim (fun h => h.1) (fun h => hLt b h))
           have HC := Lib.hid (HC.out.below hb6 HC.out.lt)
           have HZ := Lib.hid (HZ.out.below hb6 HZ.out.lt)
           have HS := Lib.hid (HS.out.below hb6 HS.out.lt)
           have HQ := Lib.hid (HQ.out.below hb6 HQ.out.lt)
           have H16 := Lib.hid (H16.out.below hb6 H16.out.lt)
           have HB := Lib.hid (HB.out.trans (hb6.mono HB.out.size))
           clear hv5 hst5 hs5 hsl5 hb6 hS1 hS2 hLt hF hW
           go_simp
           refine hK.out _ _ ?_ (fun hHeld => ?_)
           ·exact ⟨HS.out, args_range HQ.out, HQ.out.cell 0, HC.out.cell 3, HC.out.cell 2, (HB.out.cell (p := ⟨b, o + k * 6 + 5, none⟩) hbB).trans HNV.out⟩
           clear hK K
           try simp only [Act.put, pS]
           refine takeA 17 ?_
           try simp only [Act.put, pS]
           refine takeA 18 ?_
           try simp only [Act.put, pS]
           refine takeA 19 ?_
           try simp only [Act.put, pS]
           refine comeH 21 rfl rfl rfl rfl (by kernel_rfl) (by rfl) (fun K hK => ?_)
           go_simp
           obtain ⟨Wa8, hW7⟩ : ∃ W7, wp7.alloc (.cells #[.int .u64 0, .int .u64 0, .int .u64 0, .int .u64 0, .int .u64 0, .int .u64 0, .int .u64 0, .int .u64 0, .int .u64 0, .int .u64 0, .int .u64 0, .int .u64 0, .int .u64 0, .int .u64 0, .int .u64 0, .int .u64 0, .slice none 0 0, .int .i64 0, .int .u64 0, .int .u64 0, .int .u64 0, .int .u64 0, .int .u64 0, .int .u64 0, .int .u64 0, .int .u64 0, .int .u64 0, .int .u64 0, .int .u64 0, .int .u64 0, .int .u64 0, .int .u64 0, .int .u64 0, .int .u64 0, .int .i64 0, .int .i64 0, .slice none 0 0, .slice none 0 0, .bool false, .int .u64 0, .int .i64 0] 87) = W7 := ⟨_, rfl⟩
           have H17n : Hid (Bk Wa8 wp7.heap.size 87 zero41) := by show Bk _ _ _ _; rw [← hW7]; exact Bk.new _ _ _
           have hb7 : Below wp7.heap.size wp7 Wa8 := by rw [← hW7]; exact (Below.refl _ _).alloc (Nat.le_refl _) _
           have HGg17 := Lib.hid (show (w.heap.size + 1 + 1 < wp7.heap.size) ∧ gq < wp7.heap.size ∧ g16 < wp7.heap.size from ⟨HS.out.lt, HQ.out.lt, H16.out.lt⟩)
           have HNI5 := Lib.hid (HNI5.out.new HST5.out)
           have HC := Lib.hid (HC.out.below hb7 HC.out.lt)
           have HZ := Lib.hid (HZ.out.below hb7 HZ.out.lt)
           have HS := Lib.hid (HS.out.below hb7 HS.out.lt)
           have HQ := Lib.hid (HQ.out.below hb7 HQ.out.lt)
           have H16 := Lib.hid (H16.out.below hb7 H16.out.lt)
           have HST5 := Lib.hid (HST5.out.below hb7)
           have HB := Lib.hid (HB.out.trans (hb7.mono HB.out.size))
           rw [hW7]
           obtain ⟨g17, hgd⟩ : ∃ gd, wp7.heap.size = gd := ⟨_, rfl⟩
           rw [hgd] at H17n HGg17 HNI5 ⊢
           have H17 := H17n
           clear hW7 hb7 hgd H17n
           refine hK.out _ _ ?_ (fun hHeld => ?_)
           ·exact ⟨HS.out, args_range HQ.out, HQ.out.cell 0, HC.out.cell 3, HC.out.cell 2, (HB.out.cell (p := ⟨b, o + k * 6 + 5, none⟩) hbB).trans HNV.out⟩
           clear hK K
           try simp only [Act.put, pS]
           refine comeH 22 rfl rfl rfl rfl (by kernel_rfl) (by rfl) (fun K hK => ?_)
           refine wp_store_rowH _ _ 53 _ (.tmp 16) (.tmp 78) g16 (stV roots5 bv5).toArray (by rfl) (by rfl) 53 zeroSt H16.out (by rw [stV_len (by rw [HST5.out.roots]; exact HST5.out.len)]; exact info_st17) (by rw [stV_len (by rw [HST5.out.roots]; exact HST5.out.len)]; rfl) HST5.out.one ?_
           have HC := Lib.hid (HC.out.setRow_ne (g := g16) (by have q0 := HGq.out; have q1 := HGg16.out; have q2 := HGg17.out; omega) ((stV roots5 bv5).toArray))
           have HZ := Lib.hid (HZ.out.setRow_ne (g := g16) (by have q0 := HGq.out; have q1 := HGg16.out; have q2 := HGg17.out; omega) ((stV roots5 bv5).toArray))
           have HS := Lib.hid (HS.out.setRow_ne (g := g16) (by have q0 := HGq.out; have q1 := HGg16.out; have q2 := HGg17.out; omega) ((stV roots5 bv5).toArray))
           have HQ := Lib.hid (HQ.out.setRow_ne (g := g16) (by have q0 := HGq.out; have q1 := HGg16.out; have q2 := HGg17.out; omega) ((stV roots5 bv5).toArray))
           have H17 := Lib.hid (H17.out.setRow_ne (g := g16) (by have q0 := HGq.out; have q1 := HGg16.out; have q2 := HGg17.out; omega) ((stV roots5 bv5).toArray))
           have H16 := Lib.hid (H16.out.setRow ((stV roots5 bv5).toArray))
           have HST5 := Lib.hid (HST5.out.keepS HNI5.out (fun p hp => World.cell?_of_block (setRow_other _ _ _ _ (fun e => hp (by rw [e]; simp)))) (show Wa8.heap.size ≤ (Wa8.setRow g16 (stV roots5 bv5).toArray).heap.size by simp))
           have HB := Lib.hid (lbelow_setRow HB.out (show w.heap.size ≤ g16 by have q0 := HGq.out; have q1 := HGg16.out; have q2 := HGg17.out; omega) ((stV roots5 bv5).toArray))
           obtain ⟨Ws1, hWs⟩ : ∃ W9, Wa8.setRow g16 (stV roots5 bv5).toArray = W9 := ⟨_, rfl⟩
           rw [hWs] at HC HZ HS HQ H17 H16 HST5 HB ⊢
           clear hWs
           refine hK.out _ _ ?_ (fun hHeld => ?_)
           ·exact ⟨HS.out, args_range HQ.out, HQ.out.cell 0, HC.out.cell 3, HC.out.cell 2, (HB.out.cell (p := ⟨b, o + k * 6 + 5, none⟩) hbB).trans HNV.out⟩
           clear hK K
           try simp only [Act.put, pS]
           refine comeH 23 rfl rfl rfl rfl (by kernel_rfl) (by rfl) (fun K hK => ?_)
           refine wp_store_rowH _ _ 87 _ (.tmp 17) (.tmp 79) g17 c5.cells.toArray (by rfl) (by rfl) 87 zero41 H17.out (info_run17 HZ5.out) (zero41_size HZ5.out) HO5.out ?_
           have HC := Lib.hid (HC.out.setRow_ne (g := g17) (by have q0 := HGq.out; have q1 := HGg16.out; have q2 := HGg17.out; omega) (c5.cells.toArray))
           have HZ := Lib.hid (HZ.out.setRow_ne (g := g17) (by have q0 := HGq.out; have q1 := HGg16.out; have q2 := HGg17.out; omega) (c5.cells.toArray))
           have HS := Lib.hid (HS.out.setRow_ne (g := g17) (by have q0 := HGq.out; have q1 := HGg16.out; have q2 := HGg17.out; omega) (c5.cells.toArray))
           have HQ := Lib.hid (HQ.out.setRow_ne (g := g17) (by have q0 := HGq.out; have q1 := HGg16.out; have q2 := HGg17.out; omega) (c5.cells.toArray))
           have H16 := Lib.hid (H16.out.setRow_ne (g := g17) (by have q0 := HGq.out; have q1 := HGg16.out; have q2 := HGg17.out; omega) (c5.cells.toArray))
           have H17 := Lib.hid (H17.out.setRow (c5.cells.toArray))
           have HST5 := Lib.hid (HST5.out.keepS HNI5.out (fun p hp => World.cell?_of_block (setRow_other _ _ _ _ (fun e => hp (by rw [e]; simp)))) (show Ws1.heap.size ≤ (Ws1.setRow g17 c5.cells.toArray).heap.size by simp))
           have HB := Lib.hid (lbelow_setRow HB.out (show w.heap.size ≤ g17 by have q0 := HGq.out; have q1 := HGg16.out; have q2 := HGg17.out; omega) (c5.cells.toArray))
           refine hK.out _ _ ?_ (fun hHeld => ?_)
           ·exact ⟨HS.out, args_range HQ.out, HQ.out.cell 0, HC.out.cell 3, HC.out.cell 2, (HB.out.cell (p := ⟨b, o + k * 6 + 5, none⟩) hbB).trans HNV.out⟩
           clear hK K
           try simp only [Act.put, pS]
           refine wpAnyH_done (by kernel_rfl) ?_ _
           try simp only [Act.put, pS]
           go_wp2_with (go_meet; exact ⟨g16, g17, c5, roots5, bv5, rfl, rfl, H16.out, ⟨H17.out, HZ5.out⟩, HE5.out, HST5.out, HNI5.out.mono (fun b hb hm => hb (by simp only [List.mem_cons, List.not_mem_nil, or_false] at hm ⊢; omega)), HC.out, HZ.out, HS.out, HB.out⟩)
          ·go_simp
           obtain ⟨Wa9, hW7⟩ : ∃ W7, Wa6.alloc (.cells #[.int .u64 0, .int .u64 0, .int .u64 0, .int .u64 0, .int .u64 0, .int .u64 0, .int .u64 0, .int .u64 0, .int .u64 0, .int .u64 0, .int .u64 0, .int .u64 0, .int .u64 0, .int .u64 0, .int .u64 0, .int .u64 0, .slice none 0 0, .int .i64 0, .int .u64 0, .int .u64 0, .int .u64 0, .int .u64 0, .int .u64 0, .int .u64 0, .int .u64 0, .int .u64 0, .int .u64 0, .int .u64 0, .int .u64 0, .int .u64 0, .int .u64 0, .int .u64 0, .int .u64 0, .int .u64 0, .int .i64 0, .int .i64 0, .slice none 0 0, .slice none 0 0, .bool false, .int .u64 0, .int .i64 0] 87) = W7 := ⟨_, rfl⟩
           have H17n : Hid (Bk Wa9 Wa6.heap.size 87 zero41) := by show Bk _ _ _ _; rw [← hW7]; exact Bk.new _ _ _
           have hb7 : Below Wa6.heap.size Wa6 Wa9 := by rw [← hW7]; exact (Below.refl _ _).alloc (Nat.le_refl _) _
           have HGg17 := Lib.hid (show (w.heap.size + 1 + 1 < Wa6.heap.size) ∧ gq < Wa6.heap.size ∧ g16 < Wa6.heap.size from ⟨HS.out.lt, HQ.out.lt, H16.out.lt⟩)
           have HNI := Lib.hid (HNI.out.new HST.out)
           have HC := Lib.hid (HC.out.below hb7 HC.out.lt)
           have HZ := Lib.hid (HZ.out.below hb7 HZ.out.lt)
           have HS := Lib.hid (HS.out.below hb7 HS.out.lt)
           have HQ := Lib.hid (HQ.out.below hb7 HQ.out.lt)
           have H16 := Lib.hid (H16.out.below hb7 H16.out.lt)
           have HST := Lib.hid (HST.out.below hb7)
           have HCr := Lib.hid ((HCr.out.below hb7).more hb7.size)
           have HB := Lib.hid (HB.out.trans (hb7.mono HB.out.size))
           rw [hW7]
           obtain ⟨g17, hgd⟩ : ∃ gd, Wa6.heap.size = gd := ⟨_, rfl⟩
           rw [hgd] at H17n HGg17 HNI ⊢
           have H17 := H17n
           clear hW7 hb7 hgd H17n
           refine hK.out _ _ ?_ (fun hHeld => ?_)
           ·exact ⟨HS.out, args_range HQ.out, HQ.out.cell 0, HC.out.cell 3, HC.out.cell 2, (HB.out.cell (p := ⟨b, o + k * 6 + 5, none⟩) hbB).trans HNV.out⟩
           clear hK K
           try simp only [Act.put, pS]
           refine comeH 16 rfl rfl rfl rfl (by kernel_rfl) (by rfl) (fun K hK => ?_)
           go_simp
           have hS1 : SlIn (fun b => b ∉ [g17, g16, gq, w.heap.size, w.heap.size + 1, w.heap.size + 1 + 1] ∧ b < Wa9.heap.size) (.slice xA xn xk) := HNI.out.and HST.out.low
           have hS2 : SlIn (fun b => b ∉ [g17, g16, gq, w.heap.size, w.heap.size + 1, w.heap.size + 1 + 1] ∧ b < Wa9.heap.size) (.slice nA news.length nc) := (SlIn.low HNr.out).mono (fun b hb => ⟨by intro hm; have q0 := HGq.out.1; have q1 := HGg16.out.1; have q2 := HGg17.out.1; simp only [List.mem_cons, List.not_mem_nil, or_false] at hm; omega, by have := HB.out.size; omega⟩)
           have hLt : ∀ b, Wa9.heap.size ≤ b → b ∉ [g17, g16, gq, w.heap.size, w.heap.size + 1, w.heap.size + 1 + 1] := by intro b hb hm; have l0 := HC.out.lt; have l1 := HZ.out.lt; have l2 := HS.out.lt; have l3 := HQ.out.lt; have l4 := H16.out.lt; have l5 := H17.out.lt; simp only [List.mem_cons, List.not_mem_nil, or_false] at hm; omega
           have hF := HRt.out.F
           have hW := HRt.out.W
           refine (rplay_any s roots xA xn xk (codeP ps qp) cA _ cc [a0, a1, a2, a3] c.F c.W nA nc news _ HST.out HOK.out HCr.out HCl.out (code_ok HPk.out qp) rfl HArg.out (by omega) (by omega) ((HNr.out.below HB.out).more HB.out.size) HNl.out HXu.out hnf _ hS1 hS2 (fun b hb => hb.2)).mono ?_
           rintro e wp10 ⟨c5, roots5, bv5, rfl, hv5, hst5, hs5, hsl5, hb6⟩
           rw [HD.out] at hv5 hst5
           have HE5 : Hid (c5.e = D.code ∧ c5.val = D.val ∧ ∃ A k, c5.nv = .slice A D.news.length k) := ⟨hv5.err, hv5.val, by obtain ⟨A', k', e', _, _⟩ := hv5.news; exact ⟨A', k', e'⟩⟩
           have HZ5 := Lib.hid hv5.sz
           have HO5 := Lib.hid hv5.ones
           have HST5 := Lib.hid hst5
           have HNI5 : Hid (SlIn (fun b => b ∉ [g17, g16, gq, w.heap.size, w.heap.size + 1, w.heap.size + 1 + 1]) bv5) := hsl5.mono (fun b hb => hb.elim (fun h => h.1) (fun h => hLt b h))
           have HC := Lib.hid (HC.out.below hb6 HC.out.lt)
           have HZ := Lib.hid (HZ.out.below hb6 HZ.out.lt)
           have HS := Lib.hid (HS.out.below hb6 HS.out.lt)
           have HQ := Lib.hid (HQ.out.below hb6 HQ.out.lt)
           have H16 := Lib.hid (H16.out.below hb6 H16.out.lt)
           have H17 := Lib.hid (H17.out.below hb6 H17.out.lt)
           have HB := Lib.hid (HB.out.trans (hb6.mono HB.out.size))
           clear hv5 hst5 hs5 hsl5 hb6 hS1 hS2 hLt hF hW
           go_simp
           refine hK.out _ _ ?_ (fun hHeld => ?_)
           ·exact ⟨HS.out, args_range HQ.out, HQ.out.cell 0, HC.out.cell 3, HC.out.cell 2, (HB.out.cell (p := ⟨b, o + k * 6 + 5, none⟩) hbB).trans HNV.out⟩
           clear hK K
           try simp only [Act.put, pS]
           refine takeA 17 ?_
           try simp only [Act.put, pS]
           refine takeA 18 ?_
           try simp only [Act.put, pS]
           refine takeA 19 ?_
           try simp only [Act.put, pS]
           refine comeH 22 rfl rfl rfl rfl (by kernel_rfl) (by rfl) (fun K hK => ?_)
           refine wp_store_rowH _ _ 53 _ (.tmp 16) (.tmp 78) g16 (stV roots5 bv5).toArray (by rfl) (by rfl) 53 zeroSt H16.out (by rw [stV_len (by rw [HST5.out.roots]; exact HST5.out.len)]; exact info_st17) (by rw [stV_len (by rw [HST5.out.roots]; exact HST5.out.len)]; rfl) HST5.out.one ?_
           have HC := Lib.hid (HC.out.setRow_ne (g := g16) (by have q0 := HGq.out; have q1 := HGg16.out; have q2 := HGg17.out; omega) ((stV roots5 bv5).toArray))
           have HZ := Lib.hid (HZ.out.setRow_ne (g := g16) (by have q0 := HGq.out; have q1 := HGg16.out; have q2 := HGg17.out; omega) ((stV roots5 bv5).toArray))
           have HS := Lib.hid (HS.out.setRow_ne (g := g16) (by have q0 := HGq.out; have q1 := HGg16.out; have q2 := HGg17.out; omega) ((stV roots5 bv5).toArray))
           have HQ := Lib.hid (HQ.out.setRow_ne (g := g16) (by have q0 := HGq.out; have q1 := HGg16.out; have q2 := HGg17.out; omega) ((stV roots5 bv5).toArray))
           have H17 := Lib.hid (H17.out.setRow_ne (g := g16) (by have q0 := HGq.out; have q1 := HGg16.out; have q2 := HGg17.out; omega) ((stV roots5 bv5).toArray))
           have H16 := Lib.hid (H16.out.setRow ((stV roots5 bv5).toArray))
           have HST5 := Lib.hid (HST5.out.keepS HNI5.out (fun p hp => World.cell?_of_block (setRow_other _ _ _ _ (fun e => hp (by rw [e]; simp)))) (show wp10.heap.size ≤ (wp10.setRow g16 (stV roots5 bv5).toArray).heap.size by simp))
           have HB := Lib.hid (lbelow_setRow HB.out (show w.heap.size ≤ g16 by have q0 := HGq.out; have q1 := HGg16.out; have q2 := HGg17.out; omega) ((stV roots5 bv5).toArray))
           obtain ⟨Ws1, hWs⟩ : ∃ W9, wp10.setRow g16 (stV roots5 bv5).toArray = W9 := ⟨_, rfl⟩
           rw [hWs] at HC HZ HS HQ H17 H16 HST5 HB ⊢
           clear hWs
           refine hK.out _ _ ?_ (fun hHeld => ?_)
           ·exact ⟨HS.out, args_range HQ.out, HQ.out.cell 0, HC.out.cell 3, HC.out.cell 2, (HB.out.cell (p := ⟨b, o + k * 6 + 5, none⟩) hbB).trans HNV.out⟩
           clear hK K
           try simp only [Act.put, pS]
           refine comeH 23 rfl rfl rfl rfl (by kernel_rfl) (by rfl) (fun K hK => ?_)
           refine wp_store_rowH _ _ 87 _ (.tmp 17) (.tmp 79) g17 c5.cells.toArray (by rfl) (by rfl) 87 zero41 H17.out (info_run17 HZ5.out) (zero41_size HZ5.out) HO5.out ?_
           have HC := Lib.hid (HC.out.setRow_ne (g := g17) (by have q0 := HGq.out; have q1 := HGg16.out; have q2 := HGg17.out; omega) (c5.cells.toArray))
           have HZ := Lib.hid (HZ.out.setRow_ne (g := g17) (by have q0 := HGq.out; have q1 := HGg16.out; have q2 := HGg17.out; omega) (c5.cells.toArray))
           have HS := Lib.hid (HS.out.setRow_ne (g := g17) (by have q0 := HGq.out; have q1 := HGg16.out; have q2 := HGg17.out; omega) (c5.cells.toArray))
           have HQ := Lib.hid (HQ.out.setRow_ne (g := g17) (by have q0 := HGq.out; have q1 := HGg16.out; have q2 := HGg17.out; omega) (c5.cells.toArray))
           have H16 := Lib.hid (H16.out.setRow_ne (g := g17) (by have q0 := HGq.out; have q1 := HGg16.out; have q2 := HGg17.out; omega) (c5.cells.toArray))
           have H17 := Lib.hid (H17.out.setRow (c5.cells.toArray))
           have HST5 := Lib.hid (HST5.out.keepS HNI5.out (fun p hp => World.cell?_of_block (setRow_other _ _ _ _ (fun e => hp (by rw [e]; simp)))) (show Ws1.heap.size ≤ (Ws1.setRow g17 c5.cells.toArray).heap.size by simp))
           have HB := Lib.hid (lbelow_setRow HB.out (show w.heap.size ≤ g17 by have q0 := HGq.out; have q1 := HGg16.out; have q2 := HGg17.out; omega) (c5.cells.toArray))
           refine hK.out _ _ ?_ (fun hHeld => ?_)
           ·exact ⟨HS.out, args_range HQ.out, HQ.out.cell 0, HC.out.cell 3, HC.out.cell 2, (HB.out.cell (p := ⟨b, o + k * 6 + 5, none⟩) hbB).trans HNV.out⟩
           clear hK K
           try simp only [Act.put, pS]
           refine wpAnyH_done (by kernel_rfl) ?_ _
           try simp only [Act.put, pS]
           go_wp2_with (go_meet; exact ⟨g16, g17, c5, roots5, bv5, rfl, rfl, H16.out, ⟨H17.out, HZ5.out⟩, HE5.out, HST5.out, HNI5.out.mono (fun b hb hm => hb (by simp only [List.mem_cons, List.not_mem_nil, or_false] at hm ⊢; omega)), HC.out, HZ.out, HS.out, HB.out⟩)
         ·go_simp
          obtain ⟨Wa11, hW7⟩ : ∃ W7, V0.alloc (.cells #[.int .u64 0, .int .u64 0, .int .u64 0, .int .u64 0, .int .u64 0, .int .u64 0, .int .u64 0, .int .u64 0, .int .u64 0, .int .u64 0, .int .u64 0, .int .u64 0, .int .u64 0, .int .u64 0, .int .u64 0, .int .u64 0, .slice none 0 0, .int .i64 0, .int .u64 0, .int .u64 0, .int .u64 0, .int .u64 0, .int .u64 0, .int .u64 0, .int .u64 0, .int .u64 0, .int .u64 0, .int .u64 0, .int .u64 0, .int .u64 0, .int .u64 0, .int .u64 0, .int .u64 0, .int .u64 0, .int .i64 0, .int .i64 0, .slice none 0 0, .slice none 0 0, .bool false, .int .u64 0, .int .i64 0] 87) = W7 := ⟨_, rfl⟩
          have H17n : Hid (Bk Wa11 V0.heap.size 87 zero41) := by show Bk _ _ _ _; rw [← hW7]; exact Bk.new _ _ _
          have hb7 : Below V0.heap.size V0 Wa11 := by rw [← hW7]; exact (Below.refl _ _).alloc (Nat.le_refl _) _
          have HGg17 := Lib.hid (show (w.heap.size + 1 + 1 < V0.heap.size) ∧ gq < V0.heap.size from ⟨HS.out.lt, HQ.out.lt⟩)
          have HNI := Lib.hid (HNI.out.new HST.out)
          have HC := Lib.hid (HC.out.below hb7 HC.out.lt)
          have HZ := Lib.hid (HZ.out.below hb7 HZ.out.lt)
          have HS := Lib.hid (HS.out.below hb7 HS.out.lt)
          have HQ := Lib.hid (HQ.out.below hb7 HQ.out.lt)
          have HST := Lib.hid (HST.out.below hb7)
          have HCr := Lib.hid ((HCr.out.below hb7).more hb7.size)
          have HB := Lib.hid (HB.out.trans (hb7.mono HB.out.size))
          rw [hW7]
          obtain ⟨g17, hgd⟩ : ∃ gd, V0.heap.size = gd := ⟨_, rfl⟩
          rw [hgd] at H17n HGg17 HNI ⊢
          have H17 := H17n
          clear hW7 hb7 hgd H17n
          refine hK.out _ _ ?_ (fun hHeld => ?_)
          ·exact ⟨HS.out, args_range HQ.out, HQ.out.cell 0, HC.out.cell 3, HC.out.cell 2, (HB.out.cell (p := ⟨b, o + k * 6 + 5, none⟩) hbB).trans HNV.out⟩
          clear hK K
          try simp only [Act.put, pS]
          refine comeH2 16 20 rfl rfl rfl rfl rfl rfl rfl rfl (by kernel_rfl) (by rfl) (by rfl) (fun K hK => ?_) (fun K hK => ?_)
          ·go_simp
           have hS1 : SlIn (fun b => b ∉ [g17, gq, w.heap.size, w.heap.size + 1, w.heap.size + 1 + 1] ∧ b < Wa11.heap.size) (.slice xA xn xk) := HNI.out.and HST.out.low
           have hS2 : SlIn (fun b => b ∉ [g17, gq, w.heap.size, w.heap.size + 1, w.heap.size + 1 + 1] ∧ b < Wa11.heap.size) (.slice nA news.length nc) := (SlIn.low HNr.out).mono (fun b hb => ⟨by intro hm; have q0 := HGq.out.1; have q2 := HGg17.out.1; simp only [List.mem_cons, List.not_mem_nil, or_false] at hm; omega, by have := HB.out.size; omega⟩)
           have hLt : ∀ b, Wa11.heap.size ≤ b → b ∉ [g17, gq, w.heap.size, w.heap.size + 1, w.heap.size + 1 + 1] := by intro b hb hm; have l0 := HC.out.lt; have l1 := HZ.out.lt; have l2 := HS.out.lt; have l3 := HQ.out.lt; have l4 := H17.out.lt; simp only [List.mem_cons, List.not_mem_nil, or_false] at hm; omega
           have hF := HRt.out.F
           have hW := HRt.out.W
           refine (rplay_any s roots xA xn xk (codeP ps qp) cA _ cc [a0, a1, a2, a3] c.F c.W nA nc news _ HST.out HOK.out HCr.out HCl.out (code_ok HPk.out qp) rfl HArg.out (by omega) (by omega) ((HNr.out.below HB.out).more HB.out.size) HNl.out HXu.out hnf _ hS1 hS2 (fun b hb => hb.2)).mono ?_
           rintro e wp12 ⟨c5, roots5, bv5, rfl, hv5, hst5, hs5, hsl5, hb6⟩
           rw [HD.out] at hv5 hst5
           have HE5 : Hid (c5.e = D.code ∧ c5.val = D.val ∧ ∃ A k, c5.nv = .slice A D.news.length k) := ⟨hv5.err, hv5.val, by obtain ⟨A', k', e', _, _⟩ := hv5.news; exact ⟨A', k', e'⟩⟩
           have HZ5 := Lib.hid hv5.sz
           have HO5 := Lib.hid hv5.ones
           have HST5 := Lib.hid hst5
           have HNI5 : Hid (SlIn (fun b => b ∉ [g17, gq, w.heap.size, w.heap.size + 1, w.heap.size + 1 + 1]) bv5) := hsl5.mono (fun b hb => hb.elim (fun h => h.1) (fun h => hLt b h))
           have HC := Lib.hid (HC.out.below hb6 HC.out.lt)
           have HZ := Lib.hid (HZ.out.below hb6 HZ.out.lt)
           have HS := Lib.hid (HS.out.below hb6 HS.out.lt)
           have HQ := Lib.hid (HQ.out.below hb6 HQ.out.lt)
           have H17 := Lib.hid (H17.out.below hb6 H17.out.lt)
           have HB := Lib.hid (HB.out.trans (hb6.mono HB.out.size))
           clear hv5 hst5 hs5 hsl5 hb6 hS1 hS2 hLt hF hW
           go_simp
           refine hK.out _ _ ?_ (fun hHeld => ?_)
           ·exact ⟨HS.out, args_range HQ.out, HQ.out.cell 0, HC.out.cell 3, HC.out.cell 2, (HB.out.cell (p := ⟨b, o + k * 6 + 5, none⟩) hbB).trans HNV.out⟩
           clear hK K
           try simp only [Act.put, pS]
           refine takeA 17 ?_
           try simp only [Act.put, pS]
           refine takeA 18 ?_
           try simp only [Act.put, pS]
           refine takeA 19 ?_
           try simp only [Act.put, pS]
           refine comeH 20 rfl rfl rfl rfl (by kernel_rfl) (by rfl) (fun K hK => ?_)
           go_simp
           obtain ⟨Wa13, hW7⟩ : ∃ W7, wp12.alloc (.cells #[.int .u64 0, .int .u64 0, .int .u64 0, .int .u64 0, .int .u64 0, .int .u64 0, .int .u64 0, .int .u64 0, .int .u64 0, .int .u64 0, .int .u64 0, .int .u64 0, .int .u64 0, .int .u64 0, .int .u64 0, .int .u64 0, .slice none 0 0] 53) = W7 := ⟨_, rfl⟩
           have H16n : Hid (Bk Wa13 wp12.heap.size 53 zeroSt) := by show Bk _ _ _ _; rw [← hW7]; exact Bk.new _ _ _
           have hb7 : Below wp12.heap.size wp12 Wa13 := by rw [← hW7]; exact (Below.refl _ _).alloc (Nat.le_refl _) _
           have HGg16 := Lib.hid (show (w.heap.size + 1 + 1 < wp12.heap.size) ∧ gq < wp12.heap.size ∧ g17 < wp12.heap.size from ⟨HS.out.lt, HQ.out.lt, H17.out.lt⟩)
           have HNI5 := Lib.hid (HNI5.out.new HST5.out)
           have HC := Lib.hid (HC.out.below hb7 HC.out.lt)
           have HZ := Lib.hid (HZ.out.below hb7 HZ.out.lt)
           have HS := Lib.hid (HS.out.below hb7 HS.out.lt)
           have HQ := Lib.hid (HQ.out.below hb7 HQ.out.lt)
           have H17 := Lib.hid (H17.out.below hb7 H17.out.lt)
           have HST5 := Lib.hid (HST5.out.below hb7)
           have HB := Lib.hid (HB.out.trans (hb7.mono HB.out.size))
           rw [hW7]
           obtain ⟨g16, hgd⟩ : ∃ gd, wp12.heap.size = gd := ⟨_, rfl⟩
           rw [hgd] at H16n HGg16 HNI5 ⊢
           have H16 := H16n
           clear hW7 hb7 hgd H16n
           refine hK.out _ _ ?_ (fun hHeld => ?_)
           ·exact ⟨HS.out, args_range HQ.out, HQ.out.cell 0, HC.out.cell 3, HC.out.cell 2, (HB.out.cell (p := ⟨b, o + k * 6 + 5, none⟩) hbB).trans HNV.out⟩
           clear hK K
           try simp only [Act.put, pS]
           refine comeH 22 rfl rfl rfl rfl (by kernel_rfl) (by rfl) (fun K hK => ?_)
           refine wp_store_rowH _ _ 53 _ (.tmp 16) (.tmp 78) g16 (stV roots5 bv5).toArray (by rfl) (by rfl) 53 zeroSt H16.out (by rw [stV_len (by rw [HST5.out.roots]; exact HST5.out.len)]; exact info_st17) (by rw [stV_len (by rw [HST5.out.roots]; exact HST5.out.len)]; rfl) HST5.out.one ?_
           have HC := Lib.hid (HC.out.setRow_ne (g := g16) (by have q0 := HGq.out; have q1 := HGg16.out; have q2 := HGg17.out; omega) ((stV roots5 bv5).toArray))
           have HZ := Lib.hid (HZ.out.setRow_ne (g := g16) (by have q0 := HGq.out; have q1 := HGg16.out; have q2 := HGg17.out; omega) ((stV roots5 bv5).toArray))
           have HS := Lib.hid (HS.out.setRow_ne (g := g16) (by have q0 := HGq.out; have q1 := HGg16.out; have q2 := HGg17.out; omega) ((stV roots5 bv5).toArray))
           have HQ := Lib.hid (HQ.out.setRow_ne (g := g16) (by have q0 := HGq.out; have q1 := HGg16.out; have q2 := HGg17.out; omega) ((stV roots5 bv5).toArray))
           have H17 := Lib.hid (H17.out.setRow_ne (g := g16) (by have q0 := HGq.out; have q1 := HGg16.out; have q2 := HGg17.out; omega) ((stV roots5 bv5).toArray))
           have H16 := Lib.hid (H16.out.setRow ((stV roots5 bv5).toArray))
           have HST5 := Lib.hid (HST5.out.keepS HNI5.out (fun p hp => World.cell?_of_block (setRow_other _ _ _ _ (fun e => hp (by rw [e]; simp)))) (show Wa13.heap.size ≤ (Wa13.setRow g16 (stV roots5 bv5).toArray).heap.size by simp))
           have HB := Lib.hid (lbelow_setRow HB.out (show w.heap.size ≤ g16 by have q0 := HGq.out; have q1 := HGg16.out; have q2 := HGg17.out; omega) ((stV roots5 bv5).toArray))
           obtain ⟨Ws1, hWs⟩ : ∃ W9, Wa13.setRow g16 (stV roots5 bv5).toArray = W9 := ⟨_, rfl⟩
           rw [hWs] at HC HZ HS HQ H17 H16 HST5 HB ⊢
           clear hWs
           refine hK.out _ _ ?_ (fun hHeld => ?_)
           ·exact ⟨HS.out, args_range HQ.out, HQ.out.cell 0, HC.out.cell 3, HC.out.cell 2, (HB.out.cell (p := ⟨b, o + k * 6 + 5, none⟩) hbB).trans HNV.out⟩
           clear hK K
           try simp only [Act.put, pS]
           refine comeH 23 rfl rfl rfl rfl (by kernel_rfl) (by rfl) (fun K hK => ?_)
           refine wp_store_rowH _ _ 87 _ (.tmp 17) (.tmp 79) g17 c5.cells.toArray (by rfl) (by rfl) 87 zero41 H17.out (info_run17 HZ5.out) (zero41_size HZ5.out) HO5.out ?_
           have HC := Lib.hid (HC.out.setRow_ne (g := g17) (by have q0 := HGq.out; have q1 := HGg16.out; have q2 := HGg17.out; omega) (c5.cells.toArray))
           have HZ := Lib.hid (HZ.out.setRow_ne (g := g17) (by have q0 := HGq.out; have q1 := HGg16.out; have q2 := HGg17.out; omega) (c5.cells.toArray))
           have HS := Lib.hid (HS.out.setRow_ne (g := g17) (by have q0 := HGq.out; have q1 := HGg16.out; have q2 := HGg17.out; omega) (c5.cells.toArray))
           have HQ := Lib.hid (HQ.out.setRow_ne (g := g17) (by have q0 := HGq.out; have q1 := HGg16.out; have q2 := HGg17.out; omega) (c5.cells.toArray))
           have H16 := Lib.hid (H16.out.setRow_ne (g := g17) (by have q0 := HGq.out; have q1 := HGg16.out; have q2 := HGg17.out; omega) (c5.cells.toArray))
           have H17 := Lib.hid (H17.out.setRow (c5.cells.toArray))
           have HST5 := Lib.hid (HST5.out.keepS HNI5.out (fun p hp => World.cell?_of_block (setRow_other _ _ _ _ (fun e => hp (by rw [e]; simp)))) (show Ws1.heap.size ≤ (Ws1.setRow g17 c5.cells.toArray).heap.size by simp))
           have HB := Lib.hid (lbelow_setRow HB.out (show w.heap.size ≤ g17 by have q0 := HGq.out; have q1 := HGg16.out; have q2 := HGg17.out; omega) (c5.cells.toArray))
           refine hK.out _ _ ?_ (fun hHeld => ?_)
           ·exact ⟨HS.out, args_range HQ.out, HQ.out.cell 0, HC.out.cell 3, HC.out.cell 2, (HB.out.cell (p := ⟨b, o + k * 6 + 5, none⟩) hbB).trans HNV.out⟩
           clear hK K
           try simp only [Act.put, pS]
           refine wpAnyH_done (by kernel_rfl) ?_ _
           try simp only [Act.put, pS]
           go_wp2_with (go_meet; exact ⟨g16, g17, c5, roots5, bv5, rfl, rfl, H16.out, ⟨H17.out, HZ5.out⟩, HE5.out, HST5.out, HNI5.out.mono (fun b hb hm => hb (by simp only [List.mem_cons, List.not_mem_nil, or_false] at hm ⊢; omega)), HC.out, HZ.out, HS.out, HB.out⟩)
          ·go_simp
           obtain ⟨Wa14, hW7⟩ : ∃ W7, Wa11.alloc (.cells #[.int .u64 0, .int .u64 0, .int .u64 0, .int .u64 0, .int .u64 0, .int .u64 0, .int .u64 0, .int .u64 0, .int .u64 0, .int .u64 0, .int .u64 0, .int .u64 0, .int .u64 0, .int .u64 0, .int .u64 0, .int .u64 0, .slice none 0 0] 53) = W7 := ⟨_, rfl⟩
           have H16n : Hid (Bk Wa14 Wa11.heap.size 53 zeroSt) := by show Bk _ _ _ _; rw [← hW7]; exact Bk.new _ _ _
           have hb7 : Below Wa11.heap.size Wa11 Wa14 := by rw [← hW7]; exact (Below.refl _ _).alloc (Nat.le_refl _) _
           have HGg16 := Lib.hid (show (w.heap.size + 1 + 1 < Wa11.heap.size) ∧ gq < Wa11.heap.size ∧ g17 < Wa11.heap.size from ⟨HS.out.lt, HQ.out.lt, H17.out.lt⟩)
           have HNI := Lib.hid (HNI.out.new HST.out)
           have HC := Lib.hid (HC.out.below hb7 HC.out.lt)
           have HZ := Lib.hid (HZ.out.below hb7 HZ.out.lt)
           have HS := Lib.hid (HS.out.below hb7 HS.out.lt)
           have HQ := Lib.hid (HQ.out.below hb7 HQ.out.lt)
           have H17 := Lib.hid (H17.out.below hb7 H17.out.lt)
           have HST := Lib.hid (HST.out.below hb7)
           have HCr := Lib.hid ((HCr.out.below hb7).more hb7.size)
           have HB := Lib.hid (HB.out.trans (hb7.mono HB.out.size))
           rw [hW7]
           obtain ⟨g16, hgd⟩ : ∃ gd, Wa11.heap.size = gd := ⟨_, rfl⟩
           rw [hgd] at H16n HGg16 HNI ⊢
           have H16 := H16n
           clear hW7 hb7 hgd H16n
           refine hK.out _ _ ?_ (fun hHeld => ?_)
           ·exact ⟨HS.out, args_range HQ.out, HQ.out.cell 0, HC.out.cell 3, HC.out.cell 2, (HB.out.cell (p := ⟨b, o + k * 6 + 5, none⟩) hbB).trans HNV.out⟩
           clear hK K
           try simp only [Act.put, pS]
           refine comeH 16 rfl rfl rfl rfl (by kernel_rfl) (by rfl) (fun K hK => ?_)
           go_simp
           have hS1 : SlIn (fun b => b ∉ [g16, g17, gq, w.heap.size, w.heap.size + 1, w.heap.size + 1 + 1] ∧ b < Wa14.heap.size) (.slice xA xn xk) := HNI.out.and HST.out.low
           have hS2 : SlIn (fun b => b ∉ [g16, g17, gq, w.heap.size, w.heap.size + 1, w.heap.size + 1 + 1] ∧ b < Wa14.heap.size) (.slice nA news.length nc) := (SlIn.low HNr.out).mono (fun b hb => ⟨by intro hm; have q0 := HGq.out.1; have q1 := HGg16.out.1; have q2 := HGg17.out.1; simp only [List.mem_cons, List.not_mem_nil, or_false] at hm; omega, by have := HB.out.size; omega⟩)
           have hLt : ∀ b, Wa14.heap.size ≤ b → b ∉ [g16, g17, gq, w.heap.size, w.heap.size + 1, w.heap.size + 1 + 1] := by intro b hb hm; have l0 := HC.out.lt; have l1 := HZ.out.lt; have l2 := HS.out.lt; have l3 := HQ.out.lt; have l4 := H16.out.lt; have l5 := H17.out.lt; simp only [List.mem_cons, List.not_mem_nil, or_false] at hm; omega
           have hF := HRt.out.F
           have hW := HRt.out.W
           refine (rplay_any s roots xA xn xk (codeP ps qp) cA _ cc [a0, a1, a2, a3] c.F c.W nA nc news _ HST.out HOK.out HCr.out HCl.out (code_ok HPk.out qp) rfl HArg.out (by omega) (by omega) ((HNr.out.below HB.out).more HB.out.size) HNl.out HXu.out hnf _ hS1 hS2 (fun b hb => hb.2)).mono ?_
           rintro e wp15 ⟨c5, roots5, bv5, rfl, hv5, hst5, hs5, hsl5, hb6⟩
           rw [HD.out] at hv5 hst5
           have HE5 : Hid (c5.e = D.code ∧ c5.val = D.val ∧ ∃ A k, c5.nv = .slice A D.news.length k) := ⟨hv5.err, hv5.val, by obtain ⟨A', k', e', _, _⟩ := hv5.news; exact ⟨A', k', e'⟩⟩
           have HZ5 := Lib.hid hv5.sz
           have HO5 := Lib.hid hv5.ones
           have HST5 := Lib.hid hst5
           have HNI5 : Hid (SlIn (fun b => b ∉ [g16, g17, gq, w.heap.size, w.heap.size + 1, w.heap.size + 1 + 1]) bv5) := hsl5.mono (fun b hb => hb.elim (fun h => h.1) (fun h => hLt b h))
           have HC := Lib.hid (HC.out.below hb6 HC.out.lt)
           have HZ := Lib.hid (HZ.out.below hb6 HZ.out.lt)
           have HS := Lib.hid (HS.out.below hb6 HS.out.lt)
           have HQ := Lib.hid (HQ.out.below hb6 HQ.out.lt)
           have H16 := Lib.hid (H16.out.below hb6 H16.out.lt)
           have H17 := Lib.hid (H17.out.below hb6 H17.out.lt)
           have HB := Lib.hid (HB.out.trans (hb6.mono HB.out.size))
           clear hv5 hst5 hs5 hsl5 hb6 hS1 hS2 hLt hF hW
           go_simp
           refine hK.out _ _ ?_ (fun hHeld => ?_)
           ·exact ⟨HS.out, args_range HQ.out, HQ.out.cell 0, HC.out.cell 3, HC.out.cell 2, (HB.out.cell (p := ⟨b, o + k * 6 + 5, none⟩) hbB).trans HNV.out⟩
           clear hK K
           try simp only [Act.put, pS]
           refine takeA 17 ?_
           try simp only [Act.put, pS]
           refine takeA 18 ?_
           try simp only [Act.put, pS]
           refine takeA 19 ?_
           try simp only [Act.put, pS]
           refine comeH 22 rfl rfl rfl rfl (by kernel_rfl) (by rfl) (fun K hK => ?_)
           refine wp_store_rowH _ _ 53 _ (.tmp 16) (.tmp 78) g16 (stV roots5 bv5).toArray (by rfl) (by rfl) 53 zeroSt H16.out (by rw [stV_len (by rw [HST5.out.roots]; exact HST5.out.len)]; exact info_st17) (by rw [stV_len (by rw [HST5.out.roots]; exact HST5.out.len)]; rfl) HST5.out.one ?_
           have HC := Lib.hid (HC.out.setRow_ne (g := g16) (by have q0 := HGq.out; have q1 := HGg16.out; have q2 := HGg17.out; omega) ((stV roots5 bv5).toArray))
           have HZ := Lib.hid (HZ.out.setRow_ne (g := g16) (by have q0 := HGq.out; have q1 := HGg16.out; have q2 := HGg17.out; omega) ((stV roots5 bv5).toArray))
           have HS := Lib.hid (HS.out.setRow_ne (g := g16) (by have q0 := HGq.out; have q1 := HGg16.out; have q2 := HGg17.out; omega) ((stV roots5 bv5).toArray))
           have HQ := Lib.hid (HQ.out.setRow_ne (g := g16) (by have q0 := HGq.out; have q1 := HGg16.out; have q2 := HGg17.out; omega) ((stV roots5 bv5).toArray))
           have H17 := Lib.hid (H17.out.setRow_ne (g := g16) (by have q0 := HGq.out; have q1 := HGg16.out; have q2 := HGg17.out; omega) ((stV roots5 bv5).toArray))
           have H16 := Lib.hid (H16.out.setRow ((stV roots5 bv5).toArray))
           have HST5 := Lib.hid (HST5.out.keepS HNI5.out (fun p hp => World.cell?_of_block (setRow_other _ _ _ _ (fun e => hp (by rw [e]; simp)))) (show wp15.heap.size ≤ (wp15.setRow g16 (stV roots5 bv5).toArray).heap.size by simp))
           have HB := Lib.hid (lbelow_setRow HB.out (show w.heap.size ≤ g16 by have q0 := HGq.out; have q1 := HGg16.out; have q2 := HGg17.out; omega) ((stV roots5 bv5).toArray))
           obtain ⟨Ws1, hWs⟩ : ∃ W9, wp15.setRow g16 (stV roots5 bv5).toArray = W9 := ⟨_, rfl⟩
           rw [hWs] at HC HZ HS HQ H17 H16 HST5 HB ⊢
           clear hWs
           refine hK.out _ _ ?_ (fun hHeld => ?_)
           ·exact ⟨HS.out, args_range HQ.out, HQ.out.cell 0, HC.out.cell 3, HC.out.cell 2, (HB.out.cell (p := ⟨b, o + k * 6 + 5, none⟩) hbB).trans HNV.out⟩
           clear hK K
           try simp only [Act.put, pS]
           refine comeH 23 rfl rfl rfl rfl (by kernel_rfl) (by rfl) (fun K hK => ?_)
           refine wp_store_rowH _ _ 87 _ (.tmp 17) (.tmp 79) g17 c5.cells.toArray (by rfl) (by rfl) 87 zero41 H17.out (info_run17 HZ5.out) (zero41_size HZ5.out) HO5.out ?_
           have HC := Lib.hid (HC.out.setRow_ne (g := g17) (by have q0 := HGq.out; have q1 := HGg16.out; have q2 := HGg17.out; omega) (c5.cells.toArray))
           have HZ := Lib.hid (HZ.out.setRow_ne (g := g17) (by have q0 := HGq.out; have q1 := HGg16.out; have q2 := HGg17.out; omega) (c5.cells.toArray))
           have HS := Lib.hid (HS.out.setRow_ne (g := g17) (by have q0 := HGq.out; have q1 := HGg16.out; have q2 := HGg17.out; omega) (c5.cells.toArray))
           have HQ := Lib.hid (HQ.out.setRow_ne (g := g17) (by have q0 := HGq.out; have q1 := HGg16.out; have q2 := HGg17.out; omega) (c5.cells.toArray))
           have H16 := Lib.hid (H16.out.setRow_ne (g := g17) (by have q0 := HGq.out; have q1 := HGg16.out; have q2 := HGg17.out; omega) (c5.cells.toArray))
           have H17 := Lib.hid (H17.out.setRow (c5.cells.toArray))
           have HST5 := Lib.hid (HST5.out.keepS HNI5.out (fun p hp => World.cell?_of_block (setRow_other _ _ _ _ (fun e => hp (by rw [e]; simp)))) (show Ws1.heap.size ≤ (Ws1.setRow g17 c5.cells.toArray).heap.size by simp))
           have HB := Lib.hid (lbelow_setRow HB.out (show w.heap.size ≤ g17 by have q0 := HGq.out; have q1 := HGg16.out; have q2 := HGg17.out; omega) (c5.cells.toArray))
           refine hK.out _ _ ?_ (fun hHeld => ?_)
           ·exact ⟨HS.out, args_range HQ.out, HQ.out.cell 0, HC.out.cell 3, HC.out.cell 2, (HB.out.cell (p := ⟨b, o + k * 6 + 5, none⟩) hbB).trans HNV.out⟩
           clear hK K
           try simp only [Act.put, pS]
           refine wpAnyH_done (by kernel_rfl) ?_ _
           try simp only [Act.put, pS]
           go_wp2_with (go_meet; exact ⟨g16, g17, c5, roots5, bv5, rfl, rfl, H16.out, ⟨H17.out, HZ5.out⟩, HE5.out, HST5.out, HNI5.out.mono (fun b hb hm => hb (by simp only [List.mem_cons, List.not_mem_nil, or_false] at hm ⊢; omega)), HC.out, HZ.out, HS.out, HB.out⟩)
        ·go_simp
         obtain ⟨Wa16, hW7⟩ : ∃ W7, V0.alloc (.cells #[.int .u64 0, .int .u64 0, .int .u64 0, .int .u64 0, .int .u64 0, .int .u64 0, .int .u64 0, .int .u64 0, .int .u64 0, .int .u64 0, .int .u64 0, .int .u64 0, .int .u64 0, .int .u64 0, .int .u64 0, .int .u64 0, .slice none 0 0] 53) = W7 := ⟨_, rfl⟩
         have H16n : Hid (Bk Wa16 V0.heap.size 53 zeroSt) := by show Bk _ _ _ _; rw [← hW7]; exact Bk.new _ _ _
         have hb7 : Below V0.heap.size V0 Wa16 := by rw [← hW7]; exact (Below.refl _ _).alloc (Nat.le_refl _) _
         have HGg16 := Lib.hid (show (w.heap.size + 1 + 1 < V0.heap.size) ∧ gq < V0.heap.size from ⟨HS.out.lt, HQ.out.lt⟩)
         have HNI := Lib.hid (HNI.out.new HST.out)
         have HC := Lib.hid (HC.out.below hb7 HC.out.lt)
         have HZ := Lib.hid (HZ.out.below hb7 HZ.out.lt)
         have HS := Lib.hid (HS.out.below hb7 HS.out.lt)
         have HQ := Lib.hid (HQ.out.below hb7 HQ.out.lt)
         have HST := Lib.hid (HST.out.below hb7)
         have HB := Lib.hid (HB.out.trans (hb7.mono HB.out.size))
         rw [hW7]
         obtain ⟨g16, hgd⟩ : ∃ gd, V0.heap.size = gd := ⟨_, rfl⟩
         rw [hgd] at H16n HGg16 HNI ⊢
         have H16 := H16n
         clear hW7 hb7 hgd H16n
         refine hK.out _ _ ?_ (fun hHeld => ?_)
         ·exact ⟨HS.out, args_range HQ.out, HQ.out.cell 0, HC.out.cell 3, HC.out.cell 2, (HB.out.cell (p := ⟨b, o + k * 6 + 5, none⟩) hbB).trans HNV.out⟩
         clear hK K
         try simp only [Act.put, pS]
         refine comeH2 4 21 rfl rfl rfl rfl rfl rfl rfl rfl (by kernel_rfl) (by rfl) (by rfl) (fun K hK => ?_) (fun K hK => ?_)
         ·go_simp
          refine (rcode17_any ps A0 n0 c0 qp _ ((HP.out.below HB.out).more HB.out.size)).mono ?_
          rintro e wc ⟨⟨cA, cc, rfl, hcr, hcl⟩, hwc⟩
          rw [hwc]
          have HCr := Lib.hid hcr
          have HCl := Lib.hid hcl
          clear hcr hcl hwc
          go_simp
          refine hK.out _ _ ?_ (fun hHeld => ?_)
          ·exact ⟨HS.out, args_range HQ.out, HQ.out.cell 0, HC.out.cell 3, HC.out.cell 2, (HB.out.cell (p := ⟨b, o + k * 6 + 5, none⟩) hbB).trans HNV.out⟩
          clear hK K
          try simp only [Act.put, pS]
          refine comeH2 16 21 rfl rfl rfl rfl rfl rfl rfl rfl (by kernel_rfl) (by rfl) (by rfl) (fun K hK => ?_) (fun K hK => ?_)
          ·go_simp
           have hS1 : SlIn (fun b => b ∉ [g16, gq, w.heap.size, w.heap.size + 1, w.heap.size + 1 + 1] ∧ b < Wa16.heap.size) (.slice xA xn xk) := HNI.out.and HST.out.low
           have hS2 : SlIn (fun b => b ∉ [g16, gq, w.heap.size, w.heap.size + 1, w.heap.size + 1 + 1] ∧ b < Wa16.heap.size) (.slice nA news.length nc) := (SlIn.low HNr.out).mono (fun b hb => ⟨by intro hm; have q0 := HGq.out.1; have q1 := HGg16.out.1; simp only [List.mem_cons, List.not_mem_nil, or_false] at hm; omega, by have := HB.out.size; omega⟩)
           have hLt : ∀ b, Wa16.heap.size ≤ b → b ∉ [g16, gq, w.heap.size, w.heap.size + 1, w.heap.size + 1 + 1] := by intro b hb hm; have l0 := HC.out.lt; have l1 := HZ.out.lt; have l2 := HS.out.lt; have l3 := HQ.out.lt; have l4 := H16.out.lt; simp only [List.mem_cons, List.not_mem_nil, or_false] at hm; omega
           have hF := HRt.out.F
           have hW := HRt.out.W
           refine (rplay_any s roots xA xn xk (codeP ps qp) cA _ cc [a0, a1, a2, a3] c.F c.W nA nc news _ HST.out HOK.out HCr.out HCl.out (code_ok HPk.out qp) rfl HArg.out (by omega) (by omega) ((HNr.out.below HB.out).more HB.out.size) HNl.out HXu.out hnf _ hS1 hS2 (fun b hb => hb.2)).mono ?_
           rintro e wp17 ⟨c5, roots5, bv5, rfl, hv5, hst5, hs5, hsl5, hb6⟩
           rw [HD.out] at hv5 hst5
           have HE5 : Hid (c5.e = D.code ∧ c5.val = D.val ∧ ∃ A k, c5.nv = .slice A D.news.length k) := ⟨hv5.err, hv5.val, by obtain ⟨A', k', e', _, _⟩ := hv5.news; exact ⟨A', k', e'⟩⟩
           have HZ5 := Lib.hid hv5.sz
           have HO5 := Lib.hid hv5.ones
           have HST5 := Lib.hid hst5
           have HNI5 : Hid (SlIn (fun b => b ∉ [g16, gq, w.heap.size, w.heap.size + 1, w.heap.size + 1 + 1]) bv5) := hsl5.mono (fun b hb => hb.elim (fun h => h.1) (fun h => hLt b h))
           have HC := Lib.hid (HC.out.below hb6 HC.out.lt)
           have HZ := Lib.hid (HZ.out.below hb6 HZ.out.lt)
           have HS := Lib.hid (HS.out.below hb6 HS.out.lt)
           have HQ := Lib.hid (HQ.out.below hb6 HQ.out.lt)
           have H16 := Lib.hid (H16.out.below hb6 H16.out.lt)
           have HB := Lib.hid (HB.out.trans (hb6.mono HB.out.size))
           clear hv5 hst5 hs5 hsl5 hb6 hS1 hS2 hLt hF hW
           go_simp
           refine hK.out _ _ ?_ (fun hHeld => ?_)
           ·exact ⟨HS.out, args_range HQ.out, HQ.out.cell 0, HC.out.cell 3, HC.out.cell 2, (HB.out.cell (p := ⟨b, o + k * 6 + 5, none⟩) hbB).trans HNV.out⟩
           clear hK K
           try simp only [Act.put, pS]
           refine takeA 17 ?_
           try simp only [Act.put, pS]
           refine takeA 18 ?_
           try simp only [Act.put, pS]
           refine takeA 19 ?_
           try simp only [Act.put, pS]
           refine comeH 21 rfl rfl rfl rfl (by kernel_rfl) (by rfl) (fun K hK => ?_)
           go_simp
           obtain ⟨Wa18, hW7⟩ : ∃ W7, wp17.alloc (.cells #[.int .u64 0, .int .u64 0, .int .u64 0, .int .u64 0, .int .u64 0, .int .u64 0, .int .u64 0, .int .u64 0, .int .u64 0, .int .u64 0, .int .u64 0, .int .u64 0, .int .u64 0, .int .u64 0, .int .u64 0, .int .u64 0, .slice none 0 0, .int .i64 0, .int .u64 0, .int .u64 0, .int .u64 0, .int .u64 0, .int .u64 0, .int .u64 0, .int .u64 0, .int .u64 0, .int .u64 0, .int .u64 0, .int .u64 0, .int .u64 0, .int .u64 0, .int .u64 0, .int .u64 0, .int .u64 0, .int .i64 0, .int .i64 0, .slice none 0 0, .slice none 0 0, .bool false, .int .u64 0, .int .i64 0] 87) = W7 := ⟨_, rfl⟩
           have H17n : Hid (Bk Wa18 wp17.heap.size 87 zero41) := by show Bk _ _ _ _; rw [← hW7]; exact Bk.new _ _ _
           have hb7 : Below wp17.heap.size wp17 Wa18 := by rw [← hW7]; exact (Below.refl _ _).alloc (Nat.le_refl _) _
           have HGg17 := Lib.hid (show (w.heap.size + 1 + 1 < wp17.heap.size) ∧ gq < wp17.heap.size ∧ g16 < wp17.heap.size from ⟨HS.out.lt, HQ.out.lt, H16.out.lt⟩)
           have HNI5 := Lib.hid (HNI5.out.new HST5.out)
           have HC := Lib.hid (HC.out.below hb7 HC.out.lt)
           have HZ := Lib.hid (HZ.out.below hb7 HZ.out.lt)
           have HS := Lib.hid (HS.out.below hb7 HS.out.lt)
           have HQ := Lib.hid (HQ.out.below hb7 HQ.out.lt)
           have H16 := Lib.hid (H16.out.below hb7 H16.out.lt)
           have HST5 := Lib.hid (HST5.out.below hb7)
           have HB := Lib.hid (HB.out.trans (hb7.mono HB.out.size))
           rw [hW7]
           obtain ⟨g17, hgd⟩ : ∃ gd, wp17.heap.size = gd := ⟨_, rfl⟩
           rw [hgd] at H17n HGg17 HNI5 ⊢
           have H17 := H17n
           clear hW7 hb7 hgd H17n
           refine hK.out _ _ ?_ (fun hHeld => ?_)
           ·exact ⟨HS.out, args_range HQ.out, HQ.out.cell 0, HC.out.cell 3, HC.out.cell 2, (HB.out.cell (p := ⟨b, o + k * 6 + 5, none⟩) hbB).trans HNV.out⟩
           clear hK K
           try simp only [Act.put, pS]
           refine comeH 22 rfl rfl rfl rfl (by kernel_rfl) (by rfl) (fun K hK => ?_)
           refine wp_store_rowH _ _ 53 _ (.tmp 16) (.tmp 78) g16 (stV roots5 bv5).toArray (by rfl) (by rfl) 53 zeroSt H16.out (by rw [stV_len (by rw [HST5.out.roots]; exact HST5.out.len)]; exact info_st17) (by rw [stV_len (by rw [HST5.out.roots]; exact HST5.out.len)]; rfl) HST5.out.one ?_
           have HC := Lib.hid (HC.out.setRow_ne (g := g16) (by have q0 := HGq.out; have q1 := HGg16.out; have q2 := HGg17.out; omega) ((stV roots5 bv5).toArray))
           have HZ := Lib.hid (HZ.out.setRow_ne (g := g16) (by have q0 := HGq.out; have q1 := HGg16.out; have q2 := HGg17.out; omega) ((stV roots5 bv5).toArray))
           have HS := Lib.hid (HS.out.setRow_ne (g := g16) (by have q0 := HGq.out; have q1 := HGg16.out; have q2 := HGg17.out; omega) ((stV roots5 bv5).toArray))
           have HQ := Lib.hid (HQ.out.setRow_ne (g := g16) (by have q0 := HGq.out; have q1 := HGg16.out; have q2 := HGg17.out; omega) ((stV roots5 bv5).toArray))
           have H17 := Lib.hid (H17.out.setRow_ne (g := g16) (by have q0 := HGq.out; have q1 := HGg16.out; have q2 := HGg17.out; omega) ((stV roots5 bv5).toArray))
           have H16 := Lib.hid (H16.out.setRow ((stV roots5 bv5).toArray))
           have HST5 := Lib.hid (HST5.out.keepS HNI5.out (fun p hp => World.cell?_of_block (setRow_other _ _ _ _ (fun e => hp (by rw [e]; simp)))) (show Wa18.heap.size ≤ (Wa18.setRow g16 (stV roots5 bv5).toArray).heap.size by simp))
           have HB := Lib.hid (lbelow_setRow HB.out (show w.heap.size ≤ g16 by have q0 := HGq.out; have q1 := HGg16.out; have q2 := HGg17.out; omega) ((stV roots5 bv5).toArray))
           obtain ⟨Ws1, hWs⟩ : ∃ W9, Wa18.setRow g16 (stV roots5 bv5).toArray = W9 := ⟨_, rfl⟩
           rw [hWs] at HC HZ HS HQ H17 H16 HST5 HB ⊢
           clear hWs
           refine hK.out _ _ ?_ (fun hHeld => ?_)
           ·exact ⟨HS.out, args_range HQ.out, HQ.out.cell 0, HC.out.cell 3, HC.out.cell 2, (HB.out.cell (p := ⟨b, o + k * 6 + 5, none⟩) hbB).trans HNV.out⟩
           clear hK K
           try simp only [Act.put, pS]
           refine comeH 23 rfl rfl rfl rfl (by kernel_rfl) (by rfl) (fun K hK => ?_)
           refine wp_store_rowH _ _ 87 _ (.tmp 17) (.tmp 79) g17 c5.cells.toArray (by rfl) (by rfl) 87 zero41 H17.out (info_run17 HZ5.out) (zero41_size HZ5.out) HO5.out ?_
           have HC := Lib.hid (HC.out.setRow_ne (g := g17) (by have q0 := HGq.out; have q1 := HGg16.out; have q2 := HGg17.out; omega) (c5.cells.toArray))
           have HZ := Lib.hid (HZ.out.setRow_ne (g := g17) (by have q0 := HGq.out; have q1 := HGg16.out; have q2 := HGg17.out; omega) (c5.cells.toArray))
           have HS := Lib.hid (HS.out.setRow_ne (g := g17) (by have q0 := HGq.out; have q1 := HGg16.out; have q2 := HGg17.out; omega) (c5.cells.toArray))
           have HQ := Lib.hid (HQ.out.setRow_ne (g := g17) (by have q0 := HGq.out; have q1 := HGg16.out; have q2 := HGg17.out; omega) (c5.cells.toArray))
           have H16 := Lib.hid (H16.out.setRow_ne (g := g17) (by have q0 := HGq.out; have q1 := HGg16.out; have q2 := HGg17.out; omega) (c5.cells.toArray))
           have H17 := Lib.hid (H17.out.setRow (c5.cells.toArray))
           have HST5 := Lib.hid (HST5.out.keepS HNI5.out (fun p hp => World.cell?_of_block (setRow_other _ _ _ _ (fun e => hp (by rw [e]; simp)))) (show Ws1.heap.size ≤ (Ws1.setRow g17 c5.cells.toArray).heap.size by simp))
           have HB := Lib.hid (lbelow_setRow HB.out (show w.heap.size ≤ g17 by have q0 := HGq.out; have q1 := HGg16.out; have q2 := HGg17.out; omega) (c5.cells.toArray))
           refine hK.out _ _ ?_ (fun hHeld => ?_)
           ·exact ⟨HS.out, args_range HQ.out, HQ.out.cell 0, HC.out.cell 3, HC.out.cell 2, (HB.out.cell (p := ⟨b, o + k * 6 + 5, none⟩) hbB).trans HNV.out⟩
           clear hK K
           try simp only [Act.put, pS]
           refine wpAnyH_done (by kernel_rfl) ?_ _
           try simp only [Act.put, pS]
           go_wp2_with (go_meet; exact ⟨g16, g17, c5, roots5, bv5, rfl, rfl, H16.out, ⟨H17.out, HZ5.out⟩, HE5.out, HST5.out, HNI5.out.mono (fun b hb hm => hb (by simp only [List.mem_cons, List.not_mem_nil, or_false] at hm ⊢; omega)), HC.out, HZ.out, HS.out, HB.out⟩)
          ·go_simp
           obtain ⟨Wa19, hW7⟩ : ∃ W7, Wa16.alloc (.cells #[.int .u64 0, .int .u64 0, .int .u64 0, .int .u64 0, .int .u64 0, .int .u64 0, .int .u64 0, .int .u64 0, .int .u64 0, .int .u64 0, .int .u64 0, .int .u64 0, .int .u64 0, .int .u64 0, .int .u64 0, .int .u64 0, .slice none 0 0, .int .i64 0, .int .u64 0, .int .u64 0, .int .u64 0, .int .u64 0, .int .u64 0, .int .u64 0, .int .u64 0, .int .u64 0, .int .u64 0, .int .u64 0, .int .u64 0, .int .u64 0, .int .u64 0, .int .u64 0, .int .u64 0, .int .u64 0, .int .i64 0, .int .i64 0, .slice none 0 0, .slice none 0 0, .bool false, .int .u64 0, .int .i64 0] 87) = W7 := ⟨_, rfl⟩
           have H17n : Hid (Bk Wa19 Wa16.heap.size 87 zero41) := by show Bk _ _ _ _; rw [← hW7]; exact Bk.new _ _ _
           have hb7 : Below Wa16.heap.size Wa16 Wa19 := by rw [← hW7]; exact (Below.refl _ _).alloc (Nat.le_refl _) _
           have HGg17 := Lib.hid (show (w.heap.size + 1 + 1 < Wa16.heap.size) ∧ gq < Wa16.heap.size ∧ g16 < Wa16.heap.size from ⟨HS.out.lt, HQ.out.lt, H16.out.lt⟩)
           have HNI := Lib.hid (HNI.out.new HST.out)
           have HC := Lib.hid (HC.out.below hb7 HC.out.lt)
           have HZ := Lib.hid (HZ.out.below hb7 HZ.out.lt)
           have HS := Lib.hid (HS.out.below hb7 HS.out.lt)
           have HQ := Lib.hid (HQ.out.below hb7 HQ.out.lt)
           have H16 := Lib.hid (H16.out.below hb7 H16.out.lt)
           have HST := Lib.hid (HST.out.below hb7)
           have HCr := Lib.hid ((HCr.out.below hb7).more hb7.size)
           have HB := Lib.hid (HB.out.trans (hb7.mono HB.out.size))
           rw [hW7]
           obtain ⟨g17, hgd⟩ : ∃ gd, Wa16.heap.size = gd := ⟨_, rfl⟩
           rw [hgd] at H17n HGg17 HNI ⊢
           have H17 := H17n
           clear hW7 hb7 hgd H17n
           refine hK.out _ _ ?_ (fun hHeld => ?_)
           ·exact ⟨HS.out, args_range HQ.out, HQ.out.cell 0, HC.out.cell 3, HC.out.cell 2, (HB.out.cell (p := ⟨b, o + k * 6 + 5, none⟩) hbB).trans HNV.out⟩
           clear hK K
           try simp only [Act.put, pS]
           refine comeH 16 rfl rfl rfl rfl (by kernel_rfl) (by rfl) (fun K hK => ?_)
           go_simp
           have hS1 : SlIn (fun b => b ∉ [g17, g16, gq, w.heap.size, w.heap.size + 1, w.heap.size + 1 + 1] ∧ b < Wa19.heap.size) (.slice xA xn xk) := HNI.out.and HST.out.low
           have hS2 : SlIn (fun b => b ∉ [g17, g16, gq, w.heap.size, w.heap.size + 1, w.heap.size + 1 + 1] ∧ b < Wa19.heap.size) (.slice nA news.length nc) := (SlIn.low HNr.out).mono (fun b hb => ⟨by intro hm; have q0 := HGq.out.1; have q1 := HGg16.out.1; have q2 := HGg17.out.1; simp only [List.mem_cons, List.not_mem_nil, or_false] at hm; omega, by have := HB.out.size; omega⟩)
           have hLt : ∀ b, Wa19.heap.size ≤ b → b ∉ [g17, g16, gq, w.heap.size, w.heap.size + 1, w.heap.size + 1 + 1] := by intro b hb hm; have l0 := HC.out.lt; have l1 := HZ.out.lt; have l2 := HS.out.lt; have l3 := HQ.out.lt; have l4 := H16.out.lt; have l5 := H17.out.lt; simp only [List.mem_cons, List.not_mem_nil, or_false] at hm; omega
           have hF := HRt.out.F
           have hW := HRt.out.W
           refine (rplay_any s roots xA xn xk (codeP ps qp) cA _ cc [a0, a1, a2, a3] c.F c.W nA nc news _ HST.out HOK.out HCr.out HCl.out (code_ok HPk.out qp) rfl HArg.out (by omega) (by omega) ((HNr.out.below HB.out).more HB.out.size) HNl.out HXu.out hnf _ hS1 hS2 (fun b hb => hb.2)).mono ?_
           rintro e wp20 ⟨c5, roots5, bv5, rfl, hv5, hst5, hs5, hsl5, hb6⟩
           rw [HD.out] at hv5 hst5
           have HE5 : Hid (c5.e = D.code ∧ c5.val = D.val ∧ ∃ A k, c5.nv = .slice A D.news.length k) := ⟨hv5.err, hv5.val, by obtain ⟨A', k', e', _, _⟩ := hv5.news; exact ⟨A', k', e'⟩⟩
           have HZ5 := Lib.hid hv5.sz
           have HO5 := Lib.hid hv5.ones
           have HST5 := Lib.hid hst5
           have HNI5 : Hid (SlIn (fun b => b ∉ [g17, g16, gq, w.heap.size, w.heap.size + 1, w.heap.size + 1 + 1]) bv5) := hsl5.mono (fun b hb => hb.elim (fun h => h.1) (fun h => hLt b h))
           have HC := Lib.hid (HC.out.below hb6 HC.out.lt)
           have HZ := Lib.hid (HZ.out.below hb6 HZ.out.lt)
           have HS := Lib.hid (HS.out.below hb6 HS.out.lt)
           have HQ := Lib.hid (HQ.out.below hb6 HQ.out.lt)
           have H16 := Lib.hid (H16.out.below hb6 H16.out.lt)
           have H17 := Lib.hid (H17.out.below hb6 H17.out.lt)
           have HB := Lib.hid (HB.out.trans (hb6.mono HB.out.size))
           clear hv5 hst5 hs5 hsl5 hb6 hS1 hS2 hLt hF hW
           go_simp
           refine hK.out _ _ ?_ (fun hHeld => ?_)
           ·exact ⟨HS.out, args_range HQ.out, HQ.out.cell 0, HC.out.cell 3, HC.out.cell 2, (HB.out.cell (p := ⟨b, o + k * 6 + 5, none⟩) hbB).trans HNV.out⟩
           clear hK K
           try simp only [Act.put, pS]
           refine takeA 17 ?_
           try simp only [Act.put, pS]
           refine takeA 18 ?_
           try simp only [Act.put, pS]
           refine takeA 19 ?_
           try simp only [Act.put, pS]
           refine comeH 22 rfl rfl rfl rfl (by kernel_rfl) (by rfl) (fun K hK => ?_)
           refine wp_store_rowH _ _ 53 _ (.tmp 16) (.tmp 78) g16 (stV roots5 bv5).toArray (by rfl) (by rfl) 53 zeroSt H16.out (by rw [stV_len (by rw [HST5.out.roots]; exact HST5.out.len)]; exact info_st17) (by rw [stV_len (by rw [HST5.out.roots]; exact HST5.out.len)]; rfl) HST5.out.one ?_
           have HC := Lib.hid (HC.out.setRow_ne (g := g16) (by have q0 := HGq.out; have q1 := HGg16.out; have q2 := HGg17.out; omega) ((stV roots5 bv5).toArray))
           have HZ := Lib.hid (HZ.out.setRow_ne (g := g16) (by have q0 := HGq.out; have q1 := HGg16.out; have q2 := HGg17.out; omega) ((stV roots5 bv5).toArray))
           have HS := Lib.hid (HS.out.setRow_ne (g := g16) (by have q0 := HGq.out; have q1 := HGg16.out; have q2 := HGg17.out; omega) ((stV roots5 bv5).toArray))
           have HQ := Lib.hid (HQ.out.setRow_ne (g := g16) (by have q0 := HGq.out; have q1 := HGg16.out; have q2 := HGg17.out; omega) ((stV roots5 bv5).toArray))
           have H17 := Lib.hid (H17.out.setRow_ne (g := g16) (by have q0 := HGq.out; have q1 := HGg16.out; have q2 := HGg17.out; omega) ((stV roots5 bv5).toArray))
           have H16 := Lib.hid (H16.out.setRow ((stV roots5 bv5).toArray))
           have HST5 := Lib.hid (HST5.out.keepS HNI5.out (fun p hp => World.cell?_of_block (setRow_other _ _ _ _ (fun e => hp (by rw [e]; simp)))) (show wp20.heap.size ≤ (wp20.setRow g16 (stV roots5 bv5).toArray).heap.size by simp))
           have HB := Lib.hid (lbelow_setRow HB.out (show w.heap.size ≤ g16 by have q0 := HGq.out; have q1 := HGg16.out; have q2 := HGg17.out; omega) ((stV roots5 bv5).toArray))
           obtain ⟨Ws1, hWs⟩ : ∃ W9, wp20.setRow g16 (stV roots5 bv5).toArray = W9 := ⟨_, rfl⟩
           rw [hWs] at HC HZ HS HQ H17 H16 HST5 HB ⊢
           clear hWs
           refine hK.out _ _ ?_ (fun hHeld => ?_)
           ·exact ⟨HS.out, args_range HQ.out, HQ.out.cell 0, HC.out.cell 3, HC.out.cell 2, (HB.out.cell (p := ⟨b, o + k * 6 + 5, none⟩) hbB).trans HNV.out⟩
           clear hK K
           try simp only [Act.put, pS]
           refine comeH 23 rfl rfl rfl rfl (by kernel_rfl) (by rfl) (fun K hK => ?_)
           refine wp_store_rowH _ _ 87 _ (.tmp 17) (.tmp 79) g17 c5.cells.toArray (by rfl) (by rfl) 87 zero41 H17.out (info_run17 HZ5.out) (zero41_size HZ5.out) HO5.out ?_
           have HC := Lib.hid (HC.out.setRow_ne (g := g17) (by have q0 := HGq.out; have q1 := HGg16.out; have q2 := HGg17.out; omega) (c5.cells.toArray))
           have HZ := Lib.hid (HZ.out.setRow_ne (g := g17) (by have q0 := HGq.out; have q1 := HGg16.out; have q2 := HGg17.out; omega) (c5.cells.toArray))
           have HS := Lib.hid (HS.out.setRow_ne (g := g17) (by have q0 := HGq.out; have q1 := HGg16.out; have q2 := HGg17.out; omega) (c5.cells.toArray))
           have HQ := Lib.hid (HQ.out.setRow_ne (g := g17) (by have q0 := HGq.out; have q1 := HGg16.out; have q2 := HGg17.out; omega) (c5.cells.toArray))
           have H16 := Lib.hid (H16.out.setRow_ne (g := g17) (by have q0 := HGq.out; have q1 := HGg16.out; have q2 := HGg17.out; omega) (c5.cells.toArray))
           have H17 := Lib.hid (H17.out.setRow (c5.cells.toArray))
           have HST5 := Lib.hid (HST5.out.keepS HNI5.out (fun p hp => World.cell?_of_block (setRow_other _ _ _ _ (fun e => hp (by rw [e]; simp)))) (show Ws1.heap.size ≤ (Ws1.setRow g17 c5.cells.toArray).heap.size by simp))
           have HB := Lib.hid (lbelow_setRow HB.out (show w.heap.size ≤ g17 by have q0 := HGq.out; have q1 := HGg16.out; have q2 := HGg17.out; omega) (c5.cells.toArray))
           refine hK.out _ _ ?_ (fun hHeld => ?_)
           ·exact ⟨HS.out, args_range HQ.out, HQ.out.cell 0, HC.out.cell 3, HC.out.cell 2, (HB.out.cell (p := ⟨b, o + k * 6 + 5, none⟩) hbB).trans HNV.out⟩
           clear hK K
           try simp only [Act.put, pS]
           refine wpAnyH_done (by kernel_rfl) ?_ _
           try simp only [Act.put, pS]
           go_wp2_with (go_meet; exact ⟨g16, g17, c5, roots5, bv5, rfl, rfl, H16.out, ⟨H17.out, HZ5.out⟩, HE5.out, HST5.out, HNI5.out.mono (fun b hb hm => hb (by simp only [List.mem_cons, List.not_mem_nil, or_false] at hm ⊢; omega)), HC.out, HZ.out, HS.out, HB.out⟩)
         ·go_simp
          obtain ⟨Wa21, hW7⟩ : ∃ W7, Wa16.alloc (.cells #[.int .u64 0, .int .u64 0, .int .u64 0, .int .u64 0, .int .u64 0, .int .u64 0, .int .u64 0, .int .u64 0, .int .u64 0, .int .u64 0, .int .u64 0, .int .u64 0, .int .u64 0, .int .u64 0, .int .u64 0, .int .u64 0, .slice none 0 0, .int .i64 0, .int .u64 0, .int .u64 0, .int .u64 0, .int .u64 0, .int .u64 0, .int .u64 0, .int .u64 0, .int .u64 0, .int .u64 0, .int .u64 0, .int .u64 0, .int .u64 0, .int .u64 0, .int .u64 0, .int .u64 0, .int .u64 0, .int .i64 0, .int .i64 0, .slice none 0 0, .slice none 0 0, .bool false, .int .u64 0, .int .i64 0] 87) = W7 := ⟨_, rfl⟩
          have H17n : Hid (Bk Wa21 Wa16.heap.size 87 zero41) := by show Bk _ _ _ _; rw [← hW7]; exact Bk.new _ _ _
          have hb7 : Below Wa16.heap.size Wa16 Wa21 := by rw [← hW7]; exact (Below.refl _ _).alloc (Nat.le_refl _) _
          have HGg17 := Lib.hid (show (w.heap.size + 1 + 1 < Wa16.heap.size) ∧ gq < Wa16.heap.size ∧ g16 < Wa16.heap.size from ⟨HS.out.lt, HQ.out.lt, H16.out.lt⟩)
          have HNI := Lib.hid (HNI.out.new HST.out)
          have HC := Lib.hid (HC.out.below hb7 HC.out.lt)
          have HZ := Lib.hid (HZ.out.below hb7 HZ.out.lt)
          have HS := Lib.hid (HS.out.below hb7 HS.out.lt)
          have HQ := Lib.hid (HQ.out.below hb7 HQ.out.lt)
          have H16 := Lib.hid (H16.out.below hb7 H16.out.lt)
          have HST := Lib.hid (HST.out.below hb7)
          have HB := Lib.hid (HB.out.trans (hb7.mono HB.out.size))
          rw [hW7]
          obtain ⟨g17, hgd⟩ : ∃ gd, Wa16.heap.size = gd := ⟨_, rfl⟩
          rw [hgd] at H17n HGg17 HNI ⊢
          have H17 := H17n
          clear hW7 hb7 hgd H17n
          refine hK.out _ _ ?_ (fun hHeld => ?_)
          ·exact ⟨HS.out, args_range HQ.out, HQ.out.cell 0, HC.out.cell 3, HC.out.cell 2, (HB.out.cell (p := ⟨b, o + k * 6 + 5, none⟩) hbB).trans HNV.out⟩
          clear hK K
          try simp only [Act.put, pS]
          refine comeH 4 rfl rfl rfl rfl (by kernel_rfl) (by rfl) (fun K hK => ?_)
          go_simp
          refine (rcode17_any ps A0 n0 c0 qp _ ((HP.out.below HB.out).more HB.out.size)).mono ?_
          rintro e wc ⟨⟨cA, cc, rfl, hcr, hcl⟩, hwc⟩
          rw [hwc]
          have HCr := Lib.hid hcr
          have HCl := Lib.hid hcl
          clear hcr hcl hwc
          go_simp
          refine hK.out _ _ ?_ (fun hHeld => ?_)
          ·exact ⟨HS.out, args_range HQ.out, HQ.out.cell 0, HC.out.cell 3, HC.out.cell 2, (HB.out.cell (p := ⟨b, o + k * 6 + 5, none⟩) hbB).trans HNV.out⟩
          clear hK K
          try simp only [Act.put, pS]
          refine comeH 16 rfl rfl rfl rfl (by kernel_rfl) (by rfl) (fun K hK => ?_)
          go_simp
          have hS1 : SlIn (fun b => b ∉ [g17, g16, gq, w.heap.size, w.heap.size + 1, w.heap.size + 1 + 1] ∧ b < Wa21.heap.size) (.slice xA xn xk) := HNI.out.and HST.out.low
          have hS2 : SlIn (fun b => b ∉ [g17, g16, gq, w.heap.size, w.heap.size + 1, w.heap.size + 1 + 1] ∧ b < Wa21.heap.size) (.slice nA news.length nc) := (SlIn.low HNr.out).mono (fun b hb => ⟨by intro hm; have q0 := HGq.out.1; have q1 := HGg16.out.1; have q2 := HGg17.out.1; simp only [List.mem_cons, List.not_mem_nil, or_false] at hm; omega, by have := HB.out.size; omega⟩)
          have hLt : ∀ b, Wa21.heap.size ≤ b → b ∉ [g17, g16, gq, w.heap.size, w.heap.size + 1, w.heap.size + 1 + 1] := by intro b hb hm; have l0 := HC.out.lt; have l1 := HZ.out.lt; have l2 := HS.out.lt; have l3 := HQ.out.lt; have l4 := H16.out.lt; have l5 := H17.out.lt; simp only [List.mem_cons, List.not_mem_nil, or_false] at hm; omega
          have hF := HRt.out.F
          have hW := HRt.out.W
          refine (rplay_any s roots xA xn xk (codeP ps qp) cA _ cc [a0, a1, a2, a3] c.F c.W nA nc news _ HST.out HOK.out HCr.out HCl.out (code_ok HPk.out qp) rfl HArg.out (by omega) (by omega) ((HNr.out.below HB.out).more HB.out.size) HNl.out HXu.out hnf _ hS1 hS2 (fun b hb => hb.2)).mono ?_
          rintro e wp22 ⟨c5, roots5, bv5, rfl, hv5, hst5, hs5, hsl5, hb6⟩
          rw [HD.out] at hv5 hst5
          have HE5 : Hid (c5.e = D.code ∧ c5.val = D.val ∧ ∃ A k, c5.nv = .slice A D.news.length k) := ⟨hv5.err, hv5.val, by obtain ⟨A', k', e', _, _⟩ := hv5.news; exact ⟨A', k', e'⟩⟩
          have HZ5 := Lib.hid hv5.sz
          have HO5 := Lib.hid hv5.ones
          have HST5 := Lib.hid hst5
          have HNI5 : Hid (SlIn (fun b => b ∉ [g17, g16, gq, w.heap.size, w.heap.size + 1, w.heap.size + 1 + 1]) bv5) := hsl5.mono (fun b hb => hb.elim (fun h => h.1) (fun h => hLt b h))
          have HC := Lib.hid (HC.out.below hb6 HC.out.lt)
          have HZ := Lib.hid (HZ.out.below hb6 HZ.out.lt)
          have HS := Lib.hid (HS.out.below hb6 HS.out.lt)
          have HQ := Lib.hid (HQ.out.below hb6 HQ.out.lt)
          have H16 := Lib.hid (H16.out.below hb6 H16.out.lt)
          have H17 := Lib.hid (H17.out.below hb6 H17.out.lt)
          have HB := Lib.hid (HB.out.trans (hb6.mono HB.out.size))
          clear hv5 hst5 hs5 hsl5 hb6 hS1 hS2 hLt hF hW
          go_simp
          refine hK.out _ _ ?_ (fun hHeld => ?_)
          ·exact ⟨HS.out, args_range HQ.out, HQ.out.cell 0, HC.out.cell 3, HC.out.cell 2, (HB.out.cell (p := ⟨b, o + k * 6 + 5, none⟩) hbB).trans HNV.out⟩
          clear hK K
          try simp only [Act.put, pS]
          refine takeA 17 ?_
          try simp only [Act.put, pS]
          refine takeA 18 ?_
          try simp only [Act.put, pS]
          refine takeA 19 ?_
          try simp only [Act.put, pS]
          refine comeH 22 rfl rfl rfl rfl (by kernel_rfl) (by rfl) (fun K hK => ?_)
          refine wp_store_rowH _ _ 53 _ (.tmp 16) (.tmp 78) g16 (stV roots5 bv5).toArray (by rfl) (by rfl) 53 zeroSt H16.out (by rw [stV_len (by rw [HST5.out.roots]; exact HST5.out.len)]; exact info_st17) (by rw [stV_len (by rw [HST5.out.roots]; exact HST5.out.len)]; rfl) HST5.out.one ?_
          have HC := Lib.hid (HC.out.setRow_ne (g := g16) (by have q0 := HGq.out; have q1 := HGg16.out; have q2 := HGg17.out; omega) ((stV roots5 bv5).toArray))
          have HZ := Lib.hid (HZ.out.setRow_ne (g := g16) (by have q0 := HGq.out; have q1 := HGg16.out; have q2 := HGg17.out; omega) ((stV roots5 bv5).toArray))
          have HS := Lib.hid (HS.out.setRow_ne (g := g16) (by have q0 := HGq.out; have q1 := HGg16.out; have q2 := HGg17.out; omega) ((stV roots5 bv5).toArray))
          have HQ := Lib.hid (HQ.out.setRow_ne (g := g16) (by have q0 := HGq.out; have q1 := HGg16.out; have q2 := HGg17.out; omega) ((stV roots5 bv5).toArray))
          have H17 := Lib.hid (H17.out.setRow_ne (g := g16) (by have q0 := HGq.out; have q1 := HGg16.out; have q2 := HGg17.out; omega) ((stV roots5 bv5).toArray))
          have H16 := Lib.hid (H16.out.setRow ((stV roots5 bv5).toArray))
          have HST5 := Lib.hid (HST5.out.keepS HNI5.out (fun p hp => World.cell?_of_block (setRow_other _ _ _ _ (fun e => hp (by rw [e]; simp)))) (show wp22.heap.size ≤ (wp22.setRow g16 (stV roots5 bv5).toArray).heap.size by simp))
          have HB := Lib.hid (lbelow_setRow HB.out (show w.heap.size ≤ g16 by have q0 := HGq.out; have q1 := HGg16.out; have q2 := HGg17.out; omega) ((stV roots5 bv5).toArray))
          obtain ⟨Ws1, hWs⟩ : ∃ W9, wp22.setRow g16 (stV roots5 bv5).toArray = W9 := ⟨_, rfl⟩
          rw [hWs] at HC HZ HS HQ H17 H16 HST5 HB ⊢
          clear hWs
          refine hK.out _ _ ?_ (fun hHeld => ?_)
          ·exact ⟨HS.out, args_range HQ.out, HQ.out.cell 0, HC.out.cell 3, HC.out.cell 2, (HB.out.cell (p := ⟨b, o + k * 6 + 5, none⟩) hbB).trans HNV.out⟩
          clear hK K
          try simp only [Act.put, pS]
          refine comeH 23 rfl rfl rfl rfl (by kernel_rfl) (by rfl) (fun K hK => ?_)
          refine wp_store_rowH _ _ 87 _ (.tmp 17) (.tmp 79) g17 c5.cells.toArray (by rfl) (by rfl) 87 zero41 H17.out (info_run17 HZ5.out) (zero41_size HZ5.out) HO5.out ?_
          have HC := Lib.hid (HC.out.setRow_ne (g := g17) (by have q0 := HGq.out; have q1 := HGg16.out; have q2 := HGg17.out; omega) (c5.cells.toArray))
          have HZ := Lib.hid (HZ.out.setRow_ne (g := g17) (by have q0 := HGq.out; have q1 := HGg16.out; have q2 := HGg17.out; omega) (c5.cells.toArray))
          have HS := Lib.hid (HS.out.setRow_ne (g := g17) (by have q0 := HGq.out; have q1 := HGg16.out; have q2 := HGg17.out; omega) (c5.cells.toArray))
          have HQ := Lib.hid (HQ.out.setRow_ne (g := g17) (by have q0 := HGq.out; have q1 := HGg16.out; have q2 := HGg17.out; omega) (c5.cells.toArray))
          have H16 := Lib.hid (H16.out.setRow_ne (g := g17) (by have q0 := HGq.out; have q1 := HGg16.out; have q2 := HGg17.out; omega) (c5.cells.toArray))
          have H17 := Lib.hid (H17.out.setRow (c5.cells.toArray))
          have HST5 := Lib.hid (HST5.out.keepS HNI5.out (fun p hp => World.cell?_of_block (setRow_other _ _ _ _ (fun e => hp (by rw [e]; simp)))) (show Ws1.heap.size ≤ (Ws1.setRow g17 c5.cells.toArray).heap.size by simp))
          have HB := Lib.hid (lbelow_setRow HB.out (show w.heap.size ≤ g17 by have q0 := HGq.out; have q1 := HGg16.out; have q2 := HGg17.out; omega) (c5.cells.toArray))
          refine hK.out _ _ ?_ (fun hHeld => ?_)
          ·exact ⟨HS.out, args_range HQ.out, HQ.out.cell 0, HC.out.cell 3, HC.out.cell 2, (HB.out.cell (p := ⟨b, o + k * 6 + 5, none⟩) hbB).trans HNV.out⟩
          clear hK K
          try simp only [Act.put, pS]
          refine wpAnyH_done (by kernel_rfl) ?_ _
          try simp only [Act.put, pS]
          go_wp2_with (go_meet; exact ⟨g16, g17, c5, roots5, bv5, rfl, rfl, H16.out, ⟨H17.out, HZ5.out⟩, HE5.out, HST5.out, HNI5.out.mono (fun b hb hm => hb (by simp only [List.mem_cons, List.not_mem_nil, or_false] at hm ⊢; omega)), HC.out, HZ.out, HS.out, HB.out⟩)
        ·go_simp
         obtain ⟨Wa23, hW7⟩ : ∃ W7, V0.alloc (.cells #[.int .u64 0, .int .u64 0, .int .u64 0, .int .u64 0, .int .u64 0, .int .u64 0, .int .u64 0, .int .u64 0, .int .u64 0, .int .u64 0, .int .u64 0, .int .u64 0, .int .u64 0, .int .u64 0, .int .u64 0, .int .u64 0, .slice none 0 0, .int .i64 0, .int .u64 0, .int .u64 0, .int .u64 0, .int .u64 0, .int .u64 0, .int .u64 0, .int .u64 0, .int .u64 0, .int .u64 0, .int .u64 0, .int .u64 0, .int .u64 0, .int .u64 0, .int .u64 0, .int .u64 0, .int .u64 0, .int .i64 0, .int .i64 0, .slice none 0 0, .slice none 0 0, .bool false, .int .u64 0, .int .i64 0] 87) = W7 := ⟨_, rfl⟩
         have H17n : Hid (Bk Wa23 V0.heap.size 87 zero41) := by show Bk _ _ _ _; rw [← hW7]; exact Bk.new _ _ _
         have hb7 : Below V0.heap.size V0 Wa23 := by rw [← hW7]; exact (Below.refl _ _).alloc (Nat.le_refl _) _
         have HGg17 := Lib.hid (show (w.heap.size + 1 + 1 < V0.heap.size) ∧ gq < V0.heap.size from ⟨HS.out.lt, HQ.out.lt⟩)
         have HNI := Lib.hid (HNI.out.new HST.out)
         have HC := Lib.hid (HC.out.below hb7 HC.out.lt)
         have HZ := Lib.hid (HZ.out.below hb7 HZ.out.lt)
         have HS := Lib.hid (HS.out.below hb7 HS.out.lt)
         have HQ := Lib.hid (HQ.out.below hb7 HQ.out.lt)
         have HST := Lib.hid (HST.out.below hb7)
         have HB := Lib.hid (HB.out.trans (hb7.mono HB.out.size))
         rw [hW7]
         obtain ⟨g17, hgd⟩ : ∃ gd, V0.heap.size = gd := ⟨_, rfl⟩
         rw [hgd] at H17n HGg17 HNI ⊢
         have H17 := H17n
         clear hW7 hb7 hgd H17n
         refine hK.out _ _ ?_ (fun hHeld => ?_)
         ·exact ⟨HS.out, args_range HQ.out, HQ.out.cell 0, HC.out.cell 3, HC.out.cell 2, (HB.out.cell (p := ⟨b, o + k * 6 + 5, none⟩) hbB).trans HNV.out⟩
         clear hK K
         try simp only [Act.put, pS]
         refine comeH2 4 20 rfl rfl rfl rfl rfl rfl rfl rfl (by kernel_rfl) (by rfl) (by rfl) (fun K hK => ?_) (fun K hK => ?_)
         ·go_simp
          refine (rcode17_any ps A0 n0 c0 qp _ ((HP.out.below HB.out).more HB.out.size)).mono ?_
          rintro e wc ⟨⟨cA, cc, rfl, hcr, hcl⟩, hwc⟩
          rw [hwc]
          have HCr := Lib.hid hcr
          have HCl := Lib.hid hcl
          clear hcr hcl hwc
          go_simp
          refine hK.out _ _ ?_ (fun hHeld => ?_)
          ·exact ⟨HS.out, args_range HQ.out, HQ.out.cell 0, HC.out.cell 3, HC.out.cell 2, (HB.out.cell (p := ⟨b, o + k * 6 + 5, none⟩) hbB).trans HNV.out⟩
          clear hK K
          try simp only [Act.put, pS]
          refine comeH2 16 20 rfl rfl rfl rfl rfl rfl rfl rfl (by kernel_rfl) (by rfl) (by rfl) (fun K hK => ?_) (fun K hK => ?_)
          ·go_simp
           have hS1 : SlIn (fun b => b ∉ [g17, gq, w.heap.size, w.heap.size + 1, w.heap.size + 1 + 1] ∧ b < Wa23.heap.size) (.slice xA xn xk) := HNI.out.and HST.out.low
           have hS2 : SlIn (fun b => b ∉ [g17, gq, w.heap.size, w.heap.size + 1, w.heap.size + 1 + 1] ∧ b < Wa23.heap.size) (.slice nA news.length nc) := (SlIn.low HNr.out).mono (fun b hb => ⟨by intro hm; have q0 := HGq.out.1; have q2 := HGg17.out.1; simp only [List.mem_cons, List.not_mem_nil, or_false] at hm; omega, by have := HB.out.size; omega⟩)
           have hLt : ∀ b, Wa23.heap.size ≤ b → b ∉ [g17, gq, w.heap.size, w.heap.size + 1, w.heap.size + 1 + 1] := by intro b hb hm; have l0 := HC.out.lt; have l1 := HZ.out.lt; have l2 := HS.out.lt; have l3 := HQ.out.lt; have l4 := H17.out.lt; simp only [List.mem_cons, List.not_mem_nil, or_false] at hm; omega
           have hF := HRt.out.F
           have hW := HRt.out.W
           refine (rplay_any s roots xA xn xk (codeP ps qp) cA _ cc [a0, a1, a2, a3] c.F c.W nA nc news _ HST.out HOK.out HCr.out HCl.out (code_ok HPk.out qp) rfl HArg.out (by omega) (by omega) ((HNr.out.below HB.out).more HB.out.size) HNl.out HXu.out hnf _ hS1 hS2 (fun b hb => hb.2)).mono ?_
           rintro e wp24 ⟨c5, roots5, bv5, rfl, hv5, hst5, hs5, hsl5, hb6⟩
           rw [HD.out] at hv5 hst5
           have HE5 : Hid (c5.e = D.code ∧ c5.val = D.val ∧ ∃ A k, c5.nv = .slice A D.news.length k) := ⟨hv5.err, hv5.val, by obtain ⟨A', k', e', _, _⟩ := hv5.news; exact ⟨A', k', e'⟩⟩
           have HZ5 := Lib.hid hv5.sz
           have HO5 := Lib.hid hv5.ones
           have HST5 := Lib.hid hst5
           have HNI5 : Hid (SlIn (fun b => b ∉ [g17, gq, w.heap.size, w.heap.size + 1, w.heap.size + 1 + 1]) bv5) := hsl5.mono (fun b hb => hb.elim (fun h => h.1) (fun h => hLt b h))
           have HC := Lib.hid (HC.out.below hb6 HC.out.lt)
           have HZ := Lib.hid (HZ.out.below hb6 HZ.out.lt)
           have HS := Lib.hid (HS.out.below hb6 HS.out.lt)
           have HQ := Lib.hid (HQ.out.below hb6 HQ.out.lt)
           have H17 := Lib.hid (H17.out.below hb6 H17.out.lt)
           have HB := Lib.hid (HB.out.trans (hb6.mono HB.out.size))
           clear hv5 hst5 hs5 hsl5 hb6 hS1 hS2 hLt hF hW
           go_simp
           refine hK.out _ _ ?_ (fun hHeld => ?_)
           ·exact ⟨HS.out, args_range HQ.out, HQ.out.cell 0, HC.out.cell 3, HC.out.cell 2, (HB.out.cell (p := ⟨b, o + k * 6 + 5, none⟩) hbB).trans HNV.out⟩
           clear hK K
           try simp only [Act.put, pS]
           refine takeA 17 ?_
           try simp only [Act.put, pS]
           refine takeA 18 ?_
           try simp only [Act.put, pS]
           refine takeA 19 ?_
           try simp only [Act.put, pS]
           refine comeH 20 rfl rfl rfl rfl (by kernel_rfl) (by rfl) (fun K hK => ?_)
           go_simp
           obtain ⟨Wa25, hW7⟩ : ∃ W7, wp24.alloc (.cells #[.int .u64 0, .int .u64 0, .int .u64 0, .int .u64 0, .int .u64 0, .int .u64 0, .int .u64 0, .int .u64 0, .int .u64 0, .int .u64 0, .int .u64 0, .int .u64 0, .int .u64 0, .int .u64 0, .int .u64 0, .int .u64 0, .slice none 0 0] 53) = W7 := ⟨_, rfl⟩
           have H16n : Hid (Bk Wa25 wp24.heap.size 53 zeroSt) := by show Bk _ _ _ _; rw [← hW7]; exact Bk.new _ _ _
           have hb7 : Below wp24.heap.size wp24 Wa25 := by rw [← hW7]; exact (Below.refl _ _).alloc (Nat.le_refl _) _
           have HGg16 := Lib.hid (show (w.heap.size + 1 + 1 < wp24.heap.size) ∧ gq < wp24.heap.size ∧ g17 < wp24.heap.size from ⟨HS.out.lt, HQ.out.lt, H17.out.lt⟩)
           have HNI5 := Lib.hid (HNI5.out.new HST5.out)
           have HC := Lib.hid (HC.out.below hb7 HC.out.lt)
           have HZ := Lib.hid (HZ.out.below hb7 HZ.out.lt)
           have HS := Lib.hid (HS.out.below hb7 HS.out.lt)
           have HQ := Lib.hid (HQ.out.below hb7 HQ.out.lt)
           have H17 := Lib.hid (H17.out.below hb7 H17.out.lt)
           have HST5 := Lib.hid (HST5.out.below hb7)
           have HB := Lib.hid (HB.out.trans (hb7.mono HB.out.size))
           rw [hW7]
           obtain ⟨g16, hgd⟩ : ∃ gd, wp24.heap.size = gd := ⟨_, rfl⟩
           rw [hgd] at H16n HGg16 HNI5 ⊢
           have H16 := H16n
           clear hW7 hb7 hgd H16n
           refine hK.out _ _ ?_ (fun hHeld => ?_)
           ·exact ⟨HS.out, args_range HQ.out, HQ.out.cell 0, HC.out.cell 3, HC.out.cell 2, (HB.out.cell (p := ⟨b, o + k * 6 + 5, none⟩) hbB).trans HNV.out⟩
           clear hK K
           try simp only [Act.put, pS]
           refine comeH 22 rfl rfl rfl rfl (by kernel_rfl) (by rfl) (fun K hK => ?_)
           refine wp_store_rowH _ _ 53 _ (.tmp 16) (.tmp 78) g16 (stV roots5 bv5).toArray (by rfl) (by rfl) 53 zeroSt H16.out (by rw [stV_len (by rw [HST5.out.roots]; exact HST5.out.len)]; exact info_st17) (by rw [stV_len (by rw [HST5.out.roots]; exact HST5.out.len)]; rfl) HST5.out.one ?_
           have HC := Lib.hid (HC.out.setRow_ne (g := g16) (by have q0 := HGq.out; have q1 := HGg16.out; have q2 := HGg17.out; omega) ((stV roots5 bv5).toArray))
           have HZ := Lib.hid (HZ.out.setRow_ne (g := g16) (by have q0 := HGq.out; have q1 := HGg16.out; have q2 := HGg17.out; omega) ((stV roots5 bv5).toArray))
           have HS := Lib.hid (HS.out.setRow_ne (g := g16) (by have q0 := HGq.out; have q1 := HGg16.out; have q2 := HGg17.out; omega) ((stV roots5 bv5).toArray))
           have HQ := Lib.hid (HQ.out.setRow_ne (g := g16) (by have q0 := HGq.out; have q1 := HGg16.out; have q2 := HGg17.out; omega) ((stV roots5 bv5).toArray))
           have H17 := Lib.hid (H17.out.setRow_ne (g := g16) (by have q0 := HGq.out; have q1 := HGg16.out; have q2 := HGg17.out; omega) ((stV roots5 bv5).toArray))
           have H16 := Lib.hid (H16.out.setRow ((stV roots5 bv5).toArray))
           have HST5 := Lib.hid (HST5.out.keepS HNI5.out (fun p hp => World.cell?_of_block (setRow_other _ _ _ _ (fun e => hp (by rw [e]; simp)))) (show Wa25.heap.size ≤ (Wa25.setRow g16 (stV roots5 bv5).toArray).heap.size by simp))
           have HB := Lib.hid (lbelow_setRow HB.out (show w.heap.size ≤ g16 by have q0 := HGq.out; have q1 := HGg16.out; have q2 := HGg17.out; omega) ((stV roots5 bv5).toArray))
           obtain ⟨Ws1, hWs⟩ : ∃ W9, Wa25.setRow g16 (stV roots5 bv5).toArray = W9 := ⟨_, rfl⟩
           rw [hWs] at HC HZ HS HQ H17 H16 HST5 HB ⊢
           clear hWs
           refine hK.out _ _ ?_ (fun hHeld => ?_)
           ·exact ⟨HS.out, args_range HQ.out, HQ.out.cell 0, HC.out.cell 3, HC.out.cell 2, (HB.out.cell (p := ⟨b, o + k * 6 + 5, none⟩) hbB).trans HNV.out⟩
           clear hK K
           try simp only [Act.put, pS]
           refine comeH 23 rfl rfl rfl rfl (by kernel_rfl) (by rfl) (fun K hK => ?_)
           refine wp_store_rowH _ _ 87 _ (.tmp 17) (.tmp 79) g17 c5.cells.toArray (by rfl) (by rfl) 87 zero41 H17.out (info_run17 HZ5.out) (zero41_size HZ5.out) HO5.out ?_
           have HC := Lib.hid (HC.out.setRow_ne (g := g17) (by have q0 := HGq.out; have q1 := HGg16.out; have q2 := HGg17.out; omega) (c5.cells.toArray))
           have HZ := Lib.hid (HZ.out.setRow_ne (g := g17) (by have q0 := HGq.out; have q1 := HGg16.out; have q2 := HGg17.out; omega) (c5.cells.toArray))
           have HS := Lib.hid (HS.out.setRow_ne (g := g17) (by have q0 := HGq.out; have q1 := HGg16.out; have q2 := HGg17.out; omega) (c5.cells.toArray))
           have HQ := Lib.hid (HQ.out.setRow_ne (g := g17) (by have q0 := HGq.out; have q1 := HGg16.out; have q2 := HGg17.out; omega) (c5.cells.toArray))
           have H16 := Lib.hid (H16.out.setRow_ne (g := g17) (by have q0 := HGq.out; have q1 := HGg16.out; have q2 := HGg17.out; omega) (c5.cells.toArray))
           have H17 := Lib.hid (H17.out.setRow (c5.cells.toArray))
           have HST5 := Lib.hid (HST5.out.keepS HNI5.out (fun p hp => World.cell?_of_block (setRow_other _ _ _ _ (fun e => hp (by rw [e]; simp)))) (show Ws1.heap.size ≤ (Ws1.setRow g17 c5.cells.toArray).heap.size by simp))
           have HB := Lib.hid (lbelow_setRow HB.out (show w.heap.size ≤ g17 by have q0 := HGq.out; have q1 := HGg16.out; have q2 := HGg17.out; omega) (c5.cells.toArray))
           refine hK.out _ _ ?_ (fun hHeld => ?_)
           ·exact ⟨HS.out, args_range HQ.out, HQ.out.cell 0, HC.out.cell 3, HC.out.cell 2, (HB.out.cell (p := ⟨b, o + k * 6 + 5, none⟩) hbB).trans HNV.out⟩
           clear hK K
           try simp only [Act.put, pS]
           refine wpAnyH_done (by kernel_rfl) ?_ _
           try simp only [Act.put, pS]
           go_wp2_with (go_meet; exact ⟨g16, g17, c5, roots5, bv5, rfl, rfl, H16.out, ⟨H17.out, HZ5.out⟩, HE5.out, HST5.out, HNI5.out.mono (fun b hb hm => hb (by simp only [List.mem_cons, List.not_mem_nil, or_false] at hm ⊢; omega)), HC.out, HZ.out, HS.out, HB.out⟩)
          ·go_simp
           obtain ⟨Wa26, hW7⟩ : ∃ W7, Wa23.alloc (.cells #[.int .u64 0, .int .u64 0, .int .u64 0, .int .u64 0, .int .u64 0, .int .u64 0, .int .u64 0, .int .u64 0, .int .u64 0, .int .u64 0, .int .u64 0, .int .u64 0, .int .u64 0, .int .u64 0, .int .u64 0, .int .u64 0, .slice none 0 0] 53) = W7 := ⟨_, rfl⟩
           have H16n : Hid (Bk Wa26 Wa23.heap.size 53 zeroSt) := by show Bk _ _ _ _; rw [← hW7]; exact Bk.new _ _ _
           have hb7 : Below Wa23.heap.size Wa23 Wa26 := by rw [← hW7]; exact (Below.refl _ _).alloc (Nat.le_refl _) _
           have HGg16 := Lib.hid (show (w.heap.size + 1 + 1 < Wa23.heap.size) ∧ gq < Wa23.heap.size ∧ g17 < Wa23.heap.size from ⟨HS.out.lt, HQ.out.lt, H17.out.lt⟩)
           have HNI := Lib.hid (HNI.out.new HST.out)
           have HC := Lib.hid (HC.out.below hb7 HC.out.lt)
           have HZ := Lib.hid (HZ.out.below hb7 HZ.out.lt)
           have HS := Lib.hid (HS.out.below hb7 HS.out.lt)
           have HQ := Lib.hid (HQ.out.below hb7 HQ.out.lt)
           have H17 := Lib.hid (H17.out.below hb7 H17.out.lt)
           have HST := Lib.hid (HST.out.below hb7)
           have HCr := Lib.hid ((HCr.out.below hb7).more hb7.size)
           have HB := Lib.hid (HB.out.trans (hb7.mono HB.out.size))
           rw [hW7]
           obtain ⟨g16, hgd⟩ : ∃ gd, Wa23.heap.size = gd := ⟨_, rfl⟩
           rw [hgd] at H16n HGg16 HNI ⊢
           have H16 := H16n
           clear hW7 hb7 hgd H16n
           refine hK.out _ _ ?_ (fun hHeld => ?_)
           ·exact ⟨HS.out, args_range HQ.out, HQ.out.cell 0, HC.out.cell 3, HC.out.cell 2, (HB.out.cell (p := ⟨b, o + k * 6 + 5, none⟩) hbB).trans HNV.out⟩
           clear hK K
           try simp only [Act.put, pS]
           refine comeH 16 rfl rfl rfl rfl (by kernel_rfl) (by rfl) (fun K hK => ?_)
           go_simp
           have hS1 : SlIn (fun b => b ∉ [g16, g17, gq, w.heap.size, w.heap.size + 1, w.heap.size + 1 + 1] ∧ b < Wa26.heap.size) (.slice xA xn xk) := HNI.out.and HST.out.low
           have hS2 : SlIn (fun b => b ∉ [g16, g17, gq, w.heap.size, w.heap.size + 1, w.heap.size + 1 + 1] ∧ b < Wa26.heap.size) (.slice nA news.length nc) := (SlIn.low HNr.out).mono (fun b hb => ⟨by intro hm; have q0 := HGq.out.1; have q1 := HGg16.out.1; have q2 := HGg17.out.1; simp only [List.mem_cons, List.not_mem_nil, or_false] at hm; omega, by have := HB.out.size; omega⟩)
           have hLt : ∀ b, Wa26.heap.size ≤ b → b ∉ [g16, g17, gq, w.heap.size, w.heap.size + 1, w.heap.size + 1 + 1] := by intro b hb hm; have l0 := HC.out.lt; have l1 := HZ.out.lt; have l2 := HS.out.lt; have l3 := HQ.out.lt; have l4 := H16.out.lt; have l5 := H17.out.lt; simp only [List.mem_cons, List.not_mem_nil, or_false] at hm; omega
           have hF := HRt.out.F
           have hW := HRt.out.W
           refine (rplay_any s roots xA xn xk (codeP ps qp) cA _ cc [a0, a1, a2, a3] c.F c.W nA nc news _ HST.out HOK.out HCr.out HCl.out (code_ok HPk.out qp) rfl HArg.out (by omega) (by omega) ((HNr.out.below HB.out).more HB.out.size) HNl.out HXu.out hnf _ hS1 hS2 (fun b hb => hb.2)).mono ?_
           rintro e wp27 ⟨c5, roots5, bv5, rfl, hv5, hst5, hs5, hsl5, hb6⟩
           rw [HD.out] at hv5 hst5
           have HE5 : Hid (c5.e = D.code ∧ c5.val = D.val ∧ ∃ A k, c5.nv = .slice A D.news.length k) := ⟨hv5.err, hv5.val, by obtain ⟨A', k', e', _, _⟩ := hv5.news; exact ⟨A', k', e'⟩⟩
           have HZ5 := Lib.hid hv5.sz
           have HO5 := Lib.hid hv5.ones
           have HST5 := Lib.hid hst5
           have HNI5 : Hid (SlIn (fun b => b ∉ [g16, g17, gq, w.heap.size, w.heap.size + 1, w.heap.size + 1 + 1]) bv5) := hsl5.mono (fun b hb => hb.elim (fun h => h.1) (fun h => hLt b h))
           have HC := Lib.hid (HC.out.below hb6 HC.out.lt)
           have HZ := Lib.hid (HZ.out.below hb6 HZ.out.lt)
           have HS := Lib.hid (HS.out.below hb6 HS.out.lt)
           have HQ := Lib.hid (HQ.out.below hb6 HQ.out.lt)
           have H16 := Lib.hid (H16.out.below hb6 H16.out.lt)
           have H17 := Lib.hid (H17.out.below hb6 H17.out.lt)
           have HB := Lib.hid (HB.out.trans (hb6.mono HB.out.size))
           clear hv5 hst5 hs5 hsl5 hb6 hS1 hS2 hLt hF hW
           go_simp
           refine hK.out _ _ ?_ (fun hHeld => ?_)
           ·exact ⟨HS.out, args_range HQ.out, HQ.out.cell 0, HC.out.cell 3, HC.out.cell 2, (HB.out.cell (p := ⟨b, o + k * 6 + 5, none⟩) hbB).trans HNV.out⟩
           clear hK K
           try simp only [Act.put, pS]
           refine takeA 17 ?_
           try simp only [Act.put, pS]
           refine takeA 18 ?_
           try simp only [Act.put, pS]
           refine takeA 19 ?_
           try simp only [Act.put, pS]
           refine comeH 22 rfl rfl rfl rfl (by kernel_rfl) (by rfl) (fun K hK => ?_)
           refine wp_store_rowH _ _ 53 _ (.tmp 16) (.tmp 78) g16 (stV roots5 bv5).toArray (by rfl) (by rfl) 53 zeroSt H16.out (by rw [stV_len (by rw [HST5.out.roots]; exact HST5.out.len)]; exact info_st17) (by rw [stV_len (by rw [HST5.out.roots]; exact HST5.out.len)]; rfl) HST5.out.one ?_
           have HC := Lib.hid (HC.out.setRow_ne (g := g16) (by have q0 := HGq.out; have q1 := HGg16.out; have q2 := HGg17.out; omega) ((stV roots5 bv5).toArray))
           have HZ := Lib.hid (HZ.out.setRow_ne (g := g16) (by have q0 := HGq.out; have q1 := HGg16.out; have q2 := HGg17.out; omega) ((stV roots5 bv5).toArray))
           have HS := Lib.hid (HS.out.setRow_ne (g := g16) (by have q0 := HGq.out; have q1 := HGg16.out; have q2 := HGg17.out; omega) ((stV roots5 bv5).toArray))
           have HQ := Lib.hid (HQ.out.setRow_ne (g := g16) (by have q0 := HGq.out; have q1 := HGg16.out; have q2 := HGg17.out; omega) ((stV roots5 bv5).toArray))
           have H17 := Lib.hid (H17.out.setRow_ne (g := g16) (by have q0 := HGq.out; have q1 := HGg16.out; have q2 := HGg17.out; omega) ((stV roots5 bv5).toArray))
           have H16 := Lib.hid (H16.out.setRow ((stV roots5 bv5).toArray))
           have HST5 := Lib.hid (HST5.out.keepS HNI5.out (fun p hp => World.cell?_of_block (setRow_other _ _ _ _ (fun e => hp (by rw [e]; simp)))) (show wp27.heap.size ≤ (wp27.setRow g16 (stV roots5 bv5).toArray).heap.size by simp))
           have HB := Lib.hid (lbelow_setRow HB.out (show w.heap.size ≤ g16 by have q0 := HGq.out; have q1 := HGg16.out; have q2 := HGg17.out; omega) ((stV roots5 bv5).toArray))
           obtain ⟨Ws1, hWs⟩ : ∃ W9, wp27.setRow g16 (stV roots5 bv5).toArray = W9 := ⟨_, rfl⟩
           rw [hWs] at HC HZ HS HQ H17 H16 HST5 HB ⊢
           clear hWs
           refine hK.out _ _ ?_ (fun hHeld => ?_)
           ·exact ⟨HS.out, args_range HQ.out, HQ.out.cell 0, HC.out.cell 3, HC.out.cell 2, (HB.out.cell (p := ⟨b, o + k * 6 + 5, none⟩) hbB).trans HNV.out⟩
           clear hK K
           try simp only [Act.put, pS]
           refine comeH 23 rfl rfl rfl rfl (by kernel_rfl) (by rfl) (fun K hK => ?_)
           refine wp_store_rowH _ _ 87 _ (.tmp 17) (.tmp 79) g17 c5.cells.toArray (by rfl) (by rfl) 87 zero41 H17.out (info_run17 HZ5.out) (zero41_size HZ5.out) HO5.out ?_
           have HC := Lib.hid (HC.out.setRow_ne (g := g17) (by have q0 := HGq.out; have q1 := HGg16.out; have q2 := HGg17.out; omega) (c5.cells.toArray))
           have HZ := Lib.hid (HZ.out.setRow_ne (g := g17) (by have q0 := HGq.out; have q1 := HGg16.out; have q2 := HGg17.out; omega) (c5.cells.toArray))
           have HS := Lib.hid (HS.out.setRow_ne (g := g17) (by have q0 := HGq.out; have q1 := HGg16.out; have q2 := HGg17.out; omega) (c5.cells.toArray))
           have HQ := Lib.hid (HQ.out.setRow_ne (g := g17) (by have q0 := HGq.out; have q1 := HGg16.out; have q2 := HGg17.out; omega) (c5.cells.toArray))
           have H16 := Lib.hid (H16.out.setRow_ne (g := g17) (by have q0 := HGq.out; have q1 := HGg16.out; have q2 := HGg17.out; omega) (c5.cells.toArray))
           have H17 := Lib.hid (H17.out.setRow (c5.cells.toArray))
           have HST5 := Lib.hid (HST5.out.keepS HNI5.out (fun p hp => World.cell?_of_block (setRow_other _ _ _ _ (fun e => hp (by rw [e]; simp)))) (show Ws1.heap.size ≤ (Ws1.setRow g17 c5.cells.toArray).heap.size by simp))
           have HB := Lib.hid (lbelow_setRow HB.out (show w.heap.size ≤ g17 by have q0 := HGq.out; have q1 := HGg16.out; have q2 := HGg17.out; omega) (c5.cells.toArray))
           refine hK.out _ _ ?_ (fun hHeld => ?_)
           ·exact ⟨HS.out, args_range HQ.out, HQ.out.cell 0, HC.out.cell 3, HC.out.cell 2, (HB.out.cell (p := ⟨b, o + k * 6 + 5, none⟩) hbB).trans HNV.out⟩
           clear hK K
           try simp only [Act.put, pS]
           refine wpAnyH_done (by kernel_rfl) ?_ _
           try simp only [Act.put, pS]
           go_wp2_with (go_meet; exact ⟨g16, g17, c5, roots5, bv5, rfl, rfl, H16.out, ⟨H17.out, HZ5.out⟩, HE5.out, HST5.out, HNI5.out.mono (fun b hb hm => hb (by simp only [List.mem_cons, List.not_mem_nil, or_false] at hm ⊢; omega)), HC.out, HZ.out, HS.out, HB.out⟩)
         ·go_simp
          obtain ⟨Wa28, hW7⟩ : ∃ W7, Wa23.alloc (.cells #[.int .u64 0, .int .u64 0, .int .u64 0, .int .u64 0, .int .u64 0, .int .u64 0, .int .u64 0, .int .u64 0, .int .u64 0, .int .u64 0, .int .u64 0, .int .u64 0, .int .u64 0, .int .u64 0, .int .u64 0, .int .u64 0, .slice none 0 0] 53) = W7 := ⟨_, rfl⟩
          have H16n : Hid (Bk Wa28 Wa23.heap.size 53 zeroSt) := by show Bk _ _ _ _; rw [← hW7]; exact Bk.new _ _ _
          have hb7 : Below Wa23.heap.size Wa23 Wa28 := by rw [← hW7]; exact (Below.refl _ _).alloc (Nat.le_refl _) _
          have HGg16 := Lib.hid (show (w.heap.size + 1 + 1 < Wa23.heap.size) ∧ gq < Wa23.heap.size ∧ g17 < Wa23.heap.size from ⟨HS.out.lt, HQ.out.lt, H17.out.lt⟩)
          have HNI := Lib.hid (HNI.out.new HST.out)
          have HC := Lib.hid (HC.out.below hb7 HC.out.lt)
          have HZ := Lib.hid (HZ.out.below hb7 HZ.out.lt)
          have HS := Lib.hid (HS.out.below hb7 HS.out.lt)
          have HQ := Lib.hid (HQ.out.below hb7 HQ.out.lt)
          have H17 := Lib.hid (H17.out.below hb7 H17.out.lt)
          have HST := Lib.hid (HST.out.below hb7)
          have HB := Lib.hid (HB.out.trans (hb7.mono HB.out.size))
          rw [hW7]
          obtain ⟨g16, hgd⟩ : ∃ gd, Wa23.heap.size = gd := ⟨_, rfl⟩
          rw [hgd] at H16n HGg16 HNI ⊢
          have H16 := H16n
          clear hW7 hb7 hgd H16n
          refine hK.out _ _ ?_ (fun hHeld => ?_)
          ·exact ⟨HS.out, args_range HQ.out, HQ.out.cell 0, HC.out.cell 3, HC.out.cell 2, (HB.out.cell (p := ⟨b, o + k * 6 + 5, none⟩) hbB).trans HNV.out⟩
          clear hK K
          try simp only [Act.put, pS]
          refine comeH 4 rfl rfl rfl rfl (by kernel_rfl) (by rfl) (fun K hK => ?_)
          go_simp
          refine (rcode17_any ps A0 n0 c0 qp _ ((HP.out.below HB.out).more HB.out.size)).mono ?_
          rintro e wc ⟨⟨cA, cc, rfl, hcr, hcl⟩, hwc⟩
          rw [hwc]
          have HCr := Lib.hid hcr
          have HCl := Lib.hid hcl
          clear hcr hcl hwc
          go_simp
          refine hK.out _ _ ?_ (fun hHeld => ?_)
          ·exact ⟨HS.out, args_range HQ.out, HQ.out.cell 0, HC.out.cell 3, HC.out.cell 2, (HB.out.cell (p := ⟨b, o + k * 6 + 5, none⟩) hbB).trans HNV.out⟩
          clear hK K
          try simp only [Act.put, pS]
          refine comeH 16 rfl rfl rfl rfl (by kernel_rfl) (by rfl) (fun K hK => ?_)
          go_simp
          have hS1 : SlIn (fun b => b ∉ [g16, g17, gq, w.heap.size, w.heap.size + 1, w.heap.size + 1 + 1] ∧ b < Wa28.heap.size) (.slice xA xn xk) := HNI.out.and HST.out.low
          have hS2 : SlIn (fun b => b ∉ [g16, g17, gq, w.heap.size, w.heap.size + 1, w.heap.size + 1 + 1] ∧ b < Wa28.heap.size) (.slice nA news.length nc) := (SlIn.low HNr.out).mono (fun b hb => ⟨by intro hm; have q0 := HGq.out.1; have q1 := HGg16.out.1; have q2 := HGg17.out.1; simp only [List.mem_cons, List.not_mem_nil, or_false] at hm; omega, by have := HB.out.size; omega⟩)
          have hLt : ∀ b, Wa28.heap.size ≤ b → b ∉ [g16, g17, gq, w.heap.size, w.heap.size + 1, w.heap.size + 1 + 1] := by intro b hb hm; have l0 := HC.out.lt; have l1 := HZ.out.lt; have l2 := HS.out.lt; have l3 := HQ.out.lt; have l4 := H16.out.lt; have l5 := H17.out.lt; simp only [List.mem_cons, List.not_mem_nil, or_false] at hm; omega
          have hF := HRt.out.F
          have hW := HRt.out.W
          refine (rplay_any s roots xA xn xk (codeP ps qp) cA _ cc [a0, a1, a2, a3] c.F c.W nA nc news _ HST.out HOK.out HCr.out HCl.out (code_ok HPk.out qp) rfl HArg.out (by omega) (by omega) ((HNr.out.below HB.out).more HB.out.size) HNl.out HXu.out hnf _ hS1 hS2 (fun b hb => hb.2)).mono ?_
          rintro e wp29 ⟨c5, roots5, bv5, rfl, hv5, hst5, hs5, hsl5, hb6⟩
          rw [HD.out] at hv5 hst5
          have HE5 : Hid (c5.e = D.code ∧ c5.val = D.val ∧ ∃ A k, c5.nv = .slice A D.news.length k) := ⟨hv5.err, hv5.val, by obtain ⟨A', k', e', _, _⟩ := hv5.news; exact ⟨A', k', e'⟩⟩
          have HZ5 := Lib.hid hv5.sz
          have HO5 := Lib.hid hv5.ones
          have HST5 := Lib.hid hst5
          have HNI5 : Hid (SlIn (fun b => b ∉ [g16, g17, gq, w.heap.size, w.heap.size + 1, w.heap.size + 1 + 1]) bv5) := hsl5.mono (fun b hb => hb.elim (fun h => h.1) (fun h => hLt b h))
          have HC := Lib.hid (HC.out.below hb6 HC.out.lt)
          have HZ := Lib.hid (HZ.out.below hb6 HZ.out.lt)
          have HS := Lib.hid (HS.out.below hb6 HS.out.lt)
          have HQ := Lib.hid (HQ.out.below hb6 HQ.out.lt)
          have H16 := Lib.hid (H16.out.below hb6 H16.out.lt)
          have H17 := Lib.hid (H17.out.below hb6 H17.out.lt)
          have HB := Lib.hid (HB.out.trans (hb6.mono HB.out.size))
          clear hv5 hst5 hs5 hsl5 hb6 hS1 hS2 hLt hF hW
          go_simp
          refine hK.out _ _ ?_ (fun hHeld => ?_)
          ·exact ⟨HS.out, args_range HQ.out, HQ.out.cell 0, HC.out.cell 3, HC.out.cell 2, (HB.out.cell (p := ⟨b, o + k * 6 + 5, none⟩) hbB).trans HNV.out⟩
          clear hK K
          try simp only [Act.put, pS]
          refine takeA 17 ?_
          try simp only [Act.put, pS]
          refine takeA 18 ?_
          try simp only [Act.put, pS]
          refine takeA 19 ?_
          try simp only [Act.put, pS]
          refine comeH 22 rfl rfl rfl rfl (by kernel_rfl) (by rfl) (fun K hK => ?_)
          refine wp_store_rowH _ _ 53 _ (.tmp 16) (.tmp 78) g16 (stV roots5 bv5).toArray (by rfl) (by rfl) 53 zeroSt H16.out (by rw [stV_len (by rw [HST5.out.roots]; exact HST5.out.len)]; exact info_st17) (by rw [stV_len (by rw [HST5.out.roots]; exact HST5.out.len)]; rfl) HST5.out.one ?_
          have HC := Lib.hid (HC.out.setRow_ne (g := g16) (by have q0 := HGq.out; have q1 := HGg16.out; have q2 := HGg17.out; omega) ((stV roots5 bv5).toArray))
          have HZ := Lib.hid (HZ.out.setRow_ne (g := g16) (by have q0 := HGq.out; have q1 := HGg16.out; have q2 := HGg17.out; omega) ((stV roots5 bv5).toArray))
          have HS := Lib.hid (HS.out.setRow_ne (g := g16) (by have q0 := HGq.out; have q1 := HGg16.out; have q2 := HGg17.out; omega) ((stV roots5 bv5).toArray))
          have HQ := Lib.hid (HQ.out.setRow_ne (g := g16) (by have q0 := HGq.out; have q1 := HGg16.out; have q2 := HGg17.out; omega) ((stV roots5 bv5).toArray))
          have H17 := Lib.hid (H17.out.setRow_ne (g := g16) (by have q0 := HGq.out; have q1 := HGg16.out; have q2 := HGg17.out; omega) ((stV roots5 bv5).toArray))
          have H16 := Lib.hid (H16.out.setRow ((stV roots5 bv5).toArray))
          have HST5 := Lib.hid (HST5.out.keepS HNI5.out (fun p hp => World.cell?_of_block (setRow_other _ _ _ _ (fun e => hp (by rw [e]; simp)))) (show wp29.heap.size ≤ (wp29.setRow g16 (stV roots5 bv5).toArray).heap.size by simp))
          have HB := Lib.hid (lbelow_setRow HB.out (show w.heap.size ≤ g16 by have q0 := HGq.out; have q1 := HGg16.out; have q2 := HGg17.out; omega) ((stV roots5 bv5).toArray))
          obtain ⟨Ws1, hWs⟩ : ∃ W9, wp29.setRow g16 (stV roots5 bv5).toArray = W9 := ⟨_, rfl⟩
          rw [hWs] at HC HZ HS HQ H17 H16 HST5 HB ⊢
          clear hWs
          refine hK.out _ _ ?_ (fun hHeld => ?_)
          ·exact ⟨HS.out, args_range HQ.out, HQ.out.cell 0, HC.out.cell 3, HC.out.cell 2, (HB.out.cell (p := ⟨b, o + k * 6 + 5, none⟩) hbB).trans HNV.out⟩
          clear hK K
          try simp only [Act.put, pS]
          refine comeH 23 rfl rfl rfl rfl (by kernel_rfl) (by rfl) (fun K hK => ?_)
          refine wp_store_rowH _ _ 87 _ (.tmp 17) (.tmp 79) g17 c5.cells.toArray (by rfl) (by rfl) 87 zero41 H17.out (info_run17 HZ5.out) (zero41_size HZ5.out) HO5.out ?_
          have HC := Lib.hid (HC.out.setRow_ne (g := g17) (by have q0 := HGq.out; have q1 := HGg16.out; have q2 := HGg17.out; omega) (c5.cells.toArray))
          have HZ := Lib.hid (HZ.out.setRow_ne (g := g17) (by have q0 := HGq.out; have q1 := HGg16.out; have q2 := HGg17.out; omega) (c5.cells.toArray))
          have HS := Lib.hid (HS.out.setRow_ne (g := g17) (by have q0 := HGq.out; have q1 := HGg16.out; have q2 := HGg17.out; omega) (c5.cells.toArray))
          have HQ := Lib.hid (HQ.out.setRow_ne (g := g17) (by have q0 := HGq.out; have q1 := HGg16.out; have q2 := HGg17.out; omega) (c5.cells.toArray))
          have H16 := Lib.hid (H16.out.setRow_ne (g := g17) (by have q0 := HGq.out; have q1 := HGg16.out; have q2 := HGg17.out; omega) (c5.cells.toArray))
          have H17 := Lib.hid (H17.out.setRow (c5.cells.toArray))
          have HST5 := Lib.hid (HST5.out.keepS HNI5.out (fun p hp => World.cell?_of_block (setRow_other _ _ _ _ (fun e => hp (by rw [e]; simp)))) (show Ws1.heap.size ≤ (Ws1.setRow g17 c5.cells.toArray).heap.size by simp))
          have HB := Lib.hid (lbelow_setRow HB.out (show w.heap.size ≤ g17 by have q0 := HGq.out; have q1 := HGg16.out; have q2 := HGg17.out; omega) (c5.cells.toArray))
          refine hK.out _ _ ?_ (fun hHeld => ?_)
          ·exact ⟨HS.out, args_range HQ.out, HQ.out.cell 0, HC.out.cell 3, HC.out.cell 2, (HB.out.cell (p := ⟨b, o + k * 6 + 5, none⟩) hbB).trans HNV.out⟩
          clear hK K
          try simp only [Act.put, pS]
          refine wpAnyH_done (by kernel_rfl) ?_ _
          try simp only [Act.put, pS]
          go_wp2_with (go_meet; exact ⟨g16, g17, c5, roots5, bv5, rfl, rfl, H16.out, ⟨H17.out, HZ5.out⟩, HE5.out, HST5.out, HNI5.out.mono (fun b hb hm => hb (by simp only [List.mem_cons, List.not_mem_nil, or_false] at hm ⊢; omega)), HC.out, HZ.out, HS.out, HB.out⟩)
      case rest =>
       clear j0 j1 j2 j3 j5 HST HNI HC HZ HS HB HQ
       obtain ⟨g16, g17, c5, roots5, bv5, rfl, rfl, H16, H17, HE5, HST5, HNI5, HC, HZ, HS, HB⟩ := hcut
       have HLR5 : Hid (roots5.length = 16) := by show _ = 16; rw [HST5.out.roots]; exact HST5.out.len
       have hsz5 : (Try.prog.info? 53).map (·.size) = some (stV roots5 bv5).toArray.size := by rw [stV_len HLR5.out]; exact info_st17
       have hne17 : g17 ≠ w.heap.size + 1 + 1 := Bk.ne_type H17.out.bk HS.out (by decide)
       have HSO : Hid (SOk (afterP s D)) := by
        have hF := HRt.out.F
        have hW := HRt.out.W
        show SOk _
        rw [← HD.out]
        exact run_sok HOK.out (code_ok HPk.out qp) HArg.out HXu.out (by omega) (by omega)
       go_upto_region 15 with (first
        | (refine wpList_load_row (by rfl) 53 (.tmp 16) (by rfl) g16 (by rfl) 53 (stV roots5 bv5).toArray (0, 0) _ H16.out Try.underlying53 (by rfl) hsz5 ?_)
        | (refine wpList_store_row (by rfl) 53 (.tmp 11) (.tmp 80) (by rfl) (w.heap.size + 1 + 1) (stV roots5 bv5).toArray (by rfl) (by rfl) 53 (stV roots (.slice xA xn xk)).toArray HS.out hsz5 (by rw [stV_len HLR.out, stV_len HLR5.out]) HST5.out.one ?_))
       obtain ⟨W9, hW9⟩ : ∃ W9, wc.setRow (w.heap.size + 1 + 1) (stV roots5 bv5).toArray = W9 := ⟨_, rfl⟩
       have HST : Hid (StR W9 roots5 bv5 (afterP s D)) := by show StR _ _ _ _; rw [← hW9]; exact HST5.out.keepS HNI5.out (fun p hp => World.cell?_of_block (setRow_other _ _ _ _ (fun e => hp (by rw [e]; simp)))) (by simp)
       have HC' : Hid (Bk W9 w.heap.size 44 #[.int .i64 c.T, .int .i64 c.B, .int .i64 c.W, .int .i64 c.F, .int .u64 c.fi, .int .u64 c.la]) := by show Bk _ _ _ _; rw [← hW9]; exact HC.out.setRow_ne (by omega) _
       have HZ' : Hid (Bk W9 (w.heap.size + 1) 53 zeroSt) := by show Bk _ _ _ _; rw [← hW9]; exact HZ.out.setRow_ne (by omega) _
       have HS' : Hid (Bk W9 (w.heap.size + 1 + 1) 53 (stV roots5 bv5).toArray) := by show Bk _ _ _ _; rw [← hW9]; exact HS.out.setRow _
       have H17' : Hid (BkC W9 g17 c5) := by show BkC _ _ _; rw [← hW9]; exact H17.out.setRow_ne hne17 _
       have HB' : Hid (Below w.heap.size w W9) := by show Below _ _ _; rw [← hW9]; exact lbelow_setRow HB.out (by omega) _
       try rw [hW9]
       clear hW9 HC HZ HS H17 HB HST5 hsz5 hne17 H16 HLR
       have HC := HC'
       have HZ := HZ'
       have HS := HS'
       have H17 := H17'
       have HB := HB'
       clear HC' HZ' HS' H17' HB'
       have HLR := HLR5
       obtain ⟨he1, he2, vA, vk, he3⟩ := HE5.out
       have e3 : W9.cell? ⟨b, o + k * 6 + 3, none⟩ = some (.int .i64 rco) := (HB.out.cell (p := ⟨b, o + k * 6 + 3, none⟩) hbB).trans HNC.out
       have e4 : W9.cell? ⟨b, o + k * 6 + 4, none⟩ = some (.int .u64 rva) := (HB.out.cell (p := ⟨b, o + k * 6 + 4, none⟩) hbB).trans HNW.out
       have e5 : W9.cell? ⟨b, o + k * 6 + 5, none⟩ = some (.slice nA news.length nc) := (HB.out.cell (p := ⟨b, o + k * 6 + 5, none⟩) hbB).trans HNV.out
       obtain ⟨dc, hdc⟩ : ∃ z, D.code = z := ⟨_, rfl⟩
       obtain ⟨dv, hdv⟩ : ∃ z, D.val = z := ⟨_, rfl⟩
       obtain ⟨dn, hdn⟩ : ∃ z, D.news.length = z := ⟨_, rfl⟩
       obtain ⟨rn, hrn⟩ : ∃ z, news.length = z := ⟨_, rfl⟩
       have q40 : W9.cell? ⟨g17, 40, none⟩ = some (.int .i64 dc) := H17.out.err.trans (by rw [he1, hdc])
       have q39 : W9.cell? ⟨g17, 39, none⟩ = some (.int .u64 dv) := H17.out.val.trans (by rw [he2, hdv])
       have q36 : W9.cell? ⟨g17, 36, none⟩ = some (.slice vA dn vk) := H17.out.nv.trans (by rw [he3, hdn])
       rw [hrn] at e5
       have HBad : Hid (badRun c s X D = if ¬ (dc = rco ∧ dv = rva) ∨ dn ≠ rn then 51 else if dc = 43 ∧ (liveP s : Int) + rn + c.lim < c.B then 43 else 0) := by
        show _ = _
        unfold badRun
        rw [HXr.out, HXn.out, hdc, hdv, hdn, hrn]
       have HDN : Hid (D.news.length = dn) := hdn
       have HRN : Hid (rn ≤ 1000) := by show _ ≤ _; rw [← hrn]; exact hnf
       have HE40 : Hid (c5.e = dc) := he1.trans hdc
       have HE36 : Hid (c5.nv = .slice vA dn vk) := by show _ = _; rw [he3, hdn]
       clear he1 he2 he3 hdc hdv hdn hrn HE5 HLR5
       by_cases hco : rco = dc
       case neg =>
        have g1 : (rco != dc) = true := bne_iff_ne.2 hco
        have HE := Lib.hid (show RES = (none, k, 51) by rw [← hg, HBad.out, if_pos (Or.inl (fun h => hco h.1.symm))]; rfl)
        clear hg hco
        refine wp_region_held_drew (S := (fun w' => w'.cell? ⟨b, o + k * 6 + 3, none⟩ = some (.int .i64 rco) ∧ w'.cell? ⟨b, o + k * 6 + 4, none⟩ = some (.int .u64 rva) ∧ w'.cell? ⟨b, o + k * 6 + 5, none⟩ = some (.slice nA rn nc) ∧ w'.cell? ⟨g17, 40, none⟩ = some (.int .i64 dc) ∧ w'.cell? ⟨g17, 39, none⟩ = some (.int .u64 dv) ∧ w'.cell? ⟨g17, 36, none⟩ = some (.slice vA dn vk))) (by kernel_rfl) ?_ (fun hHeld => ?_)
        ·exact ⟨e3, e4, e5, q40, q39, q36⟩
        refine takeA 0 ?_
        try simp only [Act.put, pS]
        refine takeA 1 ?_
        try simp only [Act.put, pS]
        refine takeA 2 ?_
        try simp only [Act.put, pS]
        refine takeA 3 ?_
        try simp only [Act.put, pS]
        refine takeA 4 ?_
        try simp only [Act.put, pS]
        refine takeA 5 ?_
        try simp only [Act.put, pS]
        refine takeA 6 ?_
        try simp only [Act.put, pS]
        refine takeA 7 ?_
        try simp only [Act.put, pS]
        refine takeA 8 ?_
        try simp only [Act.put, pS]
        refine takeA 9 ?_
        try simp only [Act.put, pS]
        refine skipA 10 ?_
        try simp only [Act.put, pS]
        refine skipA 11 ?_
        try simp only [Act.put, pS]
        refine skipA 12 ?_
        try simp only [Act.put, pS]
        refine skipA 13 ?_
        try simp only [Act.put, pS]
        refine skipA 14 ?_
        try simp only [Act.put, pS]
        refine skipA 15 ?_
        try simp only [Act.put, pS]
        refine skipA 16 ?_
        try simp only [Act.put, pS]
        refine skipA 17 ?_
        try simp only [Act.put, pS]
        refine skipA 18 ?_
        try simp only [Act.put, pS]
        refine takeA 19 ?_
        try simp only [Act.put, pS]
        refine takeA 20 ?_
        try simp only [Act.put, pS]
        refine skipA 21 ?_
        try simp only [Act.put, pS]
        refine skipA 22 ?_
        try simp only [Act.put, pS]
        refine skipA 23 ?_
        try simp only [Act.put, pS]
        refine skipA 24 ?_
        try simp only [Act.put, pS]
        refine skipA 25 ?_
        try simp only [Act.put, pS]
        refine skipA 26 ?_
        try simp only [Act.put, pS]
        refine skipA 27 ?_
        try simp only [Act.put, pS]
        refine skipA 28 ?_
        try simp only [Act.put, pS]
        refine skipA 29 ?_
        try simp only [Act.put, pS]
        refine skipA 30 ?_
        try simp only [Act.put, pS]
        refine takeA 31 ?_
        try simp only [Act.put, pS]
        refine wpAnyH_done (by kernel_rfl) ?_ _
        try simp only [Act.put, pS]
        obtain ⟨V15, hV0⟩ : ∃ V0, W9.drew = V0 := ⟨_, rfl⟩
        have HC : Hid (Bk V15 w.heap.size 44 #[.int .i64 c.T, .int .i64 c.B, .int .i64 c.W, .int .i64 c.F, .int .u64 c.fi, .int .u64 c.la]) := by show Bk _ _ _ _; rw [← hV0]; exact HC.out
        have HZ : Hid (Bk V15 (w.heap.size + 1) 53 zeroSt) := by show Bk _ _ _ _; rw [← hV0]; exact HZ.out
        have HS : Hid (Bk V15 (w.heap.size + 1 + 1) 53 (stV roots5 bv5).toArray) := by show Bk _ _ _ _; rw [← hV0]; exact HS.out
        have H17 : Hid (BkC V15 g17 c5) := by show BkC _ _ _; rw [← hV0]; exact H17.out.drew
        have HST : Hid (StR V15 roots5 bv5 (afterP s D)) := by show StR _ _ _ _; rw [← hV0]; exact HST.out.drew
        have HB : Hid (Below w.heap.size w V15) := by show Below _ _ _; rw [← hV0]; exact HB.out.drew
        have q40' : V15.cell? ⟨g17, 40, none⟩ = some (.int .i64 dc) := by rw [← hV0]; exact q40
        have q36' : V15.cell? ⟨g17, 36, none⟩ = some (.slice vA dn vk) := by rw [← hV0]; exact q36
        rw [hV0]
        clear hV0 hHeld e3 e4 e5 q40 q39 q36
        clear q40' q36' g1
        have HPK := Lib.hid (show (replayP c ps recs rows = (none, k, 51)) ∧ (roots5.length = 16) ∧ (StR V15 roots5 bv5 (afterP s D)) ∧ (Bk V15 (w.heap.size + 1 + 1) 53 (stV roots5 bv5).toArray) ∧ (Bk V15 (w.heap.size + 1) 53 zeroSt) ∧ (Below w.heap.size w V15) from ⟨HRES.out.trans HE.out, HLR.out, HST.out, HS.out, HZ.out, HB.out⟩)
        clear HP HPk HRk HOk HLen HLR0 HG HOK HRow HNr HNl HXu HXr HXn HR HArg HD HNV HNC HNW HGq HNI HLV HBad HDN HRN hHeld HLIM HRt HNI5 HSO HST HC HZ HS H17 HB HLR HE40 HE36 HE HRES
        go_upto_region 16 with fail
        go_wp2_with (first
         | (refine wpList_load_row (by rfl) 53 (.tmp 11) (by rfl) (w.heap.size + 1 + 1) (by rfl) 53 (stV roots5 bv5).toArray (0, 0) _ (by exact HPK.out.2.2.2.1) Try.underlying53 (by rfl) (by rw [stV_len HPK.out.2.1]; exact info_st17) ?_)
         | (refine wpList_store_row (by rfl) 53 (.tmp 8) (.tmp 113) (by rfl) (w.heap.size + 1) (stV roots5 bv5).toArray (by rfl) (by rfl) 53 zeroSt (by exact HPK.out.2.2.2.2.1) (by rw [stV_len HPK.out.2.1]; exact info_st17) (by rw [stV_len HPK.out.2.1]; rfl) (by exact HPK.out.2.2.1.one) ?_)
         | (with_reducible show bodyPost _ _ _ _ _ _
            refine bodyPost_ret (results_ctt rfl _ _ (w.heap.size + 1) 53 (stV roots5 bv5).toArray _ (by rfl) (HPK.out.2.2.2.2.1.setRow _) Try.underlying53 rfl (by rw [stV_len HPK.out.2.1]; exact info_st17)) rfl ?_
            have hb9 := lbelow_setRow HPK.out.2.2.2.2.2 (show w.heap.size ≤ w.heap.size + 1 by omega) (stV roots5 bv5).toArray
            rw [HPK.out.1]
            exact ⟨_, _, rfl, HPK.out.2.1, by obtain ⟨A, n, k, l, e, _, _⟩ := HPK.out.2.2.1.box; exact ⟨A, n, k, e⟩, fun s hs => (by simp at hs), hb9⟩))
       case pos =>
       subst hco
       have g1 : (rco != rco) = false := by simp
       by_cases hva : rva = dv
       case neg =>
        have g2 : (rva != dv) = true := bne_iff_ne.2 hva
        have HE := Lib.hid (show RES = (none, k, 51) by rw [← hg, HBad.out, if_pos (Or.inl (fun h => hva h.2.symm))]; rfl)
        clear hg hva
        refine wp_region_held_drew (S := (fun w' => w'.cell? ⟨b, o + k * 6 + 3, none⟩ = some (.int .i64 rco) ∧ w'.cell? ⟨b, o + k * 6 + 4, none⟩ = some (.int .u64 rva) ∧ w'.cell? ⟨b, o + k * 6 + 5, none⟩ = some (.slice nA rn nc) ∧ w'.cell? ⟨g17, 40, none⟩ = some (.int .i64 rco) ∧ w'.cell? ⟨g17, 39, none⟩ = some (.int .u64 dv) ∧ w'.cell? ⟨g17, 36, none⟩ = some (.slice vA dn vk))) (by kernel_rfl) ?_ (fun hHeld => ?_)
        ·exact ⟨e3, e4, e5, q40, q39, q36⟩
        refine takeA 0 ?_
        try simp only [Act.put, pS]
        refine takeA 1 ?_
        try simp only [Act.put, pS]
        refine takeA 2 ?_
        try simp only [Act.put, pS]
        refine takeA 3 ?_
        try simp only [Act.put, pS]
        refine takeA 4 ?_
        try simp only [Act.put, pS]
        refine takeA 5 ?_
        try simp only [Act.put, pS]
        refine takeA 6 ?_
        try simp only [Act.put, pS]
        refine takeA 7 ?_
        try simp only [Act.put, pS]
        refine takeA 8 ?_
        try simp only [Act.put, pS]
        refine takeA 9 ?_
        try simp only [Act.put, pS]
        refine takeA 10 ?_
        try simp only [Act.put, pS]
        refine takeA 11 ?_
        try simp only [Act.put, pS]
        refine takeA 12 ?_
        try simp only [Act.put, pS]
        refine takeA 13 ?_
        try simp only [Act.put, pS]
        refine takeA 14 ?_
        try simp only [Act.put, pS]
        refine takeA 15 ?_
        try simp only [Act.put, pS]
        refine takeA 16 ?_
        try simp only [Act.put, pS]
        refine takeA 17 ?_
        try simp only [Act.put, pS]
        refine takeA 18 ?_
        try simp only [Act.put, pS]
        refine takeA 19 ?_
        try simp only [Act.put, pS]
        refine takeA 20 ?_
        try simp only [Act.put, pS]
        refine skipA 21 ?_
        try simp only [Act.put, pS]
        refine skipA 22 ?_
        try simp only [Act.put, pS]
        refine skipA 23 ?_
        try simp only [Act.put, pS]
        refine skipA 24 ?_
        try simp only [Act.put, pS]
        refine skipA 25 ?_
        try simp only [Act.put, pS]
        refine skipA 26 ?_
        try simp only [Act.put, pS]
        refine skipA 27 ?_
        try simp only [Act.put, pS]
        refine skipA 28 ?_
        try simp only [Act.put, pS]
        refine skipA 29 ?_
        try simp only [Act.put, pS]
        refine skipA 30 ?_
        try simp only [Act.put, pS]
        refine takeA 31 ?_
        try simp only [Act.put, pS]
        refine wpAnyH_done (by kernel_rfl) ?_ _
        try simp only [Act.put, pS]
        obtain ⟨V15, hV0⟩ : ∃ V0, W9.drew = V0 := ⟨_, rfl⟩
        have HC : Hid (Bk V15 w.heap.size 44 #[.int .i64 c.T, .int .i64 c.B, .int .i64 c.W, .int .i64 c.F, .int .u64 c.fi, .int .u64 c.la]) := by show Bk _ _ _ _; rw [← hV0]; exact HC.out
        have HZ : Hid (Bk V15 (w.heap.size + 1) 53 zeroSt) := by show Bk _ _ _ _; rw [← hV0]; exact HZ.out
        have HS : Hid (Bk V15 (w.heap.size + 1 + 1) 53 (stV roots5 bv5).toArray) := by show Bk _ _ _ _; rw [← hV0]; exact HS.out
        have H17 : Hid (BkC V15 g17 c5) := by show BkC _ _ _; rw [← hV0]; exact H17.out.drew
        have HST : Hid (StR V15 roots5 bv5 (afterP s D)) := by show StR _ _ _ _; rw [← hV0]; exact HST.out.drew
        have HB : Hid (Below w.heap.size w V15) := by show Below _ _ _; rw [← hV0]; exact HB.out.drew
        have q40' : V15.cell? ⟨g17, 40, none⟩ = some (.int .i64 rco) := by rw [← hV0]; exact q40
        have q36' : V15.cell? ⟨g17, 36, none⟩ = some (.slice vA dn vk) := by rw [← hV0]; exact q36
        rw [hV0]
        clear hV0 hHeld e3 e4 e5 q40 q39 q36
        clear q40' q36' g1
        have HPK := Lib.hid (show (replayP c ps recs rows = (none, k, 51)) ∧ (roots5.length = 16) ∧ (StR V15 roots5 bv5 (afterP s D)) ∧ (Bk V15 (w.heap.size + 1 + 1) 53 (stV roots5 bv5).toArray) ∧ (Bk V15 (w.heap.size + 1) 53 zeroSt) ∧ (Below w.heap.size w V15) from ⟨HRES.out.trans HE.out, HLR.out, HST.out, HS.out, HZ.out, HB.out⟩)
        clear HP HPk HRk HOk HLen HLR0 HG HOK HRow HNr HNl HXu HXr HXn HR HArg HD HNV HNC HNW HGq HNI HLV HBad HDN HRN hHeld HLIM HRt HNI5 HSO HST HC HZ HS H17 HB HLR HE40 HE36 HE HRES
        go_upto_region 16 with fail
        go_wp2_with (first
         | (refine wpList_load_row (by rfl) 53 (.tmp 11) (by rfl) (w.heap.size + 1 + 1) (by rfl) 53 (stV roots5 bv5).toArray (0, 0) _ (by exact HPK.out.2.2.2.1) Try.underlying53 (by rfl) (by rw [stV_len HPK.out.2.1]; exact info_st17) ?_)
         | (refine wpList_store_row (by rfl) 53 (.tmp 8) (.tmp 113) (by rfl) (w.heap.size + 1) (stV roots5 bv5).toArray (by rfl) (by rfl) 53 zeroSt (by exact HPK.out.2.2.2.2.1) (by rw [stV_len HPK.out.2.1]; exact info_st17) (by rw [stV_len HPK.out.2.1]; rfl) (by exact HPK.out.2.2.1.one) ?_)
         | (with_reducible show bodyPost _ _ _ _ _ _
            refine bodyPost_ret (results_ctt rfl _ _ (w.heap.size + 1) 53 (stV roots5 bv5).toArray _ (by rfl) (HPK.out.2.2.2.2.1.setRow _) Try.underlying53 rfl (by rw [stV_len HPK.out.2.1]; exact info_st17)) rfl ?_
            have hb9 := lbelow_setRow HPK.out.2.2.2.2.2 (show w.heap.size ≤ w.heap.size + 1 by omega) (stV roots5 bv5).toArray
            rw [HPK.out.1]
            exact ⟨_, _, rfl, HPK.out.2.1, by obtain ⟨A, n, k, l, e, _, _⟩ := HPK.out.2.2.1.box; exact ⟨A, n, k, e⟩, fun s hs => (by simp at hs), hb9⟩))
       case pos =>
       subst hva
       have g2 : (rva != rva) = false := by simp
       by_cases hln : dn = rn
       case neg =>
        have g3 : ((dn : Int) != (rn : Int)) = true := bne_iff_ne.2 (by omega)
        have HE := Lib.hid (show RES = (none, k, 51) by rw [← hg, HBad.out, if_pos (Or.inr hln)]; rfl)
        clear hg hln
        refine wp_region_held_drew (S := (fun w' => w'.cell? ⟨b, o + k * 6 + 3, none⟩ = some (.int .i64 rco) ∧ w'.cell? ⟨b, o + k * 6 + 4, none⟩ = some (.int .u64 rva) ∧ w'.cell? ⟨b, o + k * 6 + 5, none⟩ = some (.slice nA rn nc) ∧ w'.cell? ⟨g17, 40, none⟩ = some (.int .i64 rco) ∧ w'.cell? ⟨g17, 39, none⟩ = some (.int .u64 rva) ∧ w'.cell? ⟨g17, 36, none⟩ = some (.slice vA dn vk))) (by kernel_rfl) ?_ (fun hHeld => ?_)
        ·exact ⟨e3, e4, e5, q40, q39, q36⟩
        refine takeA 0 ?_
        try simp only [Act.put, pS]
        refine takeA 1 ?_
        try simp only [Act.put, pS]
        refine takeA 2 ?_
        try simp only [Act.put, pS]
        refine takeA 3 ?_
        try simp only [Act.put, pS]
        refine takeA 4 ?_
        try simp only [Act.put, pS]
        refine takeA 5 ?_
        try simp only [Act.put, pS]
        refine takeA 6 ?_
        try simp only [Act.put, pS]
        refine takeA 7 ?_
        try simp only [Act.put, pS]
        refine takeA 8 ?_
        try simp only [Act.put, pS]
        refine takeA 9 ?_
        try simp only [Act.put, pS]
        refine takeA 10 ?_
        try simp only [Act.put, pS]
        refine takeA 11 ?_
        try simp only [Act.put, pS]
        refine takeA 12 ?_
        try simp only [Act.put, pS]
        refine takeA 13 ?_
        try simp only [Act.put, pS]
        refine takeA 14 ?_
        try simp only [Act.put, pS]
        refine takeA 15 ?_
        try simp only [Act.put, pS]
        refine takeA 16 ?_
        try simp only [Act.put, pS]
        refine takeA 17 ?_
        try simp only [Act.put, pS]
        refine takeA 18 ?_
        try simp only [Act.put, pS]
        refine takeA 19 ?_
        try simp only [Act.put, pS]
        refine takeA 20 ?_
        try simp only [Act.put, pS]
        refine takeA 21 ?_
        try simp only [Act.put, pS]
        refine takeA 22 ?_
        try simp only [Act.put, pS]
        refine takeA 23 ?_
        try simp only [Act.put, pS]
        refine takeA 24 ?_
        try simp only [Act.put, pS]
        refine takeA 25 ?_
        try simp only [Act.put, pS]
        refine takeA 26 ?_
        try simp only [Act.put, pS]
        refine takeA 27 ?_
        try simp only [Act.put, pS]
        refine takeA 28 ?_
        try simp only [Act.put, pS]
        refine takeA 29 ?_
        try simp only [Act.put, pS]
        refine takeA 30 ?_
        try simp only [Act.put, pS]
        refine takeA 31 ?_
        try simp only [Act.put, pS]
        refine wpAnyH_done (by kernel_rfl) ?_ _
        try simp only [Act.put, pS]
        obtain ⟨V15, hV0⟩ : ∃ V0, W9.drew = V0 := ⟨_, rfl⟩
        have HC : Hid (Bk V15 w.heap.size 44 #[.int .i64 c.T, .int .i64 c.B, .int .i64 c.W, .int .i64 c.F, .int .u64 c.fi, .int .u64 c.la]) := by show Bk _ _ _ _; rw [← hV0]; exact HC.out
        have HZ : Hid (Bk V15 (w.heap.size + 1) 53 zeroSt) := by show Bk _ _ _ _; rw [← hV0]; exact HZ.out
        have HS : Hid (Bk V15 (w.heap.size + 1 + 1) 53 (stV roots5 bv5).toArray) := by show Bk _ _ _ _; rw [← hV0]; exact HS.out
        have H17 : Hid (BkC V15 g17 c5) := by show BkC _ _ _; rw [← hV0]; exact H17.out.drew
        have HST : Hid (StR V15 roots5 bv5 (afterP s D)) := by show StR _ _ _ _; rw [← hV0]; exact HST.out.drew
        have HB : Hid (Below w.heap.size w V15) := by show Below _ _ _; rw [← hV0]; exact HB.out.drew
        have q40' : V15.cell? ⟨g17, 40, none⟩ = some (.int .i64 rco) := by rw [← hV0]; exact q40
        have q36' : V15.cell? ⟨g17, 36, none⟩ = some (.slice vA dn vk) := by rw [← hV0]; exact q36
        rw [hV0]
        clear hV0 hHeld e3 e4 e5 q40 q39 q36
        clear q40' q36' g1
        have HPK := Lib.hid (show (replayP c ps recs rows = (none, k, 51)) ∧ (roots5.length = 16) ∧ (StR V15 roots5 bv5 (afterP s D)) ∧ (Bk V15 (w.heap.size + 1 + 1) 53 (stV roots5 bv5).toArray) ∧ (Bk V15 (w.heap.size + 1) 53 zeroSt) ∧ (Below w.heap.size w V15) from ⟨HRES.out.trans HE.out, HLR.out, HST.out, HS.out, HZ.out, HB.out⟩)
        clear HP HPk HRk HOk HLen HLR0 HG HOK HRow HNr HNl HXu HXr HXn HR HArg HD HNV HNC HNW HGq HNI HLV HBad HDN HRN hHeld HLIM HRt HNI5 HSO HST HC HZ HS H17 HB HLR HE40 HE36 HE HRES
        go_upto_region 16 with fail
        go_wp2_with (first
         | (refine wpList_load_row (by rfl) 53 (.tmp 11) (by rfl) (w.heap.size + 1 + 1) (by rfl) 53 (stV roots5 bv5).toArray (0, 0) _ (by exact HPK.out.2.2.2.1) Try.underlying53 (by rfl) (by rw [stV_len HPK.out.2.1]; exact info_st17) ?_)
         | (refine wpList_store_row (by rfl) 53 (.tmp 8) (.tmp 113) (by rfl) (w.heap.size + 1) (stV roots5 bv5).toArray (by rfl) (by rfl) 53 zeroSt (by exact HPK.out.2.2.2.2.1) (by rw [stV_len HPK.out.2.1]; exact info_st17) (by rw [stV_len HPK.out.2.1]; rfl) (by exact HPK.out.2.2.1.one) ?_)
         | (with_reducible show bodyPost _ _ _ _ _ _
            refine bodyPost_ret (results_ctt rfl _ _ (w.heap.size + 1) 53 (stV roots5 bv5).toArray _ (by rfl) (HPK.out.2.2.2.2.1.setRow _) Try.underlying53 rfl (by rw [stV_len HPK.out.2.1]; exact info_st17)) rfl ?_
            have hb9 := lbelow_setRow HPK.out.2.2.2.2.2 (show w.heap.size ≤ w.heap.size + 1 by omega) (stV roots5 bv5).toArray
            rw [HPK.out.1]
            exact ⟨_, _, rfl, HPK.out.2.1, by obtain ⟨A, n, k, l, e, _, _⟩ := HPK.out.2.2.1.box; exact ⟨A, n, k, e⟩, fun s hs => (by simp at hs), hb9⟩))
       case pos =>
       subst hln
       have g3 : ((dn : Int) != (dn : Int)) = false := by simp
       refine wp_region_held_drew (S := (fun w' => w'.cell? ⟨b, o + k * 6 + 3, none⟩ = some (.int .i64 rco) ∧ w'.cell? ⟨b, o + k * 6 + 4, none⟩ = some (.int .u64 rva) ∧ w'.cell? ⟨b, o + k * 6 + 5, none⟩ = some (.slice nA dn nc) ∧ w'.cell? ⟨g17, 40, none⟩ = some (.int .i64 rco) ∧ w'.cell? ⟨g17, 39, none⟩ = some (.int .u64 rva) ∧ w'.cell? ⟨g17, 36, none⟩ = some (.slice vA dn vk))) (by kernel_rfl) ?_ (fun hHeld => ?_)
       ·exact ⟨e3, e4, e5, q40, q39, q36⟩
       refine takeA 0 ?_
       try simp only [Act.put, pS]
       refine takeA 1 ?_
       try simp only [Act.put, pS]
       refine takeA 2 ?_
       try simp only [Act.put, pS]
       refine takeA 3 ?_
       try simp only [Act.put, pS]
       refine takeA 4 ?_
       try simp only [Act.put, pS]
       refine takeA 5 ?_
       try simp only [Act.put, pS]
       refine takeA 6 ?_
       try simp only [Act.put, pS]
       refine takeA 7 ?_
       try simp only [Act.put, pS]
       refine takeA 8 ?_
       try simp only [Act.put, pS]
       refine takeA 9 ?_
       try simp only [Act.put, pS]
       refine takeA 10 ?_
       try simp only [Act.put, pS]
       refine takeA 11 ?_
       try simp only [Act.put, pS]
       refine takeA 12 ?_
       try simp only [Act.put, pS]
       refine takeA 13 ?_
       try simp only [Act.put, pS]
       refine takeA 14 ?_
       try simp only [Act.put, pS]
       refine takeA 15 ?_
       try simp only [Act.put, pS]
       refine takeA 16 ?_
       try simp only [Act.put, pS]
       refine takeA 17 ?_
       try simp only [Act.put, pS]
       refine takeA 18 ?_
       try simp only [Act.put, pS]
       refine takeA 19 ?_
       try simp only [Act.put, pS]
       refine takeA 20 ?_
       try simp only [Act.put, pS]
       refine takeA 21 ?_
       try simp only [Act.put, pS]
       refine takeA 22 ?_
       try simp only [Act.put, pS]
       refine takeA 23 ?_
       try simp only [Act.put, pS]
       refine takeA 24 ?_
       try simp only [Act.put, pS]
       refine takeA 25 ?_
       try simp only [Act.put, pS]
       refine takeA 26 ?_
       try simp only [Act.put, pS]
       refine takeA 27 ?_
       try simp only [Act.put, pS]
       refine takeA 28 ?_
       try simp only [Act.put, pS]
       refine takeA 29 ?_
       try simp only [Act.put, pS]
       refine takeA 30 ?_
       try simp only [Act.put, pS]
       refine takeA 31 ?_
       try simp only [Act.put, pS]
       refine wpAnyH_done (by kernel_rfl) ?_ _
       try simp only [Act.put, pS]
       obtain ⟨V15, hV0⟩ : ∃ V0, W9.drew = V0 := ⟨_, rfl⟩
       have HC : Hid (Bk V15 w.heap.size 44 #[.int .i64 c.T, .int .i64 c.B, .int .i64 c.W, .int .i64 c.F, .int .u64 c.fi, .int .u64 c.la]) := by show Bk _ _ _ _; rw [← hV0]; exact HC.out
       have HZ : Hid (Bk V15 (w.heap.size + 1) 53 zeroSt) := by show Bk _ _ _ _; rw [← hV0]; exact HZ.out
       have HS : Hid (Bk V15 (w.heap.size + 1 + 1) 53 (stV roots5 bv5).toArray) := by show Bk _ _ _ _; rw [← hV0]; exact HS.out
       have H17 : Hid (BkC V15 g17 c5) := by show BkC _ _ _; rw [← hV0]; exact H17.out.drew
       have HST : Hid (StR V15 roots5 bv5 (afterP s D)) := by show StR _ _ _ _; rw [← hV0]; exact HST.out.drew
       have HB : Hid (Below w.heap.size w V15) := by show Below _ _ _; rw [← hV0]; exact HB.out.drew
       have q40' : V15.cell? ⟨g17, 40, none⟩ = some (.int .i64 rco) := by rw [← hV0]; exact q40
       have q36' : V15.cell? ⟨g17, 36, none⟩ = some (.slice vA dn vk) := by rw [← hV0]; exact q36
       rw [hV0]
       clear hV0 hHeld e3 e4 e5 q40 q39 q36
       clear g1 g2 g3
       have q40 := q40'
       have q36 := q36'
       clear q40' q36'
       have qR := HC.out.range
       have qB : V15.cell? ⟨w.heap.size, 1, none⟩ = some (.int .i64 c.B) := HC.out.cell 1
       by_cases h43 : rco = 43
       case neg =>
        have g43 : (rco == 43) = false := beq_eq_false_iff_ne.2 h43
        have HG2 : Hid (replayGo c ps recs (rows.drop (k + 1)) (afterP s D) (k + 1) = RES) := by
         show _ = _
         have hb0 : badRun c s X D = 0 := by rw [HBad.out, if_neg (by simp), if_neg (fun h => h43 h.1)]
         rw [← hg, if_neg (by rw [hb0]; simp)]
        clear hg h43
        clear HP HPk HRk HOk HLen HLR0 HG HOK HRow HNr HNl HXu HXr HXn HR HArg HD HNV HNC HNW HGq HNI HLV HBad HDN HRN hHeld
        go_upto_region 17 with fail
        refine wp_region_held_drew (S := (fun w' => w'.cell? ⟨g17, 40, none⟩ = some (.int .i64 rco) ∧ w'.cell? ⟨g17, 36, none⟩ = some (.slice vA dn vk) ∧ w'.rangeAt w.heap.size 0 (#[.int .i64 c.T, .int .i64 c.B, .int .i64 c.W, .int .i64 c.F, .int .u64 c.fi, .int .u64 c.la] : Array Value).toList ∧ w'.cell? ⟨w.heap.size, 1, none⟩ = some (.int .i64 c.B))) (by kernel_rfl) ?_ (fun hHeld => ?_)
        ·exact ⟨q40, q36, qR, qB⟩
        refine takeA 0 ?_
        try simp only [Act.put, pS]
        refine takeA 1 ?_
        try simp only [Act.put, pS]
        refine takeA 2 ?_
        try simp only [Act.put, pS]
        refine takeA 3 ?_
        try simp only [Act.put, pS]
        refine skipA 4 ?_
        try simp only [Act.put, pS]
        refine skipA 5 ?_
        try simp only [Act.put, pS]
        refine skipA 6 ?_
        try simp only [Act.put, pS]
        refine skipA 7 ?_
        try simp only [Act.put, pS]
        refine skipA 8 ?_
        try simp only [Act.put, pS]
        refine skipA 9 ?_
        try simp only [Act.put, pS]
        refine skipA 10 ?_
        try simp only [Act.put, pS]
        refine skipA 11 ?_
        try simp only [Act.put, pS]
        refine skipA 12 ?_
        try simp only [Act.put, pS]
        refine skipA 13 ?_
        try simp only [Act.put, pS]
        refine skipA 14 ?_
        try simp only [Act.put, pS]
        refine takeA 15 ?_
        try simp only [Act.put, pS]
        refine wpAnyH_done (by kernel_rfl) ?_ _
        try simp only [Act.put, pS]
        obtain ⟨V17, hV0⟩ : ∃ V0, V15.drew = V0 := ⟨_, rfl⟩
        have HC : Hid (Bk V17 w.heap.size 44 #[.int .i64 c.T, .int .i64 c.B, .int .i64 c.W, .int .i64 c.F, .int .u64 c.fi, .int .u64 c.la]) := by show Bk _ _ _ _; rw [← hV0]; exact HC.out
        have HZ : Hid (Bk V17 (w.heap.size + 1) 53 zeroSt) := by show Bk _ _ _ _; rw [← hV0]; exact HZ.out
        have HS : Hid (Bk V17 (w.heap.size + 1 + 1) 53 (stV roots5 bv5).toArray) := by show Bk _ _ _ _; rw [← hV0]; exact HS.out
        have H17 : Hid (BkC V17 g17 c5) := by show BkC _ _ _; rw [← hV0]; exact H17.out.drew
        have HST : Hid (StR V17 roots5 bv5 (afterP s D)) := by show StR _ _ _ _; rw [← hV0]; exact HST.out.drew
        have HB : Hid (Below w.heap.size w V17) := by show Below _ _ _; rw [← hV0]; exact HB.out.drew
        clear qR qB
        rw [hV0]
        clear hV0 hHeld q40 q36
        have HPK := Lib.hid (show (replayGo c ps recs (rows.drop (k + 1)) (afterP s D) (k + 1) = RES) ∧ (StR V17 roots5 bv5 (afterP s D)) ∧ (SlIn (fun b => b ∉ [w.heap.size, w.heap.size + 1, w.heap.size + 1 + 1]) bv5) ∧ (SOk (afterP s D)) ∧ (Bk V17 w.heap.size 44 #[.int .i64 c.T, .int .i64 c.B, .int .i64 c.W, .int .i64 c.F, .int .u64 c.fi, .int .u64 c.la]) ∧ (Bk V17 (w.heap.size + 1) 53 zeroSt) ∧ (Bk V17 (w.heap.size + 1 + 1) 53 (stV roots5 bv5).toArray) ∧ (Below w.heap.size w V17) from ⟨HG2.out, HST.out, HNI5.out, HSO.out, HC.out, HZ.out, HS.out, HB.out⟩)
        clear HLIM HRt HNI5 HSO HST HC HZ HS H17 HB HLR HE40 HE36 HG2
        go_wp2_with (go_roundw
                     case rel => exact ⟨k + 1, afterP s D, roots5, bv5, ⟨by omega, by go_num⟩, HPK.out⟩
                     case measure => simp [intOf]; omega)
       case pos =>
       subst h43
       have hl65 := live_le s
       have hlv := HLV.out
       have hdn := HRN.out
       have hlm := HRt.out.bounds.lim
       have hw1 : IntKind.i64.wrap ((xn : Int) + (dn : Int)) = (xn : Int) + (dn : Int) := by rw [IntKind.wrap_i64]; omega
       have hw2 : IntKind.i64.wrap ((xn : Int) + (dn : Int) + c.lim) = (xn : Int) + (dn : Int) + c.lim := by rw [IntKind.wrap_i64]; omega
       have HBad2 : Hid (badRun c s X D = if (xn : Int) + dn + c.lim < c.B then 43 else 0) := by
        show _ = _
        rw [HBad.out, if_neg (by simp), hlv]
        simp
       clear hl65 hdn hlm hlv
       by_cases hbd : (xn : Int) + (dn : Int) + c.lim < c.B
       case pos =>
        have gb : decide ((xn : Int) + (dn : Int) + c.lim < c.B) = true := decide_eq_true hbd
        have HE := Lib.hid (show RES = (none, k, 43) by rw [← hg, HBad2.out, if_pos hbd]; rfl)
        clear hg hbd
        clear HP HPk HRk HOk HLen HLR0 HG HOK HRow HNr HNl HXu HXr HXn HR HArg HD HNV HNC HNW HGq HNI HLV HBad HDN HRN hHeld HBad2
        go_upto_region 17 with fail
        refine wp_region_held_drew (S := (fun w' => w'.cell? ⟨g17, 40, none⟩ = some (.int .i64 43) ∧ w'.cell? ⟨g17, 36, none⟩ = some (.slice vA dn vk) ∧ w'.rangeAt w.heap.size 0 (#[.int .i64 c.T, .int .i64 c.B, .int .i64 c.W, .int .i64 c.F, .int .u64 c.fi, .int .u64 c.la] : Array Value).toList ∧ w'.cell? ⟨w.heap.size, 1, none⟩ = some (.int .i64 c.B))) (by kernel_rfl) ?_ (fun hHeld => ?_)
        ·exact ⟨q40, q36, qR, qB⟩
        refine takeA 0 ?_
        try simp only [Act.put, pS]
        refine takeA 1 ?_
        try simp only [Act.put, pS]
        refine takeA 2 ?_
        try simp only [Act.put, pS]
        refine takeA 3 ?_
        try simp only [Act.put, pS]
        refine takeA 4 ?_
        try simp only [Act.put, pS]
        refine takeA 5 ?_
        try simp only [Act.put, pS]
        refine takeA 6 ?_
        try simp only [Act.put, pS]
        refine takeA 7 ?_
        try simp only [Act.put, pS]
        refine takeA 8 ?_
        try simp only [Act.put, pS]
        refine loadH 9 rfl rfl rfl (by kernel_rfl) (by kernel_rfl) (by kernel_rfl) (fun _ _ _ _ _ h => h) (by rfl) (by assumption) rfl #[.int .i64 c.T, .int .i64 c.B, .int .i64 c.W, .int .i64 c.F, .int .u64 c.fi, .int .u64 c.la] Try.underlying44 rfl (by kernel_rfl) ?_ ?_
        ·(intro w hSw; exact hSw.2.2.1)
        try simp only [Act.put, pS]
        refine takeA 12 ?_
        try simp only [Act.put, pS]
        refine takeA 13 ?_
        try simp only [Act.put, pS]
        obtain ⟨V16, hV0⟩ : ∃ V0, V15.drew = V0 := ⟨_, rfl⟩
        have HC : Hid (Bk V16 w.heap.size 44 #[.int .i64 c.T, .int .i64 c.B, .int .i64 c.W, .int .i64 c.F, .int .u64 c.fi, .int .u64 c.la]) := by show Bk _ _ _ _; rw [← hV0]; exact HC.out
        have HZ : Hid (Bk V16 (w.heap.size + 1) 53 zeroSt) := by show Bk _ _ _ _; rw [← hV0]; exact HZ.out
        have HS : Hid (Bk V16 (w.heap.size + 1 + 1) 53 (stV roots5 bv5).toArray) := by show Bk _ _ _ _; rw [← hV0]; exact HS.out
        have H17 : Hid (BkC V16 g17 c5) := by show BkC _ _ _; rw [← hV0]; exact H17.out.drew
        have HST : Hid (StR V16 roots5 bv5 (afterP s D)) := by show StR _ _ _ _; rw [← hV0]; exact HST.out.drew
        have HB : Hid (Below w.heap.size w V16) := by show Below _ _ _; rw [← hV0]; exact HB.out.drew
        have qR' : V16.rangeAt w.heap.size 0 (#[.int .i64 c.T, .int .i64 c.B, .int .i64 c.W, .int .i64 c.F, .int .u64 c.fi, .int .u64 c.la] : Array Value).toList := HC.out.range
        rw [hV0] at hHeld ⊢
        clear hV0 q40 q36 qR qB qR'
        refine comeH 10 rfl rfl rfl rfl (by kernel_rfl) (by rfl) (fun K hK => ?_)
        go_simp
        refine (HLIM.out HRt.out _).mono ?_
        rintro e wl ⟨rfl, hbl⟩
        have HC := Lib.hid (HC.out.below hbl HC.out.lt)
        have HZ := Lib.hid (HZ.out.below hbl HZ.out.lt)
        have HS := Lib.hid (HS.out.below hbl HS.out.lt)
        have H17 := Lib.hid (H17.out.below hbl)
        have HST := Lib.hid (HST.out.below hbl)
        have HB := Lib.hid (HB.out.trans (hbl.mono HB.out.size))
        clear hbl
        go_simp
        refine hK.out _ _ ?_ (fun hHeld => ?_)
        ·exact ⟨H17.out.err.trans (by rw [HE40.out]), H17.out.nv.trans (by rw [HE36.out]), HC.out.range, HC.out.cell 1⟩
        clear hK K
        try simp only [Act.put, pS]
        refine takeA 11 ?_
        try simp only [Act.put, pS]
        refine takeA 14 ?_
        try simp only [Act.put, pS]
        refine takeA 15 ?_
        try simp only [Act.put, pS]
        refine wpAnyH_done (by kernel_rfl) ?_ _
        try simp only [Act.put, pS]
        clear hHeld
        have HPK := Lib.hid (show (replayP c ps recs rows = (none, k, 43)) ∧ (roots5.length = 16) ∧ (StR wl roots5 bv5 (afterP s D)) ∧ (Bk wl (w.heap.size + 1 + 1) 53 (stV roots5 bv5).toArray) ∧ (Bk wl (w.heap.size + 1) 53 zeroSt) ∧ (Below w.heap.size w wl) from ⟨HRES.out.trans HE.out, HLR.out, HST.out, HS.out, HZ.out, HB.out⟩)
        clear HLIM HRt HNI5 HSO HST HC HZ HS H17 HB HLR HE40 HE36 HE HRES
        go_upto_region 18 with fail
        go_wp2_with (first
         | (refine wpList_load_row (by rfl) 53 (.tmp 11) (by rfl) (w.heap.size + 1 + 1) (by rfl) 53 (stV roots5 bv5).toArray (0, 0) _ (by exact HPK.out.2.2.2.1) Try.underlying53 (by rfl) (by rw [stV_len HPK.out.2.1]; exact info_st17) ?_)
         | (refine wpList_store_row (by rfl) 53 (.tmp 8) (.tmp 131) (by rfl) (w.heap.size + 1) (stV roots5 bv5).toArray (by rfl) (by rfl) 53 zeroSt (by exact HPK.out.2.2.2.2.1) (by rw [stV_len HPK.out.2.1]; exact info_st17) (by rw [stV_len HPK.out.2.1]; rfl) (by exact HPK.out.2.2.1.one) ?_)
         | (with_reducible show bodyPost _ _ _ _ _ _
            refine bodyPost_ret (results_ctt rfl _ _ (w.heap.size + 1) 53 (stV roots5 bv5).toArray _ (by rfl) (HPK.out.2.2.2.2.1.setRow _) Try.underlying53 rfl (by rw [stV_len HPK.out.2.1]; exact info_st17)) rfl ?_
            have hb9 := lbelow_setRow HPK.out.2.2.2.2.2 (show w.heap.size ≤ w.heap.size + 1 by omega) (stV roots5 bv5).toArray
            rw [HPK.out.1]
            exact ⟨_, _, rfl, HPK.out.2.1, by obtain ⟨A, n, k, l, e, _, _⟩ := HPK.out.2.2.1.box; exact ⟨A, n, k, e⟩, fun s hs => (by simp at hs), hb9⟩))
       case neg =>
        have gb : decide ((xn : Int) + (dn : Int) + c.lim < c.B) = false := decide_eq_false hbd
        have HG2 : Hid (replayGo c ps recs (rows.drop (k + 1)) (afterP s D) (k + 1) = RES) := by
         show _ = _
         rw [← hg, if_neg (by rw [HBad2.out, if_neg hbd]; simp)]
        clear hg hbd
        clear HP HPk HRk HOk HLen HLR0 HG HOK HRow HNr HNl HXu HXr HXn HR HArg HD HNV HNC HNW HGq HNI HLV HBad HDN HRN hHeld HBad2
        go_upto_region 17 with fail
        refine wp_region_held_drew (S := (fun w' => w'.cell? ⟨g17, 40, none⟩ = some (.int .i64 43) ∧ w'.cell? ⟨g17, 36, none⟩ = some (.slice vA dn vk) ∧ w'.rangeAt w.heap.size 0 (#[.int .i64 c.T, .int .i64 c.B, .int .i64 c.W, .int .i64 c.F, .int .u64 c.fi, .int .u64 c.la] : Array Value).toList ∧ w'.cell? ⟨w.heap.size, 1, none⟩ = some (.int .i64 c.B))) (by kernel_rfl) ?_ (fun hHeld => ?_)
        ·exact ⟨q40, q36, qR, qB⟩
        refine takeA 0 ?_
        try simp only [Act.put, pS]
        refine takeA 1 ?_
        try simp only [Act.put, pS]
        refine takeA 2 ?_
        try simp only [Act.put, pS]
        refine takeA 3 ?_
        try simp only [Act.put, pS]
        refine takeA 4 ?_
        try simp only [Act.put, pS]
        refine takeA 5 ?_
        try simp only [Act.put, pS]
        refine takeA 6 ?_
        try simp only [Act.put, pS]
        refine takeA 7 ?_
        try simp only [Act.put, pS]
        refine takeA 8 ?_
        try simp only [Act.put, pS]
        refine loadH 9 rfl rfl rfl (by kernel_rfl) (by kernel_rfl) (by kernel_rfl) (fun _ _ _ _ _ h => h) (by rfl) (by assumption) rfl #[.int .i64 c.T, .int .i64 c.B, .int .i64 c.W, .int .i64 c.F, .int .u64 c.fi, .int .u64 c.la] Try.underlying44 rfl (by kernel_rfl) ?_ ?_
        ·(intro w hSw; exact hSw.2.2.1)
        try simp only [Act.put, pS]
        refine takeA 12 ?_
        try simp only [Act.put, pS]
        refine takeA 13 ?_
        try simp only [Act.put, pS]
        obtain ⟨V16, hV0⟩ : ∃ V0, V15.drew = V0 := ⟨_, rfl⟩
        have HC : Hid (Bk V16 w.heap.size 44 #[.int .i64 c.T, .int .i64 c.B, .int .i64 c.W, .int .i64 c.F, .int .u64 c.fi, .int .u64 c.la]) := by show Bk _ _ _ _; rw [← hV0]; exact HC.out
        have HZ : Hid (Bk V16 (w.heap.size + 1) 53 zeroSt) := by show Bk _ _ _ _; rw [← hV0]; exact HZ.out
        have HS : Hid (Bk V16 (w.heap.size + 1 + 1) 53 (stV roots5 bv5).toArray) := by show Bk _ _ _ _; rw [← hV0]; exact HS.out
        have H17 : Hid (BkC V16 g17 c5) := by show BkC _ _ _; rw [← hV0]; exact H17.out.drew
        have HST : Hid (StR V16 roots5 bv5 (afterP s D)) := by show StR _ _ _ _; rw [← hV0]; exact HST.out.drew
        have HB : Hid (Below w.heap.size w V16) := by show Below _ _ _; rw [← hV0]; exact HB.out.drew
        have qR' : V16.rangeAt w.heap.size 0 (#[.int .i64 c.T, .int .i64 c.B, .int .i64 c.W, .int .i64 c.F, .int .u64 c.fi, .int .u64 c.la] : Array Value).toList := HC.out.range
        rw [hV0] at hHeld ⊢
        clear hV0 q40 q36 qR qB qR'
        refine comeH 10 rfl rfl rfl rfl (by kernel_rfl) (by rfl) (fun K hK => ?_)
        go_simp
        refine (HLIM.out HRt.out _).mono ?_
        rintro e wl ⟨rfl, hbl⟩
        have HC := Lib.hid (HC.out.below hbl HC.out.lt)
        have HZ := Lib.hid (HZ.out.below hbl HZ.out.lt)
        have HS := Lib.hid (HS.out.below hbl HS.out.lt)
        have H17 := Lib.hid (H17.out.below hbl)
        have HST := Lib.hid (HST.out.below hbl)
        have HB := Lib.hid (HB.out.trans (hbl.mono HB.out.size))
        clear hbl
        go_simp
        refine hK.out _ _ ?_ (fun hHeld => ?_)
        ·exact ⟨H17.out.err.trans (by rw [HE40.out]), H17.out.nv.trans (by rw [HE36.out]), HC.out.range, HC.out.cell 1⟩
        clear hK K
        try simp only [Act.put, pS]
        refine takeA 11 ?_
        try simp only [Act.put, pS]
        refine takeA 14 ?_
        try simp only [Act.put, pS]
        refine takeA 15 ?_
        try simp only [Act.put, pS]
        refine wpAnyH_done (by kernel_rfl) ?_ _
        try simp only [Act.put, pS]
        clear hHeld
        have HPK := Lib.hid (show (replayGo c ps recs (rows.drop (k + 1)) (afterP s D) (k + 1) = RES) ∧ (StR wl roots5 bv5 (afterP s D)) ∧ (SlIn (fun b => b ∉ [w.heap.size, w.heap.size + 1, w.heap.size + 1 + 1]) bv5) ∧ (SOk (afterP s D)) ∧ (Bk wl w.heap.size 44 #[.int .i64 c.T, .int .i64 c.B, .int .i64 c.W, .int .i64 c.F, .int .u64 c.fi, .int .u64 c.la]) ∧ (Bk wl (w.heap.size + 1) 53 zeroSt) ∧ (Bk wl (w.heap.size + 1 + 1) 53 (stV roots5 bv5).toArray) ∧ (Below w.heap.size w wl) from ⟨HG2.out, HST.out, HNI5.out, HSO.out, HC.out, HZ.out, HS.out, HB.out⟩)
        clear HLIM HRt HNI5 HSO HST HC HZ HS H17 HB HLR HE40 HE36 HG2
        go_wp2_with (go_roundw
                     case rel => exact ⟨k + 1, afterP s D, roots5, bv5, ⟨by omega, by go_num⟩, HPK.out⟩
                     case measure => simp [intOf]; omega)
end Go.Proofs.Ytjggmimaolddkaa
