import Derived.Test.YtjggmimaolddkaaOrBF
import Derived.Test.YtjggmimaolddkaaOrAT
import Derived.Test.YtjggmimaolddkaaOrBQ
import Derived.Test.YtjggmimaolddkaaOrAR
namespace Go.Proofs.Ytjggmimaolddkaa
open Go.RowKit
set_option linter.unusedVariables false
set_option linter.unusedSimpArgs false
set_option maxRecDepth 100000 in
set_option maxHeartbeats 16000000 in
theorem rplay_any (s : MSt) (roots : List Int) (xA : Option Addr) (xn xk : Nat) (l : List Ins) (A : Option Addr) (n k : Nat) (args : List Int) (fuel maxw : Int) (pA : Option Addr) (pk : Nat) (pick : List Int) (w : World)
 (hst : StR w roots (.slice xA xn xk) s) (hso : SOk s) (hI : RdI w w.heap.size A n l) (hnk : n ≤ k) (hok : ∀ i ∈ l, i.Ok) (h4 : args.length = 4) (ha : ∀ x ∈ args, U64 x) (hfu : 0 ≤ fuel ∧ fuel ≤ 1000000) (hmw : 0 ≤ maxw ∧ maxw ≤ 1000000)
 (hP : RdU w w.heap.size pA pick.length pick) (hpk : pick.length ≤ pk) (hpu : ∀ x ∈ pick, U64 x) (hpl : pick.length ≤ 1000) (S : Nat → Prop) (hsb : SlIn S (.slice xA xn xk)) (hsp : SlIn S (.slice pA pick.length pk)) (hSl : ∀ b, S b → b < w.heap.size) :
 Calls Try.prog 26 #[.agg (stV roots (.slice xA xn xk)).toArray, .slice A n k, .agg (u64s args).toArray, .int .i64 fuel, .int .i64 maxw, .slice pA pick.length pk] w (PlayP S s (runP s l args fuel maxw pick) w) := by
 obtain ⟨bA, bn, bk, lx, hbv, hX, hBX⟩ := hst.box
 injection hbv with e1 e2 e3
 subst e1 e2 e3
 have HST := Lib.hid hst
 have HSO := Lib.hid hso
 have HRI := Lib.hid hI
 have HOK := Lib.hid hok
 have H4 := Lib.hid h4
 have HAU := Lib.hid ha
 have HP := Lib.hid hP
 have HPK := Lib.hid hpk
 have HPU := Lib.hid hpu
 have HPL := Lib.hid hpl
 have HSB := Lib.hid hsb
 have HSP := Lib.hid hsp
 have HSL := Lib.hid hSl
 have HNK := Lib.hid hnk
 have HMW := Lib.hid hmw
 have HFU := Lib.hid hfu
 have HLR : Hid (roots.length = 16) := by show _ = 16; rw [hst.roots]; exact hst.len
 have HV0 := Lib.hid (start_rv hst hP hpk)
 have hc0s : ∃ c0 : RR, rr0 roots (.slice xA xn xk) (.slice pA pick.length pk) = c0 := ⟨_, rfl⟩
 obtain ⟨c0, hc0⟩ := hc0s
 have HBU := Lib.hid (built_run HLR.out xA pA xn xk pick.length pk)
 rw [hc0] at HV0 HBU
 have HC0 := Lib.hid hc0
 have HS0 : Hid (SIn S c0) := by
  show SIn _ _
  rw [← hc0]
  exact ⟨hsb, fun a n k e hn => (by injection e with e _ _; cases e), hsp⟩
 obtain ⟨CA, hCA⟩ : ∃ CA, (u64s args).toArray = CA := ⟨_, rfl⟩
 have hCA4 : CA.size = 4 := by rw [← hCA, List.size_toArray, List.length_map, h4]
 obtain ⟨M, hM⟩ : ∃ M, (stV roots (.slice xA xn xk)).toArray = M := ⟨_, rfl⟩
 have HMM := Lib.hid hM
 obtain ⟨pn, hpn⟩ : ∃ pn, pick.length = pn := ⟨_, rfl⟩
 have HPN := Lib.hid hpn
 rw [hM, hCA, hpn]
 obtain ⟨W1, hW1⟩ : ∃ W1, (((w.alloc (.cells M 53)).alloc (.cells CA 37)).alloc (.cells #[.int .u64 0, .int .u64 0, .int .u64 0, .int .u64 0, .int .u64 0, .int .u64 0, .int .u64 0, .int .u64 0, .int .u64 0, .int .u64 0, .int .u64 0, .int .u64 0, .int .u64 0, .int .u64 0, .int .u64 0, .int .u64 0, .slice none 0 0] 53)).alloc (.cells #[.int .u64 0, .int .u64 0, .int .u64 0, .int .u64 0, .int .u64 0, .int .u64 0, .int .u64 0, .int .u64 0, .int .u64 0, .int .u64 0, .int .u64 0, .int .u64 0, .int .u64 0, .int .u64 0, .int .u64 0, .int .u64 0, .slice none 0 0, .int .i64 0, .int .u64 0, .int .u64 0, .int .u64 0, .int .u64 0, .int .u64 0, .int .u64 0, .int .u64 0, .int .u64 0, .int .u64 0, .int .u64 0, .int .u64 0, .int .u64 0, .int .u64 0, .int .u64 0, .int .u64 0, .int .u64 0, .int .i64 0, .int .i64 0, .slice none 0 0, .slice none 0 0, .bool false, .int .u64 0, .int .i64 0] 87) = W1 := ⟨_, rfl⟩
 have HB : Hid (Below w.heap.size w W1) := by show Below _ _ _; rw [← hW1]; exact ((((Below.refl _ _).alloc (Nat.le_refl _) _).alloc (by simp) _).alloc (by simp; omega) _).alloc (by simp; omega) _
 have HS : Hid (Bk W1 w.heap.size 53 M) := by show Bk _ _ _ _; rw [← hW1]; exact (((Bk.new w _ _).alloc _).alloc _).alloc _
 have HAg : Hid (Bk W1 (w.heap.size + 1) 37 CA) := by show Bk _ _ _ _; rw [← hW1]; exact ((rf_new1 _ (by simp) _ _).alloc _).alloc _
 have HZ2 : Hid (Bk W1 (w.heap.size + 1 + 1) 53 zeroSt) := by show Bk _ _ _ _; rw [← hW1]; exact (rf_new1 _ (by simp) _ _).alloc _
 have HZ3 : Hid (Bk W1 (w.heap.size + 1 + 1 + 1) 87 zero41) := by show Bk _ _ _ _; rw [← hW1]; exact rf_new1 _ (by simp) _ _
 have HSz : Hid (W1.heap.size = w.heap.size + 1 + 1 + 1 + 1) := by show _ = _; rw [← hW1]; simp
 have HW1 := Lib.hid hW1
 have HM17 : Hid (M.size = 17) := by show _ = _; rw [← hM]; exact stV_len HLR.out _
 have HCA := Lib.hid hCA
 have HA4 := Lib.hid hCA4
 clear hst hso hI hok h4 ha hP hpk hpu hpl hsb hsp hSl hnk hc0 hCA hM hpn hW1 hX hBX hCA4
 go_enter Try.func26, Try.ntmps26
 go_upto_region 1 with fail
 rw [HW1.out]
 clear HW1
 have HZa : Hid (Bk (W1.alloc (.cells #[.int .u64 0, .int .u64 0, .int .u64 0, .int .u64 0, .int .u64 0, .int .u64 0, .int .u64 0, .int .u64 0, .int .u64 0, .int .u64 0, .int .u64 0, .int .u64 0, .int .u64 0, .int .u64 0, .int .u64 0, .int .u64 0, .slice none 0 0, .int .i64 0, .int .u64 0, .int .u64 0, .int .u64 0, .int .u64 0, .int .u64 0, .int .u64 0, .int .u64 0, .int .u64 0, .int .u64 0, .int .u64 0, .int .u64 0, .int .u64 0, .int .u64 0, .int .u64 0, .int .u64 0, .int .u64 0, .int .i64 0, .int .i64 0, .slice none 0 0, .slice none 0 0, .bool false, .int .u64 0, .int .i64 0] 87)) W1.heap.size 87 zero41) := Bk.new _ _ _
 have hbu : Try.prog.built RUN [(0, .agg M), (6, .slice pA pn pk)] = some c0.cells.toArray := by rw [← HMM.out, ← HPN.out]; exact HBU.out
 have hi17 : (Try.prog.info? 53).map (·.size) = some M.size := by rw [HM17.out]; exact info_st17
 have HO0 := Lib.hid HV0.out.ones
 go_upto_region 2 with (first
  | (refine wpList_load_row (by rfl) 53 (.tmp 6) (by rfl) w.heap.size (by rfl) 53 M (0, 0) _ HS.out Try.underlying53 (by rfl) hi17 ?_)
  | (refine wpList_built (by rfl) 87 #[(0, .tmp 15), (6, .tmp 16)] (by rfl) [(0, .agg M), (6, .slice pA pn pk)] (by rfl) c0.cells.toArray hbu ?_)
  | (refine wpList_store_row (by rfl) 87 (.tmp 14) (.tmp 17) (by rfl) W1.heap.size c0.cells.toArray (by rfl) (by rfl) 87 zero41 HZa.out (info_run17 HV0.out.sz) (zero41_size HV0.out.sz) HO0.out ?_))
 obtain ⟨W2, hW2⟩ : ∃ W2, (W1.alloc (.cells #[.int .u64 0, .int .u64 0, .int .u64 0, .int .u64 0, .int .u64 0, .int .u64 0, .int .u64 0, .int .u64 0, .int .u64 0, .int .u64 0, .int .u64 0, .int .u64 0, .int .u64 0, .int .u64 0, .int .u64 0, .int .u64 0, .slice none 0 0, .int .i64 0, .int .u64 0, .int .u64 0, .int .u64 0, .int .u64 0, .int .u64 0, .int .u64 0, .int .u64 0, .int .u64 0, .int .u64 0, .int .u64 0, .int .u64 0, .int .u64 0, .int .u64 0, .int .u64 0, .int .u64 0, .int .u64 0, .int .i64 0, .int .i64 0, .slice none 0 0, .slice none 0 0, .bool false, .int .u64 0, .int .i64 0] 87)).setRow W1.heap.size c0.cells.toArray = W2 := ⟨_, rfl⟩
 have hsz := HSz.out
 have HK' : Hid (BkC W2 (w.heap.size + 1 + 1 + 1 + 1) c0) := by show BkC _ _ _; rw [← hW2, ← hsz]; exact ⟨HZa.out.setRow _, HV0.out.sz⟩
 have HB' : Hid (Below w.heap.size w W2) := by show Below _ _ _; rw [← hW2]; exact lbelow_setRow (HB.out.alloc HB.out.size _) HB.out.size _
 have HS' : Hid (Bk W2 w.heap.size 53 M) := by show Bk _ _ _ _; rw [← hW2]; exact (HS.out.alloc _).setRow_ne (by omega) _
 have HAg' : Hid (Bk W2 (w.heap.size + 1) 37 CA) := by show Bk _ _ _ _; rw [← hW2]; exact (HAg.out.alloc _).setRow_ne (by omega) _
 have HZ2' : Hid (Bk W2 (w.heap.size + 1 + 1) 53 zeroSt) := by show Bk _ _ _ _; rw [← hW2]; exact (HZ2.out.alloc _).setRow_ne (by omega) _
 have HZ3' : Hid (Bk W2 (w.heap.size + 1 + 1 + 1) 87 zero41) := by show Bk _ _ _ _; rw [← hW2]; exact (HZ3.out.alloc _).setRow_ne (by omega) _
 try rw [hW2]
 rw [hsz]
 clear hsz hW2 hbu hi17 HO0 HZa HSz HB HS HAg HZ2 HZ3
 have HK := HK'
 have HB := HB'
 have HS := HS'
 have HAg := HAg'
 have HZ2 := HZ2'
 have HZ3 := HZ3'
 clear HK' HB' HS' HAg' HZ2' HZ3'
 go_wp2_with fail
 refine (rright_any l A n k W2 ((HRI.out.below HB.out).more HB.out.size) HOK.out).mono ?_
 rintro e w3 ⟨rfl, hb3⟩
 have HK' := Lib.hid (HK.out.below hb3)
 have HB' := Lib.hid (HB.out.trans (hb3.mono HB.out.size))
 have HS' := Lib.hid (HS.out.below hb3 HS.out.lt)
 have HAg' := Lib.hid (HAg.out.below hb3 HAg.out.lt)
 have HZ2' := Lib.hid (HZ2.out.below hb3 HZ2.out.lt)
 have HZ3' := Lib.hid (HZ3.out.below hb3 HZ3.out.lt)
 clear hb3 HK HB HS HAg HZ2 HZ3
 have HK := HK'
 have HB := HB'
 have HS := HS'
 have HAg := HAg'
 have HZ2 := HZ2'
 have HZ3 := HZ3'
 clear HK' HB' HS' HAg' HZ2' HZ3'
 cases hr : rightP l with
 | false =>
   have kS := HK.out.err
   have fS := HK.out.bk.frozen 40
   obtain ⟨W4, hW4⟩ : ∃ W4, w3.setCell ⟨w.heap.size + 1 + 1 + 1 + 1, 40, none⟩ (.int .i64 30) = W4 := ⟨_, rfl⟩
   have HK' := Lib.hid (show BkC W4 _ _ by rw [← hW4]; exact HK.out.setE 30)
   have HB' : Hid (Below w.heap.size w W4) := by show Below _ _ _; rw [← hW4]; exact HB.out.setCell (by show w.heap.size ≤ w.heap.size + 1 + 1 + 1 + 1; omega) _
   have HS' : Hid (Bk W4 w.heap.size 53 M) := by show Bk _ _ _ _; rw [← hW4]; exact HS.out.set_ne (by omega) _ _
   have HZ2' : Hid (Bk W4 (w.heap.size + 1 + 1) 53 zeroSt) := by show Bk _ _ _ _; rw [← hW4]; exact HZ2.out.set_ne (by omega) _ _
   have HZ3' : Hid (Bk W4 (w.heap.size + 1 + 1 + 1) 87 zero41) := by show Bk _ _ _ _; rw [← hW4]; exact HZ3.out.set_ne (by omega) _ _
   go_upto_region 4 with fail
   try rw [hW4]
   clear hW4 kS fS HK HB HS HAg HZ2 HZ3
   have HK := HK'
   have HB := HB'
   have HS := HS'
   have HZ2 := HZ2'
   have HZ3 := HZ3'
   clear HK' HB' HS' HZ2' HZ3'
   obtain ⟨ce, hce⟩ : ∃ ce : RR, ({ c0 with e := 30 } : RR) = ce := ⟨_, rfl⟩
   rw [hce] at HK
   have HVe : Hid (RVIn w w.heap.size ce { startP s pick with code := 30 }) := by show RVIn _ _ _ _; rw [← hce]; exact HV0.out.setE 30
   have HSe : Hid (SIn S ce) := by show SIn _ _; rw [← hce]; exact HS0.out.of rfl rfl rfl
   have HSZ := Lib.hid HK.out.sz
   have HS41 : Hid (ce.cells.toArray.size = 41) := by show _ = _; rw [List.size_toArray, RR.len HK.out.sz]
   have HOC := Lib.hid HVe.out.ones
   have HOX : Hid ((stV roots (.slice xA xn xk)).toArray.all (·.oneCell') = true) := stV_one xA xn xk
   rw [← HMM.out] at HS
   clear hce
   refine wp_region_held_drew (S := (fun w' => Bk w' w.heap.size 53 (stV roots (.slice xA xn xk)).toArray ∧ Bk w' (w.heap.size + 1 + 1 + 1 + 1) 87 ce.cells.toArray ∧ (∃ c2, Bk w' (w.heap.size + 1 + 1) 53 c2 ∧ c2.size = 17) ∧ (∃ c3, Bk w' (w.heap.size + 1 + 1 + 1) 87 c3 ∧ c3.size = 41))) (by kernel_rfl) ?_ (fun hHeld => ?_)
   ·exact ⟨HS.out, HK.out.bk, ⟨_, HZ2.out, rfl⟩, ⟨_, HZ3.out, rfl⟩⟩
   refine loadH 0 rfl rfl rfl (by kernel_rfl) (by kernel_rfl) (by kernel_rfl) (fun _ _ _ _ _ h => h) (by rfl) (by assumption) rfl (stV roots (.slice xA xn xk)).toArray Try.underlying53 rfl (by rw [stV_len HLR.out]; exact info_st17) ?_ ?_
   ·(intro w hSw; exact hSw.1.range)
   try simp only [Act.put, pS]
   refine loadH 1 rfl rfl rfl (by kernel_rfl) (by kernel_rfl) (by kernel_rfl) (fun _ _ _ _ _ h => h) (by rfl) (by assumption) rfl ce.cells.toArray Try.underlying87 rfl (info_run17 HSZ.out) ?_ ?_
   ·(intro w hSw; exact hSw.2.1.range)
   try simp only [Act.put, pS]
   obtain ⟨h0, h1, ⟨c2, h2, hz2⟩, ⟨c3, h3, hz3⟩⟩ := hHeld
   refine comeH 2 rfl rfl rfl rfl (by kernel_rfl) (by rfl) (fun K hK => ?_)
   refine wp_store_rowH _ _ 53 _ (.tmp 12) (.tmp 22) (w.heap.size + 1 + 1) (stV roots (.slice xA xn xk)).toArray (by rfl) (by rfl) 53 _ h2 (by rw [stV_len HLR.out]; exact info_st17) (hz2.trans (by rw [stV_len HLR.out])) HOX.out ?_
   refine hK.out _ _ ?_ (fun hHeld2 => ?_)
   ·exact ⟨h0.setRow_ne (by omega) _, h1.setRow_ne (by omega) _, ⟨_, h2.setRow _, by rw [stV_len HLR.out]⟩, ⟨_, h3.setRow_ne (by omega) _, hz3⟩⟩
   clear hK K
   try simp only [Act.put, pS]
   clear h0 h1 h2 hz2 h3 hz3
   obtain ⟨h0, h1, ⟨c2, h2, hz2⟩, ⟨c3, h3, hz3⟩⟩ := hHeld2
   refine comeH 3 rfl rfl rfl rfl (by kernel_rfl) (by rfl) (fun K hK => ?_)
   refine wp_store_rowH _ _ 87 _ (.tmp 13) (.tmp 23) (w.heap.size + 1 + 1 + 1) ce.cells.toArray (by rfl) (by rfl) 87 _ h3 (info_run17 HSZ.out) (hz3.trans HS41.out.symm) HOC.out ?_
   refine hK.out _ _ ?_ (fun hHeld2 => ?_)
   ·exact ⟨h0.setRow_ne (by omega) _, h1.setRow_ne (by omega) _, ⟨_, h2.setRow_ne (by omega) _, hz2⟩, ⟨_, h3.setRow _, HS41.out⟩⟩
   clear hK K
   try simp only [Act.put, pS]
   refine wpAnyH_done (by kernel_rfl) ?_ _
   try simp only [Act.put, pS]
   clear h0 h1 h2 hz2 h3 hz3 hHeld2
   go_wp2_with fail
   refine bodyPost_ret (results_cells rfl _ _ (w.heap.size + 1 + 1) (w.heap.size + 1 + 1 + 1) 53 87 _ ce.cells.toArray _ _ (by rfl) ((HZ2.out.drew.setRow _).setRow_ne (by omega) _) (by rfl) ((HZ3.out.drew.setRow_ne (by omega) _).setRow _) Try.underlying53 rfl (by rw [stV_len HLR.out]; exact info_st17) Try.underlying87 rfl (info_run17 HSZ.out)) rfl ?_
   have hb9 := (lbelow_setRow (lbelow_setRow HB.out.drew (show w.heap.size ≤ w.heap.size + 1 + 1 by omega) ((stV roots (.slice xA xn xk)).toArray)) (show w.heap.size ≤ w.heap.size + 1 + 1 + 1 by omega) (ce.cells.toArray))
   have hD : runP s l args fuel maxw pick = { startP s pick with code := 30 } := by
    unfold runP; rw [hr]; rfl
   rw [hD]
   exact ⟨ce, roots, _, rfl, (HVe.out.below hb9).more hb9.size, HST.out.below hb9, HSe.out.mono fun _ h => Or.inl h, HSB.out.mono fun _ h => Or.inl h, hb9⟩
 | true =>
   have HRT := Lib.hid hr
   clear hr
   obtain ⟨N, hN⟩ : ∃ N : Nat, fuel = (N : Int) := ⟨fuel.toNat, by omega⟩
   have hN6 : N ≤ 1000000 := by omega
   have HNN := Lib.hid hN
   have hm := HMW.out
   have HPl0 : Hid (PlayAt l args maxw N pick.length (startP s pick) (startP s pick)) := .inl ⟨0, start_under HSO.out HPU.out (by omega) HRT.out, rfl, rfl⟩
   have HV1 : Hid (RVIn w3 w3.heap.size c0 (startP s pick)) := (HV0.out.below HB.out).more HB.out.size
   have HS1 : Hid (SIn (fun b => S b ∨ w.heap.size + 1 + 1 + 1 + 1 < b) c0) := HS0.out.mono fun _ h => Or.inl h
   clear hN hm
   go_wp2
   go_loopw [] (fun wr => ∃ (c : RR) (r : MRun), Hid (BkC wr (w.heap.size + 1 + 1 + 1 + 1) c) ∧ Hid (RVIn wr wr.heap.size c r) ∧ Hid (SIn (fun b => S b ∨ w.heap.size + 1 + 1 + 1 + 1 < b) c) ∧ Hid (Bk wr w.heap.size 53 M) ∧ Hid (Bk wr (w.heap.size + 1) 37 CA) ∧ Hid (Bk wr (w.heap.size + 1 + 1) 53 zeroSt) ∧ Hid (Bk wr (w.heap.size + 1 + 1 + 1) 87 zero41) ∧ Hid (Below w.heap.size w wr) ∧ Hid (PlayAt l args maxw N pick.length (startP s pick) r)) (fun wr => runM N wr (w.heap.size + 1 + 1 + 1 + 1))
   case atStart => exact ⟨c0, startP s pick, HK.out, HV1.out, HS1.out, HS.out, HAg.out, HZ2.out, HZ3.out, HB.out, HPl0.out⟩
   case round =>
    obtain ⟨c, r, HK, HV, HSI, HS, HAg, HZ2, HZ3, HB, HPl⟩ := hrel
    clear HPl0 HV1 HS1
    rcases HPl.out with ⟨kk, hu, hen, hval⟩ | ⟨heq, hend⟩
    case inl =>
     have k38 : wr.cell? ⟨w.heap.size + 1 + 1 + 1 + 1, 38, none⟩ = some (.bool false) := HK.out.ended.trans (by rw [HV.out.ended, hen])
     have k40 : wr.cell? ⟨w.heap.size + 1 + 1 + 1 + 1, 40, none⟩ = some (.int .i64 0) := HK.out.err.trans (by rw [HV.out.err, hu.code])
     obtain ⟨p, hp1, hp2⟩ := hu.pc
     have hi : l[r.pc.toNat]? = some (l[p]'hp2) := by rw [hp1, Int.toNat_natCast]; exact List.getElem?_eq_getElem hp2
     obtain ⟨i, hii⟩ : ∃ i, l[p]'hp2 = i := ⟨_, rfl⟩
     rw [hii] at hi
     have hst := hu.steps
     have hn6 := hu.news
     have hkN := hu.le
     obtain ⟨hps1, hps2⟩ := play_step hu hen hval HRT.out HOK.out HAU.out (by omega) HNN.out hi
     have hrun := rstep_any c r i l A n k args fuel maxw wr HV.out ((HRI.out.below HB.out).more HB.out.size) (by rw [hp1]; omega) hi (right_insOk HRT.out HOK.out hi) H4.out hu.ok.regs hu.ok.w0 HMW.out HFU.out (by rw [hst]; omega) hu.ok.pick (by omega) _ (HSI.out.rv HV.out) (fun b hb => hb.2)
     have HRun := Lib.hid hrun
     have HP1 := Lib.hid hps1
     have HP2 := Lib.hid hps2
     have HSK : Hid (0 ≤ r.steps ∧ r.steps ≤ (N : Int)) := by show _ ∧ _; omega
     have HM0 := Lib.hid (runM_on (N := N) HK.out (by rw [HV.out.err, hu.code]) (by rw [HV.out.ended, hen]))
     have HSt := Lib.hid (HV.out.steps)
     have HLt := Lib.hid HK.out.lt
     have HS41 : Hid (c.cells.toArray.size = 41) := by show _ = _; rw [List.size_toArray, RR.len HK.out.sz]
     have hi4 : (Try.prog.info? 37).map (·.size) = some CA.size := by rw [HA4.out]; kernel_rfl
     clear hu hen hval hp1 hi hii hst hn6 hkN hps1 hps2 hrun hp2
     rw [HCA.out] at HRun
     go_upto_region 6 with fail
     go_wp2_with (first
      | (refine wpList_load_row (by rfl) 87 (.tmp 14) (by rfl) (w.heap.size + 1 + 1 + 1 + 1) (by rfl) 87 c.cells.toArray (0, 0) _ HK.out.bk Try.underlying87 (by rfl) (info_run17 HK.out.sz) ?_)
      | (refine wpList_load_row (by rfl) 37 (.tmp 8) (by rfl) (w.heap.size + 1) (by rfl) 37 CA (0, 0) _ HAg.out Try.underlying37 (by rfl) hi4 ?_))
     refine HRun.out.mono ?_
     rintro e w6 ⟨c', rfl, hv', hs', hb'⟩
     have HK' := Lib.hid (HK.out.below hb')
     have HB' := Lib.hid (HB.out.trans (hb'.mono HB.out.size))
     have HS' := Lib.hid (HS.out.below hb' HS.out.lt)
     have HAg' := Lib.hid (HAg.out.below hb' HAg.out.lt)
     have HZ2' := Lib.hid (HZ2.out.below hb' HZ2.out.lt)
     have HZ3' := Lib.hid (HZ3.out.below hb' HZ3.out.lt)
     have HV' := Lib.hid hv'
     have HSi' := Lib.hid hs'
     have HO' := Lib.hid hv'.ones
     clear hv' hs' hb' k38 k40 HK HB HS HAg HZ2 HZ3 hi4 HRun
     have HK := HK'
     have HB := HB'
     have HS := HS'
     have HAg := HAg'
     have HZ2 := HZ2'
     have HZ3 := HZ3'
     clear HK' HB' HS' HAg' HZ2' HZ3'
     go_wp2_with (refine wpList_store_row (by rfl) 87 (.tmp 14) (.tmp 37) (by rfl) (w.heap.size + 1 + 1 + 1 + 1) c'.cells.toArray (by rfl) (by rfl) 87 c.cells.toArray HK.out.bk (info_run17 HV'.out.sz) (HS41.out.trans (by rw [List.size_toArray, RR.len HV'.out.sz])) HO'.out ?_)
     have HKn : Hid (BkC (w6.setRow (w.heap.size + 1 + 1 + 1 + 1) c'.cells.toArray) (w.heap.size + 1 + 1 + 1 + 1) c') := HK.out.setRow HV'.out.sz
     go_roundw
     case rel =>
      (repeat apply Exists.intro)
      refine And.intro ?_ rfl
      refine ⟨c', _, HKn.out, ?_, ?_, HS.out.setRow_ne (by omega) _, HAg.out.setRow_ne (by omega) _, HZ2.out.setRow_ne (by omega) _, HZ3.out.setRow_ne (by omega) _, lbelow_setRow HB.out (by omega) _, HP1.out⟩
      ·refine HV'.out.keepS HSi'.out (fun p hp => ?_) (by simp)
       have hne : p.block ≠ w.heap.size + 1 + 1 + 1 + 1 := by
        have h1 := HLt.out
        rcases hp with ⟨hp | hp, _⟩ | hp
        ·have := HSL.out _ hp; omega
        ·omega
        ·omega
       exact World.cell?_of_block (setRow_other w6 _ _ _ hne)
      ·exact HSi'.out.mono fun b hb => by
        have h1 := HLt.out
        rcases hb with ⟨hb | hb, _⟩ | hb
        ·exact Or.inl hb
        ·exact Or.inr hb
        ·exact Or.inr (by omega)
     case measure =>
      have hM0 := HM0.out
      by_cases hfin : c'.e = 0 ∧ c'.ended = false
      ·obtain ⟨h1, h2⟩ := HP2.out (by rw [← HV'.out.err]; exact hfin.1) (by rw [← HV'.out.ended]; exact hfin.2)
       have h3 := runM_on (N := N) HKn.out hfin.1 hfin.2
       have h4 := HSt.out
       have h5 := HV'.out.steps
       have h6 := HNN.out
       have h7 := HSK.out
       rw [hM0, h3]
       omega
      ·have h3 := runM_off (N := N) HKn.out hfin
       rw [hM0, h3]
       have h4 := HSt.out
       have h6 := HNN.out
       have h7 := HSK.out
       omega
    case inr =>
     have HD : Hid (runP s l args fuel maxw pick = r) := by
      show _ = _
      unfold runP
      rw [if_pos HRT.out, heq, HNN.out, Int.toNat_natCast]
     have HSZ := Lib.hid HV.out.sz
     have HS41 : Hid (c.cells.toArray.size = 41) := by show _ = _; rw [List.size_toArray, RR.len HV.out.sz]
     have HOC := Lib.hid HV.out.ones
     have HSn : Hid (SIn (fun b => S b ∨ w.heap.size ≤ b) c) := HSI.out.mono fun b hb => hb.imp id (by omega)
     have HLt := Lib.hid HK.out.lt
     have HKeep : Hid (∀ (X C : Array Value), RVIn ((wr.drew.setRow (w.heap.size + 1 + 1) X).setRow (w.heap.size + 1 + 1 + 1) C) ((wr.drew.setRow (w.heap.size + 1 + 1) X).setRow (w.heap.size + 1 + 1 + 1) C).heap.size c r) := by
      intro X C
      refine HV.out.keepS HSI.out (fun p hp => ?_) (by rw [show wr.heap.size = wr.drew.heap.size from rfl]; generalize wr.drew = V; simp)
      have hne : p.block ≠ w.heap.size + 1 + 1 ∧ p.block ≠ w.heap.size + 1 + 1 + 1 := by
       rcases hp with hp | hp
       ·have := HSL.out _ hp; omega
       ·omega
      exact World.cell?_of_block ((setRow_other _ _ _ _ hne.2).trans ((setRow_other wr.drew _ _ _ hne.1).trans rfl))
     rw [← HMM.out] at HS
     have k38 : wr.cell? ⟨w.heap.size + 1 + 1 + 1 + 1, 38, none⟩ = some (.bool r.ended) := HK.out.ended.trans (by rw [HV.out.ended])
     have k40 : wr.cell? ⟨w.heap.size + 1 + 1 + 1 + 1, 40, none⟩ = some (.int .i64 r.code) := HK.out.err.trans (by rw [HV.out.err])
     clear heq
     by_cases hc : r.code = 0
     case pos =>
      have he : r.ended = true := by
       cases h : r.ended with
       | true => rfl
       | false => exact absurd ⟨hc, h⟩ hend
      have HAf : Hid (afterP s r = r.st) := if_pos hc
      rw [he] at k38
      rw [hc] at k40
      clear hc he hend
      have HLR : Hid (c.roots.length = 16) := HV.out.sz.roots
      have HOX : Hid ((stV c.roots c.bv).toArray.all (·.oneCell') = true) := by
       obtain ⟨A', n', k', l', e', _, _⟩ := HV.out.box
       show _ = _
       rw [e']; exact stV_one _ _ _
      go_upto_region 9 with fail
      refine wp_region_held_drew (S := (fun w' => Bk w' w.heap.size 53 (stV roots (.slice xA xn xk)).toArray ∧ Bk w' (w.heap.size + 1 + 1 + 1 + 1) 87 c.cells.toArray ∧ (∃ c2, Bk w' (w.heap.size + 1 + 1) 53 c2 ∧ c2.size = 17) ∧ (∃ c3, Bk w' (w.heap.size + 1 + 1 + 1) 87 c3 ∧ c3.size = 41))) (by kernel_rfl) ?_ (fun hHeld => ?_)
      ·exact ⟨HS.out, HK.out.bk, ⟨_, HZ2.out, rfl⟩, ⟨_, HZ3.out, rfl⟩⟩
      refine takeA 0 ?_
      try simp only [Act.put, pS]
      refine loadH 1 rfl rfl rfl (by kernel_rfl) (by kernel_rfl) (by kernel_rfl) (fun _ _ _ _ _ h => h) (by rfl) (by assumption) rfl (stV c.roots c.bv).toArray Try.underlying53 rfl (by rw [stV_len HLR.out]; exact info_st17) ?_ ?_
      ·(intro w hSw; exact (BkC.st ⟨hSw.2.1, HSZ.out⟩))
      try simp only [Act.put, pS]
      refine loadH 2 rfl rfl rfl (by kernel_rfl) (by kernel_rfl) (by kernel_rfl) (fun _ _ _ _ _ h => h) (by rfl) (by assumption) rfl c.cells.toArray Try.underlying87 rfl (info_run17 HSZ.out) ?_ ?_
      ·(intro w hSw; exact hSw.2.1.range)
      try simp only [Act.put, pS]
      obtain ⟨h0, h1, ⟨c2, h2, hz2⟩, ⟨c3, h3, hz3⟩⟩ := hHeld
      refine comeH 3 rfl rfl rfl rfl (by kernel_rfl) (by rfl) (fun K hK => ?_)
      refine wp_store_rowH _ _ 53 _ (.tmp 12) (.tmp 44) (w.heap.size + 1 + 1) (stV c.roots c.bv).toArray (by rfl) (by rfl) 53 _ h2 (by rw [stV_len HLR.out]; exact info_st17) (hz2.trans (by rw [stV_len HLR.out])) HOX.out ?_
      refine hK.out _ _ ?_ (fun hHeld2 => ?_)
      ·exact ⟨h0.setRow_ne (by omega) _, h1.setRow_ne (by omega) _, ⟨_, h2.setRow _, by rw [stV_len HLR.out]⟩, ⟨_, h3.setRow_ne (by omega) _, hz3⟩⟩
      clear hK K
      try simp only [Act.put, pS]
      clear h0 h1 h2 hz2 h3 hz3
      obtain ⟨h0, h1, ⟨c2, h2, hz2⟩, ⟨c3, h3, hz3⟩⟩ := hHeld2
      refine comeH 4 rfl rfl rfl rfl (by kernel_rfl) (by rfl) (fun K hK => ?_)
      refine wp_store_rowH _ _ 87 _ (.tmp 13) (.tmp 45) (w.heap.size + 1 + 1 + 1) c.cells.toArray (by rfl) (by rfl) 87 _ h3 (info_run17 HSZ.out) (hz3.trans HS41.out.symm) HOC.out ?_
      refine hK.out _ _ ?_ (fun hHeld2 => ?_)
      ·exact ⟨h0.setRow_ne (by omega) _, h1.setRow_ne (by omega) _, ⟨_, h2.setRow_ne (by omega) _, hz2⟩, ⟨_, h3.setRow _, HS41.out⟩⟩
      clear hK K
      try simp only [Act.put, pS]
      refine wpAnyH_done (by kernel_rfl) ?_ _
      try simp only [Act.put, pS]
      clear h0 h1 h2 hz2 h3 hz3 hHeld2
      go_wp2_with fail
      refine bodyPost_ret (results_cells rfl _ _ (w.heap.size + 1 + 1) (w.heap.size + 1 + 1 + 1) 53 87 _ c.cells.toArray _ _ (by rfl) ((HZ2.out.drew.setRow _).setRow_ne (by omega) _) (by rfl) ((HZ3.out.drew.setRow_ne (by omega) _).setRow _) Try.underlying53 rfl (by rw [stV_len HLR.out]; exact info_st17) Try.underlying87 rfl (info_run17 HSZ.out)) rfl ?_
      have hb9 := (lbelow_setRow (lbelow_setRow HB.out.drew (show w.heap.size ≤ w.heap.size + 1 + 1 by omega) ((stV c.roots c.bv).toArray)) (show w.heap.size ≤ w.heap.size + 1 + 1 + 1 by omega) (c.cells.toArray))
      rw [HD.out]
      exact ⟨c, c.roots, c.bv, rfl, HKeep.out _ _, by rw [HAf.out]; exact (HKeep.out _ _).st, HSn.out, HSn.out.bv, hb9⟩
     case neg =>
      have HAf : Hid (afterP s r = s) := if_neg hc
      have hcb : (r.code == 0) = false := beq_eq_false_iff_ne.2 hc
      have hcn : (r.code != 0) = true := bne_iff_ne.2 hc
      have HOX : Hid ((stV roots (.slice xA xn xk)).toArray.all (·.oneCell') = true) := stV_one xA xn xk
      generalize r.ended = eb at k38
      generalize hrc : r.code = rc at k40 hcb hcn
      clear hc hend hrc
      cases eb
      case true =>
       go_upto_region 8 with fail
       refine wp_region_held_drew (S := (fun w' => Bk w' w.heap.size 53 (stV roots (.slice xA xn xk)).toArray ∧ Bk w' (w.heap.size + 1 + 1 + 1 + 1) 87 c.cells.toArray ∧ (∃ c2, Bk w' (w.heap.size + 1 + 1) 53 c2 ∧ c2.size = 17) ∧ (∃ c3, Bk w' (w.heap.size + 1 + 1 + 1) 87 c3 ∧ c3.size = 41))) (by kernel_rfl) ?_ (fun hHeld => ?_)
       ·exact ⟨HS.out, HK.out.bk, ⟨_, HZ2.out, rfl⟩, ⟨_, HZ3.out, rfl⟩⟩
       refine loadH 0 rfl rfl rfl (by kernel_rfl) (by kernel_rfl) (by kernel_rfl) (fun _ _ _ _ _ h => h) (by rfl) (by assumption) rfl (stV roots (.slice xA xn xk)).toArray Try.underlying53 rfl (by rw [stV_len HLR.out]; exact info_st17) ?_ ?_
       ·(intro w hSw; exact hSw.1.range)
       try simp only [Act.put, pS]
       refine loadH 1 rfl rfl rfl (by kernel_rfl) (by kernel_rfl) (by kernel_rfl) (fun _ _ _ _ _ h => h) (by rfl) (by assumption) rfl c.cells.toArray Try.underlying87 rfl (info_run17 HSZ.out) ?_ ?_
       ·(intro w hSw; exact hSw.2.1.range)
       try simp only [Act.put, pS]
       obtain ⟨h0, h1, ⟨c2, h2, hz2⟩, ⟨c3, h3, hz3⟩⟩ := hHeld
       refine comeH 2 rfl rfl rfl rfl (by kernel_rfl) (by rfl) (fun K hK => ?_)
       refine wp_store_rowH _ _ 53 _ (.tmp 12) (.tmp 41) (w.heap.size + 1 + 1) (stV roots (.slice xA xn xk)).toArray (by rfl) (by rfl) 53 _ h2 (by rw [stV_len HLR.out]; exact info_st17) (hz2.trans (by rw [stV_len HLR.out])) HOX.out ?_
       refine hK.out _ _ ?_ (fun hHeld2 => ?_)
       ·exact ⟨h0.setRow_ne (by omega) _, h1.setRow_ne (by omega) _, ⟨_, h2.setRow _, by rw [stV_len HLR.out]⟩, ⟨_, h3.setRow_ne (by omega) _, hz3⟩⟩
       clear hK K
       try simp only [Act.put, pS]
       clear h0 h1 h2 hz2 h3 hz3
       obtain ⟨h0, h1, ⟨c2, h2, hz2⟩, ⟨c3, h3, hz3⟩⟩ := hHeld2
       refine comeH 3 rfl rfl rfl rfl (by kernel_rfl) (by rfl) (fun K hK => ?_)
       refine wp_store_rowH _ _ 87 _ (.tmp 13) (.tmp 42) (w.heap.size + 1 + 1 + 1) c.cells.toArray (by rfl) (by rfl) 87 _ h3 (info_run17 HSZ.out) (hz3.trans HS41.out.symm) HOC.out ?_
       refine hK.out _ _ ?_ (fun hHeld2 => ?_)
       ·exact ⟨h0.setRow_ne (by omega) _, h1.setRow_ne (by omega) _, ⟨_, h2.setRow_ne (by omega) _, hz2⟩, ⟨_, h3.setRow _, HS41.out⟩⟩
       clear hK K
       try simp only [Act.put, pS]
       refine wpAnyH_done (by kernel_rfl) ?_ _
       try simp only [Act.put, pS]
       clear h0 h1 h2 hz2 h3 hz3 hHeld2
       go_wp2_with fail
       refine bodyPost_ret (results_cells rfl _ _ (w.heap.size + 1 + 1) (w.heap.size + 1 + 1 + 1) 53 87 _ c.cells.toArray _ _ (by rfl) ((HZ2.out.drew.setRow _).setRow_ne (by omega) _) (by rfl) ((HZ3.out.drew.setRow_ne (by omega) _).setRow _) Try.underlying53 rfl (by rw [stV_len HLR.out]; exact info_st17) Try.underlying87 rfl (info_run17 HSZ.out)) rfl ?_
       have hb9 := (lbelow_setRow (lbelow_setRow HB.out.drew (show w.heap.size ≤ w.heap.size + 1 + 1 by omega) ((stV roots (.slice xA xn xk)).toArray)) (show w.heap.size ≤ w.heap.size + 1 + 1 + 1 by omega) (c.cells.toArray))
       rw [HD.out]
       exact ⟨c, roots, _, rfl, HKeep.out _ _, by rw [HAf.out]; exact HST.out.below hb9, HSn.out, HSB.out.mono fun _ h => Or.inl h, hb9⟩
      case false =>
       go_upto_region 8 with fail
       refine wp_region_held_drew (S := (fun w' => Bk w' w.heap.size 53 (stV roots (.slice xA xn xk)).toArray ∧ Bk w' (w.heap.size + 1 + 1 + 1 + 1) 87 c.cells.toArray ∧ (∃ c2, Bk w' (w.heap.size + 1 + 1) 53 c2 ∧ c2.size = 17) ∧ (∃ c3, Bk w' (w.heap.size + 1 + 1 + 1) 87 c3 ∧ c3.size = 41))) (by kernel_rfl) ?_ (fun hHeld => ?_)
       ·exact ⟨HS.out, HK.out.bk, ⟨_, HZ2.out, rfl⟩, ⟨_, HZ3.out, rfl⟩⟩
       refine loadH 0 rfl rfl rfl (by kernel_rfl) (by kernel_rfl) (by kernel_rfl) (fun _ _ _ _ _ h => h) (by rfl) (by assumption) rfl (stV roots (.slice xA xn xk)).toArray Try.underlying53 rfl (by rw [stV_len HLR.out]; exact info_st17) ?_ ?_
       ·(intro w hSw; exact hSw.1.range)
       try simp only [Act.put, pS]
       refine loadH 1 rfl rfl rfl (by kernel_rfl) (by kernel_rfl) (by kernel_rfl) (fun _ _ _ _ _ h => h) (by rfl) (by assumption) rfl c.cells.toArray Try.underlying87 rfl (info_run17 HSZ.out) ?_ ?_
       ·(intro w hSw; exact hSw.2.1.range)
       try simp only [Act.put, pS]
       obtain ⟨h0, h1, ⟨c2, h2, hz2⟩, ⟨c3, h3, hz3⟩⟩ := hHeld
       refine comeH 2 rfl rfl rfl rfl (by kernel_rfl) (by rfl) (fun K hK => ?_)
       refine wp_store_rowH _ _ 53 _ (.tmp 12) (.tmp 41) (w.heap.size + 1 + 1) (stV roots (.slice xA xn xk)).toArray (by rfl) (by rfl) 53 _ h2 (by rw [stV_len HLR.out]; exact info_st17) (hz2.trans (by rw [stV_len HLR.out])) HOX.out ?_
       refine hK.out _ _ ?_ (fun hHeld2 => ?_)
       ·exact ⟨h0.setRow_ne (by omega) _, h1.setRow_ne (by omega) _, ⟨_, h2.setRow _, by rw [stV_len HLR.out]⟩, ⟨_, h3.setRow_ne (by omega) _, hz3⟩⟩
       clear hK K
       try simp only [Act.put, pS]
       clear h0 h1 h2 hz2 h3 hz3
       obtain ⟨h0, h1, ⟨c2, h2, hz2⟩, ⟨c3, h3, hz3⟩⟩ := hHeld2
       refine comeH 3 rfl rfl rfl rfl (by kernel_rfl) (by rfl) (fun K hK => ?_)
       refine wp_store_rowH _ _ 87 _ (.tmp 13) (.tmp 42) (w.heap.size + 1 + 1 + 1) c.cells.toArray (by rfl) (by rfl) 87 _ h3 (info_run17 HSZ.out) (hz3.trans HS41.out.symm) HOC.out ?_
       refine hK.out _ _ ?_ (fun hHeld2 => ?_)
       ·exact ⟨h0.setRow_ne (by omega) _, h1.setRow_ne (by omega) _, ⟨_, h2.setRow_ne (by omega) _, hz2⟩, ⟨_, h3.setRow _, HS41.out⟩⟩
       clear hK K
       try simp only [Act.put, pS]
       refine wpAnyH_done (by kernel_rfl) ?_ _
       try simp only [Act.put, pS]
       clear h0 h1 h2 hz2 h3 hz3 hHeld2
       go_wp2_with fail
       refine bodyPost_ret (results_cells rfl _ _ (w.heap.size + 1 + 1) (w.heap.size + 1 + 1 + 1) 53 87 _ c.cells.toArray _ _ (by rfl) ((HZ2.out.drew.setRow _).setRow_ne (by omega) _) (by rfl) ((HZ3.out.drew.setRow_ne (by omega) _).setRow _) Try.underlying53 rfl (by rw [stV_len HLR.out]; exact info_st17) Try.underlying87 rfl (info_run17 HSZ.out)) rfl ?_
       have hb9 := (lbelow_setRow (lbelow_setRow HB.out.drew (show w.heap.size ≤ w.heap.size + 1 + 1 by omega) ((stV roots (.slice xA xn xk)).toArray)) (show w.heap.size ≤ w.heap.size + 1 + 1 + 1 by omega) (c.cells.toArray))
       rw [HD.out]
       exact ⟨c, roots, _, rfl, HKeep.out _ _, by rw [HAf.out]; exact HST.out.below hb9, HSn.out, HSB.out.mono fun _ h => Or.inl h, hb9⟩
end Go.Proofs.Ytjggmimaolddkaa
