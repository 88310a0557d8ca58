import Derived.Test.YtiiaingepbkikaaGreatDoorWoBB
import Derived.Test.YtiiaingepbkikaaGreatDoorWoAH
namespace Go.Proofs.YtiiaingepbkikaaGreatDoor
open Go.RowKit
set_option linter.unusedVariables false
set_option linter.unusedSimpArgs false
structure LS (W w : World) (g L : Nat) (ln er sw wd lb : Int) (M : Array Value) (tp tm : List Th) : Prop where
 own : OwIn w g tp
 bx : Bk w (g + 1) 45 M
 rw : RWd L w.heap.size w M tm
 hb : Below W.heap.size W w
 hf : Bk w W.heap.size 26 #[.int .i64 ln, .int .i64 er]
 hp : Bk w (W.heap.size + 1) 28 #[.int .i64 sw, .int .i64 wd, .int .i64 lb]
 hL : g + 2 = L
 hlo : W.heap.size + 1 < g
section
variable {W w w' : World} {g L : Nat} {ln er sw wd lb : Int} {M M' : Array Value} {ts ts' tm : List Th}
theorem LS.below (h : LS W w g L ln er sw wd lb M ts tm) (hb : Below w.heap.size w w') : LS W w' g L ln er sw wd lb M ts tm :=
 ⟨h.own.below hb, h.bx.below hb h.bx.lt, (h.rw.below hb (Nat.le_refl _)).more hb.size, h.hb.trans (hb.mono h.hb.size), h.hf.below hb h.hf.lt, h.hp.below hb h.hp.lt, h.hL, h.hlo⟩
theorem LS.turned (h : LS W w g L ln er sw wd lb M ts tm) (ho : OwIn w' g ts') (hg : w.grownBy w' (some g)) : LS W w' g L ln er sw wd lb M ts' tm := by
 have h1 := h.hL
 have h2 := h.hlo
 refine ⟨ho, h.bx.grown hg (fun e => by injection e with e; omega), (h.rw.cut fun p hp hl => World.cell?_of_block (hg.block p.block hp (fun e => by injection e with e; omega))).more hg.size, h.hb.grown hg h.hb.size (fun k hk => by injection hk with hk; omega), h.hf.grown hg (fun e => by injection e with e; omega), h.hp.grown hg (fun e => by injection e with e; omega), h1, h2⟩
theorem rwd_zero (h : RWd L w.heap.size w M tm) : ∀ u, M[0]? ≠ some (.int .u64 u) := by
 intro u e
 have hl := h.len
 obtain ⟨y, hy, _⟩ := h.th 0 (tm[0]'(by omega)) (List.getElem?_eq_getElem _)
 have := hy 0 _ rfl
 rw [Nat.zero_mul, Nat.zero_add, e] at this
 cases this
theorem OwIn.row {k : Nat} {t : TypeId} {cs : Array Value} (h : OwIn w g ts) (hk : Bk w k t cs) (h1 : t ≠ 32) (h2 : t ≠ 112) (h0 : ∀ u, cs[0]? ≠ some (.int .u64 u)) (hne : k ≠ g) (ds : Array Value) : OwIn (w.setRow k ds) g ts := by
 obtain ⟨ps, hs, hb, hz, hx⟩ := h.blk
 have hz9 : w.heap.size ≤ (w.setRow k ds).heap.size := by simp [World.setRow]
 have hc : ∀ v, w.cell? ⟨k, 0, none⟩ ≠ some (.int .u64 v) := fun v e => h0 v (by rw [← hk.cell]; exact e)
 have ho : ∀ b, b < w.heap.size → b ≠ k → (w.setRow k ds).heap[b]? = w.heap[b]? := fun b _ hn => setRow_other _ _ _ _ hn
 refine ⟨h.len, ps, hs, (setRow_other _ _ _ _ (fun e => hne e.symm)).trans hb, hz, fun k x e => ?_⟩
 obtain ⟨b0, b1, b2, e0, e1, e2, ht⟩ := hx k x e
 exact ⟨b0, b1, b2, e0, e1, e2, ht.q.keep hz9 ho (bk_not hk h1) hc, ht.c.keep hz9 ho (bk_not hk h1) hc, ht.t.keep hz9 ho (bk_not hk h2) hc⟩
theorem LS.put (h : LS W w g L ln er sw wd lb M ts tm) (hr : RWd L w.heap.size w M' ts') : LS W (w.setRow (g + 1) M') g L ln er sw wd lb M' ts ts' := by
 have h1 := h.hL
 have h2 := h.hlo
 refine ⟨h.own.row h.bx (by decide) (by decide) (rwd_zero h.rw) (by omega) M', setRow_heap _ _ M M' _ _ h.bx, ?_, below_setRow h.hb (by omega) M', (setRow_other _ _ _ _ (by omega)).trans h.hf, (setRow_other _ _ _ _ (by omega)).trans h.hp, h1, h2⟩
 have hsz : (w.setRow (g + 1) M').heap.size = w.heap.size := by simp [World.setRow]
 rw [hsz]
 exact hr.cut fun p hp hl => cell_setRow_other _ _ _ _ (by omega)
end
theorem runT_ok {l : List (Int × Q4)} (h : ∀ x ∈ l, U64' x.2.a1 ∧ U64' x.2.a2) : ∀ m, ∀ x ∈ runT (l.take m) ths0, x.Ok m := by
 intro m
 induction m with
 | zero =>
   intro x hx
   have : x ∈ ths0 := by simpa [runT] using hx
   rw [(List.mem_replicate.1 this).2]
   exact th0_ok
 | succ m ih =>
   cases hg : l[m]? with
   | none =>
     have hl : l.length ≤ m := by simpa using hg
     rw [List.take_of_length_le (by omega)]
     rw [List.take_of_length_le hl] at ih
     exact fun x hx => (ih x hx).more (Nat.le_succ m)
   | some y =>
     rw [runT_succ hg]
     have hy := h y (List.mem_of_getElem? hg)
     exact doP_ok ih hy.1 hy.2
theorem four_in {a b c d : Int} (ha : I64' a) (hb : I64' b) (hc : I64' c) (hd : I64' d) : ∀ x ∈ [a, b, c, d], -9223372036854775808 ≤ x ∧ x ≤ 9223372036854775807 := by
 intro x hx
 simp at hx
 rcases hx with rfl | rfl | rfl | rfl <;> assumption
theorem q_at {l : List Q4} {k : Nat} {q : Q4} (h : l[k]? = some q) {j : Nat} {v : Value} (hv : q.cells[j]? = some v) : (l.flatMap Q4.cells)[k * 4 + j]? = some v := by
 induction l generalizing k with
 | nil => simp at h
 | cons y l ih =>
   have hj : j < 4 := (List.getElem?_eq_some_iff.1 hv).1
   rw [List.flatMap_cons]
   rcases k with _ | k
   ·injection h with h
    subst h
    rw [Nat.zero_mul, Nat.zero_add, List.getElem?_append_left (show j < 4 from hj)]
    exact hv
   ·rw [List.getElem?_append_right (show 4 ≤ _ by omega), show (k + 1) * 4 + j - y.cells.length = k * 4 + j by show _ - 4 = _; omega]
    exact ih h
set_option maxRecDepth 100000 in
set_option maxHeartbeats 8000000 in
theorem worlds_walk (ns : List Int) (A0 : Option Addr) (n0 c0 : Nat) (qs : List Q4) (A1 : Option Addr) (n1 c1 : Nat) (ln er pk sw wd lb : Int) (W : World) (htab : PowTab W)
 (hns : RdN W W.heap.size A0 n0 ns) (hc0 : n0 ≤ c0) (hqs : RdQ W W.heap.size A1 n1 qs) (hqo : ∀ q ∈ qs, q.Ok) (hql : qs.length = n1) (hc1 : n1 ≤ c1) (hln : I64' ln) (her : I64' er) (hpk : I64' pk) (hsw : I64' sw) (hwd : I64' wd) (hlb : I64' lb) :
 Calls Tryz.prog 3 #[.slice A0 n0 c0, .slice A1 n1 c1, .agg #[.int .i64 ln, .int .i64 er], .int .i64 pk, .agg #[.int .i64 sw, .int .i64 wd, .int .i64 lb]] W fun e W' => e = .returned (.bool true) ∧ Below W.heap.size W W' := by
 have HNs := Lib.hid hns
 have HNl : Hid (ns.length = n0) := by have := hns.len; show _ = _; simpa using this
 have HQs := Lib.hid hqs
 have HQo := Lib.hid hqo
 have HQl := Lib.hid hql
 have HTab := Lib.hid htab
 have HNum := Lib.hid (And.intro hln (And.intro her (And.intro hpk (And.intro hsw (And.intro hwd hlb)))))
 obtain ⟨W1, hW1⟩ : ∃ W1, (W.alloc (.cells #[.int .i64 ln, .int .i64 er] 26)).alloc (.cells #[.int .i64 sw, .int .i64 wd, .int .i64 lb] 28) = W1 := ⟨_, rfl⟩
 have htb := two_blocks W #[.int .i64 ln, .int .i64 er] #[.int .i64 sw, .int .i64 wd, .int .i64 lb] 26 28
 simp only [hW1] at htb
 have HF := Lib.hid htb.1
 have HP := Lib.hid htb.2.1
 have HB1 := Lib.hid htb.2.2.1
 have HW1 := Lib.hid hW1
 clear htb hW1 hns hqs hqo hql htab hln her hpk hsw hwd hlb
 go_enter Tryz.func3, Tryz.ntmps3
 go_wp2_with fail
 rw [HW1.out]
 clear HW1
 refine (alive_any W1 (HTab.out.below HB1.out)).mono ?_
 rintro e W2 ⟨rfl, hb⟩
 have HF := Lib.hid (HF.out.below hb HF.out.lt)
 have HP := Lib.hid (HP.out.below hb HP.out.lt)
 have HB2 := Lib.hid (HB1.out.trans (hb.mono HB1.out.size))
 clear hb HB1
 by_cases h30 : 30 < n0
 ·have h30i : (n0 : Int) > 30 := by omega
  go_wp2
  go_ret
  exact ⟨rfl, HB2.out⟩
 have h30i : ¬ ((n0 : Int) > 30) := by omega
 by_cases hlt : n1 < n0
 ·have hlti : (n1 : Int) < n0 := by omega
  go_wp2
  go_ret
  exact ⟨rfl, HB2.out⟩
 have hlti : ¬ ((n1 : Int) < n0) := by omega
 obtain ⟨g, hg⟩ : ∃ g, W2.heap.size = g := ⟨_, rfl⟩
 obtain ⟨W4, hW4⟩ : ∃ W4, (W2.alloc (.cells noThings 80)).alloc (.cells (Tryz.zeroCells45) 45) = W4 := ⟨_, rfl⟩
 have htb := two_blocks W2 noThings (Tryz.zeroCells45) 80 45
 simp only [hW4] at htb
 rw [hg] at htb
 have HX4 := Lib.hid htb.2.1
 have hlo : W.heap.size + 1 < g := by rw [← hg]; exact HP.out.lt
 have HLS : Hid (LS W W4 g (g + 2) ln er sw wd lb (Tryz.zeroCells45) ths0 ths0) := by
  show LS _ _ _ _ _ _ _ _ _ _ _ _
  have hbw : Below W2.heap.size W2 W4 := by rw [hg]; exact htb.2.2.1
  exact ⟨own0_ _ _ htb.1, htb.2.1, rwd0 _ _ _, HB2.out.trans (hbw.mono HB2.out.size), HF.out.below hbw HF.out.lt, HP.out.below hbw HP.out.lt, rfl, hlo⟩
 have HW4 := Lib.hid hW4
 clear htb hW4 hlo
 have hzi : (Tryz.prog.info? 45).map (·.size) = some (Tryz.zeroCells45).size := by rw [z144_size]; kernel_rfl
 have hzo : (Tryz.zeroCells45).all (·.oneCell') = true := all_one (rwd0 0 0 W).one
 go_wp2_with fail
 refine (new_any W2).mono ?_
 rintro e W3 ⟨rfl, hW3⟩
 rw [hW3]
 clear hW3 W3
 have HG := Lib.hid hg
 rw [hg]
 clear hg
 have HX9 := (two_blocks W2 noThings (Tryz.zeroCells45) 80 45).2.1
 go_upto_region 6 with fail
 go_upto_region 7 with (refine wpList_store_row (by rfl) 45 (.tmp 12) (.tmp 30) (by rfl) (W2.heap.size + 1) (Tryz.zeroCells45) (by rfl) (by rfl) 45 (Tryz.zeroCells45) HX9 hzi rfl hzo ?_; rw [setRow_self _ _ _ _ _ HX9, HW4.out])
 clear HX9 HW4 hzi hzo
 rw [HG.out]
 go_wp2
 obtain ⟨Z9, hZ9⟩ : ∃ Z9, ns.zip qs = Z9 := ⟨_, rfl⟩
 have HZ9 := Lib.hid hZ9
 have HOk9 : Hid (∀ m, ∀ x ∈ runT (Z9.take m) ths0, x.Ok m) := runT_ok (fun x hx => by rw [← hZ9] at hx; exact ⟨(HQo.out x.2 (List.of_mem_zip hx).2).a1, (HQo.out x.2 (List.of_mem_zip hx).2).a2⟩)
 clear hZ9
 go_loopw [33] (fun i wr => ∃ m : Nat, (m ≤ n0 ∧ i = .int .i64 m) ∧ Hid (∃ M, LS W wr g (g + 2) ln er sw wd lb M (runT (Z9.take m) ths0) (runT (Z9.take m) ths0))) (fun i _ => n0 - (intOf i).toNat)
 case atStart => exact ⟨0, ⟨by omega, rfl⟩, Tryz.zeroCells45, HLS.out⟩
 case round =>
  clear HLS
  obtain ⟨m, ⟨hm, rfl⟩, HS⟩ := hrel
  obtain ⟨M, hS⟩ := HS.out
  by_cases hlt9 : m < n0
  ·have hmi : (m : Int) < (n0 : Int) := by omega
   have hmj : (m : Int) < (n1 : Int) := by omega
   obtain ⟨n, hn⟩ : ∃ n, ns[m]? = some n := ⟨_, List.getElem?_eq_getElem (by rw [HNl.out]; exact hlt9)⟩
   obtain ⟨q, hq⟩ : ∃ q, qs[m]? = some q := ⟨_, List.getElem?_eq_getElem (by rw [HQl.out]; omega)⟩
   have hz : Z9[m]? = some (n, q) := by rw [← HZ9.out, List.getElem?_zip_eq_some]; exact ⟨hn, hq⟩
   have HNx : Hid (runT (Z9.take (m + 1)) ths0 = doP n q.a0 q.a1 q.a2 (runT (Z9.take m) ths0)) := runT_succ hz ths0
   have hTk : ∀ x ∈ runT (Z9.take m) ths0, x.Ok 100 := fun x hx => (HOk9.out m x hx).more (by omega)
   generalize runT (Z9.take m) ths0 = T at hS HNx hTk
   have HT := Lib.hid hTk
   have HS := Lib.hid hS
   have hqo := HQo.out q (List.mem_of_getElem? hq)
   have HA := Lib.hid hqo
   obtain ⟨b, o, rfl, hb, hc⟩ := HNs.out.at_ (by omega)
   obtain ⟨b1, o1, rfl, hb1, hd⟩ := HQs.out.at_ (by omega)
   have hcN : W.cell? ⟨b, o + m, none⟩ = some (.int .i64 n) := hc m _ (by rw [List.getElem?_map, hn]; rfl)
   have HQr : Hid (W.rangeAt b1 (o1 + m * 4) (#[.int .u64 q.a0, .int .u64 q.a1, .int .u64 q.a2, .int .u64 q.a3] : Array Value).toList) := fun j v hv => by rw [Nat.add_assoc]; exact hd (m * 4 + j) v (q_at hq hv)
   have cN : wr.cell? ⟨b, o + m, none⟩ = some (.int .i64 n) := (hS.hb.cell (p := ⟨b, o + m, none⟩) hb).trans hcN
   have HQw := Lib.hid (range_below HQr.out hS.hb hb1)
   have d0 : wr.cell? ⟨b1, o1 + m * 4, none⟩ = some (.int .u64 q.a0) := HQw.out 0 _ rfl
   have d1 : wr.cell? ⟨b1, o1 + m * 4 + 1, none⟩ = some (.int .u64 q.a1) := HQw.out 1 _ rfl
   have d2 : wr.cell? ⟨b1, o1 + m * 4 + 2, none⟩ = some (.int .u64 q.a2) := HQw.out 2 _ rfl
   have d3 : wr.cell? ⟨b1, o1 + m * 4 + 3, none⟩ = some (.int .u64 q.a3) := HQw.out 3 _ rfl
   clear hc hd hcN hS hTk hqo hz hn hq
   go_wp2_with fail
   refine (do_any T g n q.a0 q.a1 q.a2 q.a3 _ HS.out.own HT.out HA.out.a0 HA.out.a1 HA.out.a2).mono ?_
   rintro e V1 ⟨⟨r, rfl, _⟩, how, hgr⟩
   have HS := Lib.hid (HS.out.turned how hgr)
   clear how hgr cN d0 d1 d2 d3
   go_upto_region 11 with fail
   obtain ⟨V, hV⟩ : ∃ V, V1.drew = V := ⟨_, rfl⟩
   have HQ1 := Lib.hid (range_below HQr.out HS.out.hb hb1)
   have HIM : Hid ((Tryz.prog.info? 45).map (·.size) = some M.size) := by show _ = _; rw [HS.out.rw.size]; kernel_rfl
   refine wp_region_held_drew (S := (fun w' => w'.rangeAt (g + 1) 0 M.toList ∧ w'.rangeAt b1 (o1 + m * 4) (#[.int .u64 q.a0, .int .u64 q.a1, .int .u64 q.a2, .int .u64 q.a3] : Array Value).toList)) (by kernel_rfl) ?_ (fun hHeld => ?_)
   ·exact ⟨HS.out.bx.rng, HQ1.out⟩
   refine loadA 0 M Tryz.underlying45 rfl HIM.out ?_ ?_
   ·(intro w hSw; exact hSw.1)
   try simp only [Act.put, pS]
   refine takeA 1 ?_
   try simp only [Act.put, pS]
   refine takeA 2 ?_
   try simp only [Act.put, pS]
   refine takeA 3 ?_
   try simp only [Act.put, pS]
   refine takeA 4 ?_
   try simp only [Act.put, pS]
   refine loadA 5 #[.int .u64 q.a0, .int .u64 q.a1, .int .u64 q.a2, .int .u64 q.a3] Tryz.underlying49 rfl (by kernel_rfl) ?_ ?_
   ·(intro w hSw; exact hSw.2)
   try simp only [Act.put, pS]
   have HSV : Hid (LS W V g (g + 2) ln er sw wd lb M (doP n q.a0 q.a1 q.a2 T) T) := by show LS _ _ _ _ _ _ _ _ _ _ _ _; rw [← hV]; exact HS.out.below (Below.refl _ _).drew
   rw [hV] at hHeld ⊢
   clear hV HS HQ1 HQw
   have HQ1 := Lib.hid (range_below HQr.out HSV.out.hb hb1)
   have HVc : Hid (Below V.heap.size V V) := Below.refl _ _
   have hb1V : b1 < V.heap.size := Nat.lt_of_lt_of_le hb1 HSV.out.hb.size
   have hgV : g + 1 < V.heap.size := HSV.out.bx.lt
   refine comeH3 6 10 11 rfl rfl rfl rfl rfl rfl rfl rfl rfl rfl rfl rfl (by kernel_rfl) (by rfl) (by rfl) (by rfl) (fun K hK => ?_) (fun K hK => ?_) (fun K hK => ?_)
   ·go_simp
    refine (rdo_any T M n q.a0 q.a1 q.a2 q.a3 (g + 2) V.heap.size V (HSV.out.rw.below HVc.out (Nat.le_refl _)) (Nat.le_trans hgV HVc.out.size) HVc.out.size HT.out HA.out.a0 HA.out.a1 HA.out.a2).mono ?_
    rintro e V2 ⟨M9, r9, rfl, hrw, ⟨cc, uu, rfl⟩, hb⟩
    have HRo := Lib.hid hrw
    clear hrw
    have HVc := Lib.hid (HVc.out.trans (hb.mono HVc.out.size))
    have HKp : Hid (Kept V2.heap.size V.heap.size V.heap.size V2 V2) := Kept.refl _ _ _ _
    have HNs9 : Hid (V2.heap.size ≤ V2.heap.size) := Nat.le_refl _
    have HVn := Lib.hid HVc.out.size
    clear hb
    go_simp
    refine hK.out _ _ ?_ (fun hHeld => ?_)
    ·exact ⟨(HSV.out.bx.below HVc.out HSV.out.bx.lt).rng, range_below HQ1.out HVc.out hb1V⟩
    clear hK K
    try simp only [Act.put, pS]
    refine takeA 7 ?_
    try simp only [Act.put, pS]
    refine takeA 8 ?_
    try simp only [Act.put, pS]
    refine takeA 9 ?_
    try simp only [Act.put, pS]
    refine comeH2 10 11 rfl rfl rfl rfl rfl rfl rfl rfl (by kernel_rfl) (by rfl) (by rfl) (fun K hK => ?_) (fun K hK => ?_)
    ·go_simp
     obtain ⟨V3, hN⟩ : ∃ N, V2.alloc (.cells (Tryz.zeroCells45) 45) = N := ⟨_, rfl⟩
     have hb : Below V2.heap.size V2 V3 := by rw [← hN]; exact (Below.refl _ _).alloc (Nat.le_refl _) _
     have hnew : Hid (Bk V3 V2.heap.size 45 (Tryz.zeroCells45)) := by show Bk _ _ _ _; rw [← hN]; exact Bk.new _ _ _
     have H15V : Hid (V.heap.size ≤ V2.heap.size) := HVc.out.size
     have H15k : Hid (V2.heap.size ≤ V2.heap.size ∨ (V.heap.size ≤ V2.heap.size ∧ V2.heap.size < V.heap.size)) := .inl HNs9.out
     have HKp := Lib.hid (HKp.out.below hb HNs9.out)
     have HNs9 := Lib.hid (Nat.le_trans HNs9.out hb.size)
     have HVc := Lib.hid (HVc.out.trans (hb.mono HVc.out.size))
     have H15 := hnew
     rw [hN]
     clear hN hb hnew
     refine hK.out _ _ ?_ (fun hHeld => ?_)
     ·exact ⟨(HSV.out.bx.below HVc.out HSV.out.bx.lt).rng, range_below HQ1.out HVc.out hb1V⟩
     clear hK K
     try simp only [Act.put, pS]
     refine comeA 11 fun K hK => ?_
     go_simp
     have H15lt : Hid (V2.heap.size < V3.heap.size) := H15.out.lt
     obtain ⟨V4, hN⟩ : ∃ N, V3.alloc (.cells #[.int .i64 0, .int .u64 0] 47) = N := ⟨_, rfl⟩
     have hb : Below V3.heap.size V3 V4 := by rw [← hN]; exact (Below.refl _ _).alloc (Nat.le_refl _) _
     have hnew : Hid (Bk V4 V3.heap.size 47 #[.int .i64 0, .int .u64 0]) := by show Bk _ _ _ _; rw [← hN]; exact Bk.new _ _ _
     have H16V : Hid (V.heap.size ≤ V3.heap.size) := HVc.out.size
     have H16k : Hid (V2.heap.size ≤ V3.heap.size ∨ (V.heap.size ≤ V3.heap.size ∧ V3.heap.size < V.heap.size)) := .inl HNs9.out
     have H15 := Lib.hid (H15.out.below hb H15.out.lt)
     have HKp := Lib.hid (HKp.out.below hb HNs9.out)
     have HNs9 := Lib.hid (Nat.le_trans HNs9.out hb.size)
     have HVc := Lib.hid (HVc.out.trans (hb.mono HVc.out.size))
     have H16 := hnew
     rw [hN]
     clear hN hb hnew
     refine hK.out _ _ ?_ (fun hHeld => ?_)
     ·exact ⟨(HSV.out.bx.below HVc.out HSV.out.bx.lt).rng, range_below HQ1.out HVc.out hb1V⟩
     clear hK K
     try simp only [Act.put, pS]
     have HI9 : Hid ((Tryz.prog.info? 45).map (·.size) = some M9.size) := by show _ = _; rw [HRo.out.size]; kernel_rfl
     have HO9 : Hid (M9.all (·.oneCell') = true) := all_one HRo.out.one
     have hne : V2.heap.size ≠ V3.heap.size := by have := H15lt.out; omega
     refine comeA 12 fun K hK => ?_
     refine wp_store_row 45 (.tmp 15) (.tmp 53) rfl V2.heap.size M9 (by rfl) (by rfl) 45 (Tryz.zeroCells45) H15.out HI9.out (by rw [HRo.out.size]; exact z144_size) HO9.out ?_
     obtain ⟨X1, hX⟩ : ∃ X, V4.setRow V2.heap.size M9 = X := ⟨_, rfl⟩
     have HVc : Hid (Below V.heap.size V X1) := by show Below _ _ _; rw [← hX]; exact below_setRow HVc.out H15V.out M9
     have HKp : Hid (Kept V2.heap.size V.heap.size V.heap.size V2 X1) := by show Kept _ _ _ _ _; rw [← hX]; exact HKp.out.row H15k.out M9
     have H15 : Hid (Bk X1 V2.heap.size 45 M9) := by show Bk _ _ _ _; rw [← hX]; exact setRow_heap _ _ (Tryz.zeroCells45) M9 _ _ H15.out
     have HNs9 : Hid (V2.heap.size ≤ X1.heap.size) := by show _ ≤ _; rw [← hX]; exact Nat.le_trans HNs9.out (Nat.le_of_eq (by simp [World.setRow]))
     have H16 : Hid (Bk X1 V3.heap.size 47 #[.int .i64 0, .int .u64 0]) := by show Bk _ _ _ _; rw [← hX]; exact (setRow_other _ _ _ _ (fun e => hne e.symm)).trans H16.out
     rw [hX]
     clear hX
     refine hK.out _ _ ?_ (fun hHeld => ?_)
     ·exact ⟨(HSV.out.bx.below HVc.out HSV.out.bx.lt).rng, range_below HQ1.out HVc.out hb1V⟩
     clear hK K
     try simp only [Act.put, pS]
     refine comeA 13 fun K hK => ?_
     have e0 := (c2 H16.out).1; have e1 := (c2 H16.out).2.1; have f0 := (c2 H16.out).2.2.1; have f1 := (c2 H16.out).2.2.2.1; have kf := H16.out.lt
     go_simp
     clear e0 e1 f0 f1 kf
     obtain ⟨X2, hX⟩ : ∃ X, (X1.setCell ⟨V3.heap.size, 0, none⟩ (.int .i64 cc)).setCell ⟨V3.heap.size, 1, none⟩ (.int .u64 uu) = X := ⟨_, rfl⟩
     have HVc : Hid (Below V.heap.size V X2) := by show Below _ _ _; rw [← hX]; exact (HVc.out.setCell (p := ⟨V3.heap.size, 0, none⟩) H16V.out _).setCell (p := ⟨V3.heap.size, 1, none⟩) H16V.out _
     have HKp : Hid (Kept V2.heap.size V.heap.size V.heap.size V2 X2) := by show Kept _ _ _ _ _; rw [← hX]; exact (HKp.out.set_ (p := ⟨V3.heap.size, 0, none⟩) H16k.out _).set_ (p := ⟨V3.heap.size, 1, none⟩) H16k.out _
     have H15 : Hid (Bk X2 V2.heap.size 45 M9) := by show Bk _ _ _ _; rw [← hX]; exact bk_set_ne (bk_set_ne H15.out (p := ⟨V3.heap.size, 0, none⟩) (fun e => hne e.symm)) (p := ⟨V3.heap.size, 1, none⟩) (fun e => hne e.symm)
     have HNs9 : Hid (V2.heap.size ≤ X2.heap.size) := by show _ ≤ _; rw [← hX]; exact Nat.le_trans HNs9.out (Nat.le_of_eq (by simp [World.setCell]))
     rw [hX]
     clear hX H16
     refine hK.out _ _ ?_ (fun hHeld => ?_)
     ·exact ⟨(HSV.out.bx.below HVc.out HSV.out.bx.lt).rng, range_below HQ1.out HVc.out hb1V⟩
     clear hK K
     try simp only [Act.put, pS]
     refine wpAnyH_done (by kernel_rfl) ?_ _
     try simp only [Act.put, pS]
     clear hHeld
     have HSz := Lib.hid (HSV.out.below HVc.out)
     have HRz : Hid (RWd (g + 2) X2.heap.size X2 M9 (doP n q.a0 q.a1 q.a2 T)) := (HRo.out.kept HVn.out HKp.out).more HNs9.out
     have HHo : Hid (M.size = M9.size) := by show _ = _; rw [HSV.out.rw.size, HRo.out.size]
     go_upto_region 12 with fail
     go_upto_region 13 with (first
      | (refine wpList_load_row (by rfl) 45 (.tmp 15) (by rfl) V2.heap.size (by rfl) 45 M9 (0, 0) _ H15.out Tryz.underlying45 (by rfl) HI9.out ?_)
      | (refine wpList_store_row (by rfl) 45 (.tmp 12) (.tmp 55) (by rfl) (g + 1) M9 (by rfl) (by rfl) 45 M HSz.out.bx HI9.out HHo.out HO9.out ?_))
     go_wp2
     go_roundw
     case rel => exact ⟨m + 1, ⟨by omega, by go_num⟩, M9, by rw [HNx.out]; exact HSz.out.put HRz.out⟩
     case measure => simp [intOf]; omega
    ·go_simp
     obtain ⟨V3, hN⟩ : ∃ N, V2.alloc (.cells #[.int .i64 0, .int .u64 0] 47) = N := ⟨_, rfl⟩
     have hb : Below V2.heap.size V2 V3 := by rw [← hN]; exact (Below.refl _ _).alloc (Nat.le_refl _) _
     have hnew : Hid (Bk V3 V2.heap.size 47 #[.int .i64 0, .int .u64 0]) := by show Bk _ _ _ _; rw [← hN]; exact Bk.new _ _ _
     have H16V : Hid (V.heap.size ≤ V2.heap.size) := HVc.out.size
     have H16k : Hid (V2.heap.size ≤ V2.heap.size ∨ (V.heap.size ≤ V2.heap.size ∧ V2.heap.size < V.heap.size)) := .inl HNs9.out
     have HKp := Lib.hid (HKp.out.below hb HNs9.out)
     have HNs9 := Lib.hid (Nat.le_trans HNs9.out hb.size)
     have HVc := Lib.hid (HVc.out.trans (hb.mono HVc.out.size))
     have H16 := hnew
     rw [hN]
     clear hN hb hnew
     refine hK.out _ _ ?_ (fun hHeld => ?_)
     ·exact ⟨(HSV.out.bx.below HVc.out HSV.out.bx.lt).rng, range_below HQ1.out HVc.out hb1V⟩
     clear hK K
     try simp only [Act.put, pS]
     refine comeA 10 fun K hK => ?_
     go_simp
     have H16lt : Hid (V2.heap.size < V3.heap.size) := H16.out.lt
     obtain ⟨V4, hN⟩ : ∃ N, V3.alloc (.cells (Tryz.zeroCells45) 45) = N := ⟨_, rfl⟩
     have hb : Below V3.heap.size V3 V4 := by rw [← hN]; exact (Below.refl _ _).alloc (Nat.le_refl _) _
     have hnew : Hid (Bk V4 V3.heap.size 45 (Tryz.zeroCells45)) := by show Bk _ _ _ _; rw [← hN]; exact Bk.new _ _ _
     have H15V : Hid (V.heap.size ≤ V3.heap.size) := HVc.out.size
     have H15k : Hid (V2.heap.size ≤ V3.heap.size ∨ (V.heap.size ≤ V3.heap.size ∧ V3.heap.size < V.heap.size)) := .inl HNs9.out
     have H16 := Lib.hid (H16.out.below hb H16.out.lt)
     have HKp := Lib.hid (HKp.out.below hb HNs9.out)
     have HNs9 := Lib.hid (Nat.le_trans HNs9.out hb.size)
     have HVc := Lib.hid (HVc.out.trans (hb.mono HVc.out.size))
     have H15 := hnew
     rw [hN]
     clear hN hb hnew
     refine hK.out _ _ ?_ (fun hHeld => ?_)
     ·exact ⟨(HSV.out.bx.below HVc.out HSV.out.bx.lt).rng, range_below HQ1.out HVc.out hb1V⟩
     clear hK K
     try simp only [Act.put, pS]
     have HI9 : Hid ((Tryz.prog.info? 45).map (·.size) = some M9.size) := by show _ = _; rw [HRo.out.size]; kernel_rfl
     have HO9 : Hid (M9.all (·.oneCell') = true) := all_one HRo.out.one
     have hne : V3.heap.size ≠ V2.heap.size := by have := H16lt.out; omega
     refine comeA 12 fun K hK => ?_
     refine wp_store_row 45 (.tmp 15) (.tmp 53) rfl V3.heap.size M9 (by rfl) (by rfl) 45 (Tryz.zeroCells45) H15.out HI9.out (by rw [HRo.out.size]; exact z144_size) HO9.out ?_
     obtain ⟨X1, hX⟩ : ∃ X, V4.setRow V3.heap.size M9 = X := ⟨_, rfl⟩
     have HVc : Hid (Below V.heap.size V X1) := by show Below _ _ _; rw [← hX]; exact below_setRow HVc.out H15V.out M9
     have HKp : Hid (Kept V2.heap.size V.heap.size V.heap.size V2 X1) := by show Kept _ _ _ _ _; rw [← hX]; exact HKp.out.row H15k.out M9
     have H15 : Hid (Bk X1 V3.heap.size 45 M9) := by show Bk _ _ _ _; rw [← hX]; exact setRow_heap _ _ (Tryz.zeroCells45) M9 _ _ H15.out
     have HNs9 : Hid (V2.heap.size ≤ X1.heap.size) := by show _ ≤ _; rw [← hX]; exact Nat.le_trans HNs9.out (Nat.le_of_eq (by simp [World.setRow]))
     have H16 : Hid (Bk X1 V2.heap.size 47 #[.int .i64 0, .int .u64 0]) := by show Bk _ _ _ _; rw [← hX]; exact (setRow_other _ _ _ _ (fun e => hne e.symm)).trans H16.out
     rw [hX]
     clear hX
     refine hK.out _ _ ?_ (fun hHeld => ?_)
     ·exact ⟨(HSV.out.bx.below HVc.out HSV.out.bx.lt).rng, range_below HQ1.out HVc.out hb1V⟩
     clear hK K
     try simp only [Act.put, pS]
     refine comeA 13 fun K hK => ?_
     have e0 := (c2 H16.out).1; have e1 := (c2 H16.out).2.1; have f0 := (c2 H16.out).2.2.1; have f1 := (c2 H16.out).2.2.2.1; have kf := H16.out.lt
     go_simp
     clear e0 e1 f0 f1 kf
     obtain ⟨X2, hX⟩ : ∃ X, (X1.setCell ⟨V2.heap.size, 0, none⟩ (.int .i64 cc)).setCell ⟨V2.heap.size, 1, none⟩ (.int .u64 uu) = X := ⟨_, rfl⟩
     have HVc : Hid (Below V.heap.size V X2) := by show Below _ _ _; rw [← hX]; exact (HVc.out.setCell (p := ⟨V2.heap.size, 0, none⟩) H16V.out _).setCell (p := ⟨V2.heap.size, 1, none⟩) H16V.out _
     have HKp : Hid (Kept V2.heap.size V.heap.size V.heap.size V2 X2) := by show Kept _ _ _ _ _; rw [← hX]; exact (HKp.out.set_ (p := ⟨V2.heap.size, 0, none⟩) H16k.out _).set_ (p := ⟨V2.heap.size, 1, none⟩) H16k.out _
     have H15 : Hid (Bk X2 V3.heap.size 45 M9) := by show Bk _ _ _ _; rw [← hX]; exact bk_set_ne (bk_set_ne H15.out (p := ⟨V2.heap.size, 0, none⟩) (fun e => hne e.symm)) (p := ⟨V2.heap.size, 1, none⟩) (fun e => hne e.symm)
     have HNs9 : Hid (V2.heap.size ≤ X2.heap.size) := by show _ ≤ _; rw [← hX]; exact Nat.le_trans HNs9.out (Nat.le_of_eq (by simp [World.setCell]))
     rw [hX]
     clear hX H16
     refine hK.out _ _ ?_ (fun hHeld => ?_)
     ·exact ⟨(HSV.out.bx.below HVc.out HSV.out.bx.lt).rng, range_below HQ1.out HVc.out hb1V⟩
     clear hK K
     try simp only [Act.put, pS]
     refine wpAnyH_done (by kernel_rfl) ?_ _
     try simp only [Act.put, pS]
     clear hHeld
     have HSz := Lib.hid (HSV.out.below HVc.out)
     have HRz : Hid (RWd (g + 2) X2.heap.size X2 M9 (doP n q.a0 q.a1 q.a2 T)) := (HRo.out.kept HVn.out HKp.out).more HNs9.out
     have HHo : Hid (M.size = M9.size) := by show _ = _; rw [HSV.out.rw.size, HRo.out.size]
     go_upto_region 12 with fail
     go_upto_region 13 with (first
      | (refine wpList_load_row (by rfl) 45 (.tmp 15) (by rfl) V3.heap.size (by rfl) 45 M9 (0, 0) _ H15.out Tryz.underlying45 (by rfl) HI9.out ?_)
      | (refine wpList_store_row (by rfl) 45 (.tmp 12) (.tmp 55) (by rfl) (g + 1) M9 (by rfl) (by rfl) 45 M HSz.out.bx HI9.out HHo.out HO9.out ?_))
     go_wp2
     go_roundw
     case rel => exact ⟨m + 1, ⟨by omega, by go_num⟩, M9, by rw [HNx.out]; exact HSz.out.put HRz.out⟩
     case measure => simp [intOf]; omega
   ·go_simp
    obtain ⟨V2, hN⟩ : ∃ N, V.alloc (.cells (Tryz.zeroCells45) 45) = N := ⟨_, rfl⟩
    have hb : Below V.heap.size V V2 := by rw [← hN]; exact (Below.refl _ _).alloc (Nat.le_refl _) _
    have hnew : Hid (Bk V2 V.heap.size 45 (Tryz.zeroCells45)) := by show Bk _ _ _ _; rw [← hN]; exact Bk.new _ _ _
    have H15V : Hid (V.heap.size ≤ V.heap.size) := HVc.out.size
    have HVc := Lib.hid (HVc.out.trans (hb.mono HVc.out.size))
    have H15 := hnew
    rw [hN]
    clear hN hb hnew
    refine hK.out _ _ ?_ (fun hHeld => ?_)
    ·exact ⟨(HSV.out.bx.below HVc.out HSV.out.bx.lt).rng, range_below HQ1.out HVc.out hb1V⟩
    clear hK K
    try simp only [Act.put, pS]
    refine comeH2 6 11 rfl rfl rfl rfl rfl rfl rfl rfl (by kernel_rfl) (by rfl) (by rfl) (fun K hK => ?_) (fun K hK => ?_)
    ·go_simp
     have H15l := Lib.hid H15.out.lt
     refine (rdo_any T M n q.a0 q.a1 q.a2 q.a3 (g + 2) V.heap.size V2 (HSV.out.rw.below HVc.out (Nat.le_refl _)) (Nat.le_trans hgV HVc.out.size) HVc.out.size HT.out HA.out.a0 HA.out.a1 HA.out.a2).mono ?_
     rintro e V3 ⟨M9, r9, rfl, hrw, ⟨cc, uu, rfl⟩, hb⟩
     have HRo := Lib.hid hrw
     clear hrw
     have H15 := Lib.hid (H15.out.below hb H15.out.lt)
     have HVc := Lib.hid (HVc.out.trans (hb.mono HVc.out.size))
     have HKp : Hid (Kept V3.heap.size V.heap.size V2.heap.size V3 V3) := Kept.refl _ _ _ _
     have HNs9 : Hid (V3.heap.size ≤ V3.heap.size) := Nat.le_refl _
     have HVn := Lib.hid HVc.out.size
     clear hb
     have H15k : Hid (V3.heap.size ≤ V.heap.size ∨ (V.heap.size ≤ V.heap.size ∧ V.heap.size < V2.heap.size)) := .inr ⟨H15V.out, H15l.out⟩
     go_simp
     refine hK.out _ _ ?_ (fun hHeld => ?_)
     ·exact ⟨(HSV.out.bx.below HVc.out HSV.out.bx.lt).rng, range_below HQ1.out HVc.out hb1V⟩
     clear hK K
     try simp only [Act.put, pS]
     refine takeA 7 ?_
     try simp only [Act.put, pS]
     refine takeA 8 ?_
     try simp only [Act.put, pS]
     refine takeA 9 ?_
     try simp only [Act.put, pS]
     refine comeA 11 fun K hK => ?_
     go_simp
     have H15lt : Hid (V.heap.size < V3.heap.size) := H15.out.lt
     obtain ⟨V4, hN⟩ : ∃ N, V3.alloc (.cells #[.int .i64 0, .int .u64 0] 47) = N := ⟨_, rfl⟩
     have hb : Below V3.heap.size V3 V4 := by rw [← hN]; exact (Below.refl _ _).alloc (Nat.le_refl _) _
     have hnew : Hid (Bk V4 V3.heap.size 47 #[.int .i64 0, .int .u64 0]) := by show Bk _ _ _ _; rw [← hN]; exact Bk.new _ _ _
     have H16V : Hid (V.heap.size ≤ V3.heap.size) := HVc.out.size
     have H16k : Hid (V3.heap.size ≤ V3.heap.size ∨ (V.heap.size ≤ V3.heap.size ∧ V3.heap.size < V2.heap.size)) := .inl HNs9.out
     have H15 := Lib.hid (H15.out.below hb H15.out.lt)
     have HKp := Lib.hid (HKp.out.below hb HNs9.out)
     have HNs9 := Lib.hid (Nat.le_trans HNs9.out hb.size)
     have HVc := Lib.hid (HVc.out.trans (hb.mono HVc.out.size))
     have H16 := hnew
     rw [hN]
     clear hN hb hnew
     refine hK.out _ _ ?_ (fun hHeld => ?_)
     ·exact ⟨(HSV.out.bx.below HVc.out HSV.out.bx.lt).rng, range_below HQ1.out HVc.out hb1V⟩
     clear hK K
     try simp only [Act.put, pS]
     have HI9 : Hid ((Tryz.prog.info? 45).map (·.size) = some M9.size) := by show _ = _; rw [HRo.out.size]; kernel_rfl
     have HO9 : Hid (M9.all (·.oneCell') = true) := all_one HRo.out.one
     have hne : V.heap.size ≠ V3.heap.size := by have := H15lt.out; omega
     refine comeA 12 fun K hK => ?_
     refine wp_store_row 45 (.tmp 15) (.tmp 53) rfl V.heap.size M9 (by rfl) (by rfl) 45 (Tryz.zeroCells45) H15.out HI9.out (by rw [HRo.out.size]; exact z144_size) HO9.out ?_
     obtain ⟨X1, hX⟩ : ∃ X, V4.setRow V.heap.size M9 = X := ⟨_, rfl⟩
     have HVc : Hid (Below V.heap.size V X1) := by show Below _ _ _; rw [← hX]; exact below_setRow HVc.out H15V.out M9
     have HKp : Hid (Kept V3.heap.size V.heap.size V2.heap.size V3 X1) := by show Kept _ _ _ _ _; rw [← hX]; exact HKp.out.row H15k.out M9
     have H15 : Hid (Bk X1 V.heap.size 45 M9) := by show Bk _ _ _ _; rw [← hX]; exact setRow_heap _ _ (Tryz.zeroCells45) M9 _ _ H15.out
     have HNs9 : Hid (V3.heap.size ≤ X1.heap.size) := by show _ ≤ _; rw [← hX]; exact Nat.le_trans HNs9.out (Nat.le_of_eq (by simp [World.setRow]))
     have H16 : Hid (Bk X1 V3.heap.size 47 #[.int .i64 0, .int .u64 0]) := by show Bk _ _ _ _; rw [← hX]; exact (setRow_other _ _ _ _ (fun e => hne e.symm)).trans H16.out
     rw [hX]
     clear hX
     refine hK.out _ _ ?_ (fun hHeld => ?_)
     ·exact ⟨(HSV.out.bx.below HVc.out HSV.out.bx.lt).rng, range_below HQ1.out HVc.out hb1V⟩
     clear hK K
     try simp only [Act.put, pS]
     refine comeA 13 fun K hK => ?_
     have e0 := (c2 H16.out).1; have e1 := (c2 H16.out).2.1; have f0 := (c2 H16.out).2.2.1; have f1 := (c2 H16.out).2.2.2.1; have kf := H16.out.lt
     go_simp
     clear e0 e1 f0 f1 kf
     obtain ⟨X2, hX⟩ : ∃ X, (X1.setCell ⟨V3.heap.size, 0, none⟩ (.int .i64 cc)).setCell ⟨V3.heap.size, 1, none⟩ (.int .u64 uu) = X := ⟨_, rfl⟩
     have HVc : Hid (Below V.heap.size V X2) := by show Below _ _ _; rw [← hX]; exact (HVc.out.setCell (p := ⟨V3.heap.size, 0, none⟩) H16V.out _).setCell (p := ⟨V3.heap.size, 1, none⟩) H16V.out _
     have HKp : Hid (Kept V3.heap.size V.heap.size V2.heap.size V3 X2) := by show Kept _ _ _ _ _; rw [← hX]; exact (HKp.out.set_ (p := ⟨V3.heap.size, 0, none⟩) H16k.out _).set_ (p := ⟨V3.heap.size, 1, none⟩) H16k.out _
     have H15 : Hid (Bk X2 V.heap.size 45 M9) := by show Bk _ _ _ _; rw [← hX]; exact bk_set_ne (bk_set_ne H15.out (p := ⟨V3.heap.size, 0, none⟩) (fun e => hne e.symm)) (p := ⟨V3.heap.size, 1, none⟩) (fun e => hne e.symm)
     have HNs9 : Hid (V3.heap.size ≤ X2.heap.size) := by show _ ≤ _; rw [← hX]; exact Nat.le_trans HNs9.out (Nat.le_of_eq (by simp [World.setCell]))
     rw [hX]
     clear hX H16
     refine hK.out _ _ ?_ (fun hHeld => ?_)
     ·exact ⟨(HSV.out.bx.below HVc.out HSV.out.bx.lt).rng, range_below HQ1.out HVc.out hb1V⟩
     clear hK K
     try simp only [Act.put, pS]
     refine wpAnyH_done (by kernel_rfl) ?_ _
     try simp only [Act.put, pS]
     clear hHeld
     have HSz := Lib.hid (HSV.out.below HVc.out)
     have HRz : Hid (RWd (g + 2) X2.heap.size X2 M9 (doP n q.a0 q.a1 q.a2 T)) := (HRo.out.kept HVn.out HKp.out).more HNs9.out
     have HHo : Hid (M.size = M9.size) := by show _ = _; rw [HSV.out.rw.size, HRo.out.size]
     go_upto_region 12 with fail
     go_upto_region 13 with (first
      | (refine wpList_load_row (by rfl) 45 (.tmp 15) (by rfl) V.heap.size (by rfl) 45 M9 (0, 0) _ H15.out Tryz.underlying45 (by rfl) HI9.out ?_)
      | (refine wpList_store_row (by rfl) 45 (.tmp 12) (.tmp 55) (by rfl) (g + 1) M9 (by rfl) (by rfl) 45 M HSz.out.bx HI9.out HHo.out HO9.out ?_))
     go_wp2
     go_roundw
     case rel => exact ⟨m + 1, ⟨by omega, by go_num⟩, M9, by rw [HNx.out]; exact HSz.out.put HRz.out⟩
     case measure => simp [intOf]; omega
    ·go_simp
     have H15lt : Hid (V.heap.size < V2.heap.size) := H15.out.lt
     obtain ⟨V3, hN⟩ : ∃ N, V2.alloc (.cells #[.int .i64 0, .int .u64 0] 47) = N := ⟨_, rfl⟩
     have hb : Below V2.heap.size V2 V3 := by rw [← hN]; exact (Below.refl _ _).alloc (Nat.le_refl _) _
     have hnew : Hid (Bk V3 V2.heap.size 47 #[.int .i64 0, .int .u64 0]) := by show Bk _ _ _ _; rw [← hN]; exact Bk.new _ _ _
     have H16V : Hid (V.heap.size ≤ V2.heap.size) := HVc.out.size
     have H15 := Lib.hid (H15.out.below hb H15.out.lt)
     have HVc := Lib.hid (HVc.out.trans (hb.mono HVc.out.size))
     have H16 := hnew
     rw [hN]
     clear hN hb hnew
     refine hK.out _ _ ?_ (fun hHeld => ?_)
     ·exact ⟨(HSV.out.bx.below HVc.out HSV.out.bx.lt).rng, range_below HQ1.out HVc.out hb1V⟩
     clear hK K
     try simp only [Act.put, pS]
     refine comeA 6 fun K hK => ?_
     go_simp
     have H15l := Lib.hid H15.out.lt
     have H16l := Lib.hid H16.out.lt
     refine (rdo_any T M n q.a0 q.a1 q.a2 q.a3 (g + 2) V.heap.size V3 (HSV.out.rw.below HVc.out (Nat.le_refl _)) (Nat.le_trans hgV HVc.out.size) HVc.out.size HT.out HA.out.a0 HA.out.a1 HA.out.a2).mono ?_
     rintro e V4 ⟨M9, r9, rfl, hrw, ⟨cc, uu, rfl⟩, hb⟩
     have HRo := Lib.hid hrw
     clear hrw
     have H15 := Lib.hid (H15.out.below hb H15.out.lt)
     have H16 := Lib.hid (H16.out.below hb H16.out.lt)
     have HVc := Lib.hid (HVc.out.trans (hb.mono HVc.out.size))
     have HKp : Hid (Kept V4.heap.size V.heap.size V3.heap.size V4 V4) := Kept.refl _ _ _ _
     have HNs9 : Hid (V4.heap.size ≤ V4.heap.size) := Nat.le_refl _
     have HVn := Lib.hid HVc.out.size
     clear hb
     have H15k : Hid (V4.heap.size ≤ V.heap.size ∨ (V.heap.size ≤ V.heap.size ∧ V.heap.size < V3.heap.size)) := .inr ⟨H15V.out, H15l.out⟩
     have H16k : Hid (V4.heap.size ≤ V2.heap.size ∨ (V.heap.size ≤ V2.heap.size ∧ V2.heap.size < V3.heap.size)) := .inr ⟨H16V.out, H16l.out⟩
     go_simp
     refine hK.out _ _ ?_ (fun hHeld => ?_)
     ·exact ⟨(HSV.out.bx.below HVc.out HSV.out.bx.lt).rng, range_below HQ1.out HVc.out hb1V⟩
     clear hK K
     try simp only [Act.put, pS]
     refine takeA 7 ?_
     try simp only [Act.put, pS]
     refine takeA 8 ?_
     try simp only [Act.put, pS]
     refine takeA 9 ?_
     try simp only [Act.put, pS]
     have HI9 : Hid ((Tryz.prog.info? 45).map (·.size) = some M9.size) := by show _ = _; rw [HRo.out.size]; kernel_rfl
     have HO9 : Hid (M9.all (·.oneCell') = true) := all_one HRo.out.one
     have hne : V.heap.size ≠ V2.heap.size := by have := H15lt.out; omega
     refine comeA 12 fun K hK => ?_
     refine wp_store_row 45 (.tmp 15) (.tmp 53) rfl V.heap.size M9 (by rfl) (by rfl) 45 (Tryz.zeroCells45) H15.out HI9.out (by rw [HRo.out.size]; exact z144_size) HO9.out ?_
     obtain ⟨X1, hX⟩ : ∃ X, V4.setRow V.heap.size M9 = X := ⟨_, rfl⟩
     have HVc : Hid (Below V.heap.size V X1) := by show Below _ _ _; rw [← hX]; exact below_setRow HVc.out H15V.out M9
     have HKp : Hid (Kept V4.heap.size V.heap.size V3.heap.size V4 X1) := by show Kept _ _ _ _ _; rw [← hX]; exact HKp.out.row H15k.out M9
     have H15 : Hid (Bk X1 V.heap.size 45 M9) := by show Bk _ _ _ _; rw [← hX]; exact setRow_heap _ _ (Tryz.zeroCells45) M9 _ _ H15.out
     have HNs9 : Hid (V4.heap.size ≤ X1.heap.size) := by show _ ≤ _; rw [← hX]; exact Nat.le_trans HNs9.out (Nat.le_of_eq (by simp [World.setRow]))
     have H16 : Hid (Bk X1 V2.heap.size 47 #[.int .i64 0, .int .u64 0]) := by show Bk _ _ _ _; rw [← hX]; exact (setRow_other _ _ _ _ (fun e => hne e.symm)).trans H16.out
     rw [hX]
     clear hX
     refine hK.out _ _ ?_ (fun hHeld => ?_)
     ·exact ⟨(HSV.out.bx.below HVc.out HSV.out.bx.lt).rng, range_below HQ1.out HVc.out hb1V⟩
     clear hK K
     try simp only [Act.put, pS]
     refine comeA 13 fun K hK => ?_
     have e0 := (c2 H16.out).1; have e1 := (c2 H16.out).2.1; have f0 := (c2 H16.out).2.2.1; have f1 := (c2 H16.out).2.2.2.1; have kf := H16.out.lt
     go_simp
     clear e0 e1 f0 f1 kf
     obtain ⟨X2, hX⟩ : ∃ X, (X1.setCell ⟨V2.heap.size, 0, none⟩ (.int .i64 cc)).setCell ⟨V2.heap.size, 1, none⟩ (.int .u64 uu) = X := ⟨_, rfl⟩
     have HVc : Hid (Below V.heap.size V X2) := by show Below _ _ _; rw [← hX]; exact (HVc.out.setCell (p := ⟨V2.heap.size, 0, none⟩) H16V.out _).setCell (p := ⟨V2.heap.size, 1, none⟩) H16V.out _
     have HKp : Hid (Kept V4.heap.size V.heap.size V3.heap.size V4 X2) := by show Kept _ _ _ _ _; rw [← hX]; exact (HKp.out.set_ (p := ⟨V2.heap.size, 0, none⟩) H16k.out _).set_ (p := ⟨V2.heap.size, 1, none⟩) H16k.out _
     have H15 : Hid (Bk X2 V.heap.size 45 M9) := by show Bk _ _ _ _; rw [← hX]; exact bk_set_ne (bk_set_ne H15.out (p := ⟨V2.heap.size, 0, none⟩) (fun e => hne e.symm)) (p := ⟨V2.heap.size, 1, none⟩) (fun e => hne e.symm)
     have HNs9 : Hid (V4.heap.size ≤ X2.heap.size) := by show _ ≤ _; rw [← hX]; exact Nat.le_trans HNs9.out (Nat.le_of_eq (by simp [World.setCell]))
     rw [hX]
     clear hX H16
     refine hK.out _ _ ?_ (fun hHeld => ?_)
     ·exact ⟨(HSV.out.bx.below HVc.out HSV.out.bx.lt).rng, range_below HQ1.out HVc.out hb1V⟩
     clear hK K
     try simp only [Act.put, pS]
     refine wpAnyH_done (by kernel_rfl) ?_ _
     try simp only [Act.put, pS]
     clear hHeld
     have HSz := Lib.hid (HSV.out.below HVc.out)
     have HRz : Hid (RWd (g + 2) X2.heap.size X2 M9 (doP n q.a0 q.a1 q.a2 T)) := (HRo.out.kept HVn.out HKp.out).more HNs9.out
     have HHo : Hid (M.size = M9.size) := by show _ = _; rw [HSV.out.rw.size, HRo.out.size]
     go_upto_region 12 with fail
     go_upto_region 13 with (first
      | (refine wpList_load_row (by rfl) 45 (.tmp 15) (by rfl) V.heap.size (by rfl) 45 M9 (0, 0) _ H15.out Tryz.underlying45 (by rfl) HI9.out ?_)
      | (refine wpList_store_row (by rfl) 45 (.tmp 12) (.tmp 55) (by rfl) (g + 1) M9 (by rfl) (by rfl) 45 M HSz.out.bx HI9.out HHo.out HO9.out ?_))
     go_wp2
     go_roundw
     case rel => exact ⟨m + 1, ⟨by omega, by go_num⟩, M9, by rw [HNx.out]; exact HSz.out.put HRz.out⟩
     case measure => simp [intOf]; omega
   ·go_simp
    obtain ⟨V2, hN⟩ : ∃ N, V.alloc (.cells #[.int .i64 0, .int .u64 0] 47) = N := ⟨_, rfl⟩
    have hb : Below V.heap.size V V2 := by rw [← hN]; exact (Below.refl _ _).alloc (Nat.le_refl _) _
    have hnew : Hid (Bk V2 V.heap.size 47 #[.int .i64 0, .int .u64 0]) := by show Bk _ _ _ _; rw [← hN]; exact Bk.new _ _ _
    have H16V : Hid (V.heap.size ≤ V.heap.size) := HVc.out.size
    have HVc := Lib.hid (HVc.out.trans (hb.mono HVc.out.size))
    have H16 := hnew
    rw [hN]
    clear hN hb hnew
    refine hK.out _ _ ?_ (fun hHeld => ?_)
    ·exact ⟨(HSV.out.bx.below HVc.out HSV.out.bx.lt).rng, range_below HQ1.out HVc.out hb1V⟩
    clear hK K
    try simp only [Act.put, pS]
    refine comeH2 6 10 rfl rfl rfl rfl rfl rfl rfl rfl (by kernel_rfl) (by rfl) (by rfl) (fun K hK => ?_) (fun K hK => ?_)
    ·go_simp
     have H16l := Lib.hid H16.out.lt
     refine (rdo_any T M n q.a0 q.a1 q.a2 q.a3 (g + 2) V.heap.size V2 (HSV.out.rw.below HVc.out (Nat.le_refl _)) (Nat.le_trans hgV HVc.out.size) HVc.out.size HT.out HA.out.a0 HA.out.a1 HA.out.a2).mono ?_
     rintro e V3 ⟨M9, r9, rfl, hrw, ⟨cc, uu, rfl⟩, hb⟩
     have HRo := Lib.hid hrw
     clear hrw
     have H16 := Lib.hid (H16.out.below hb H16.out.lt)
     have HVc := Lib.hid (HVc.out.trans (hb.mono HVc.out.size))
     have HKp : Hid (Kept V3.heap.size V.heap.size V2.heap.size V3 V3) := Kept.refl _ _ _ _
     have HNs9 : Hid (V3.heap.size ≤ V3.heap.size) := Nat.le_refl _
     have HVn := Lib.hid HVc.out.size
     clear hb
     have H16k : Hid (V3.heap.size ≤ V.heap.size ∨ (V.heap.size ≤ V.heap.size ∧ V.heap.size < V2.heap.size)) := .inr ⟨H16V.out, H16l.out⟩
     go_simp
     refine hK.out _ _ ?_ (fun hHeld => ?_)
     ·exact ⟨(HSV.out.bx.below HVc.out HSV.out.bx.lt).rng, range_below HQ1.out HVc.out hb1V⟩
     clear hK K
     try simp only [Act.put, pS]
     refine takeA 7 ?_
     try simp only [Act.put, pS]
     refine takeA 8 ?_
     try simp only [Act.put, pS]
     refine takeA 9 ?_
     try simp only [Act.put, pS]
     refine comeA 10 fun K hK => ?_
     go_simp
     have H16lt : Hid (V.heap.size < V3.heap.size) := H16.out.lt
     obtain ⟨V4, hN⟩ : ∃ N, V3.alloc (.cells (Tryz.zeroCells45) 45) = N := ⟨_, rfl⟩
     have hb : Below V3.heap.size V3 V4 := by rw [← hN]; exact (Below.refl _ _).alloc (Nat.le_refl _) _
     have hnew : Hid (Bk V4 V3.heap.size 45 (Tryz.zeroCells45)) := by show Bk _ _ _ _; rw [← hN]; exact Bk.new _ _ _
     have H15V : Hid (V.heap.size ≤ V3.heap.size) := HVc.out.size
     have H15k : Hid (V3.heap.size ≤ V3.heap.size ∨ (V.heap.size ≤ V3.heap.size ∧ V3.heap.size < V2.heap.size)) := .inl HNs9.out
     have H16 := Lib.hid (H16.out.below hb H16.out.lt)
     have HKp := Lib.hid (HKp.out.below hb HNs9.out)
     have HNs9 := Lib.hid (Nat.le_trans HNs9.out hb.size)
     have HVc := Lib.hid (HVc.out.trans (hb.mono HVc.out.size))
     have H15 := hnew
     rw [hN]
     clear hN hb hnew
     refine hK.out _ _ ?_ (fun hHeld => ?_)
     ·exact ⟨(HSV.out.bx.below HVc.out HSV.out.bx.lt).rng, range_below HQ1.out HVc.out hb1V⟩
     clear hK K
     try simp only [Act.put, pS]
     have HI9 : Hid ((Tryz.prog.info? 45).map (·.size) = some M9.size) := by show _ = _; rw [HRo.out.size]; kernel_rfl
     have HO9 : Hid (M9.all (·.oneCell') = true) := all_one HRo.out.one
     have hne : V3.heap.size ≠ V.heap.size := by have := H16lt.out; omega
     refine comeA 12 fun K hK => ?_
     refine wp_store_row 45 (.tmp 15) (.tmp 53) rfl V3.heap.size M9 (by rfl) (by rfl) 45 (Tryz.zeroCells45) H15.out HI9.out (by rw [HRo.out.size]; exact z144_size) HO9.out ?_
     obtain ⟨X1, hX⟩ : ∃ X, V4.setRow V3.heap.size M9 = X := ⟨_, rfl⟩
     have HVc : Hid (Below V.heap.size V X1) := by show Below _ _ _; rw [← hX]; exact below_setRow HVc.out H15V.out M9
     have HKp : Hid (Kept V3.heap.size V.heap.size V2.heap.size V3 X1) := by show Kept _ _ _ _ _; rw [← hX]; exact HKp.out.row H15k.out M9
     have H15 : Hid (Bk X1 V3.heap.size 45 M9) := by show Bk _ _ _ _; rw [← hX]; exact setRow_heap _ _ (Tryz.zeroCells45) M9 _ _ H15.out
     have HNs9 : Hid (V3.heap.size ≤ X1.heap.size) := by show _ ≤ _; rw [← hX]; exact Nat.le_trans HNs9.out (Nat.le_of_eq (by simp [World.setRow]))
     have H16 : Hid (Bk X1 V.heap.size 47 #[.int .i64 0, .int .u64 0]) := by show Bk _ _ _ _; rw [← hX]; exact (setRow_other _ _ _ _ (fun e => hne e.symm)).trans H16.out
     rw [hX]
     clear hX
     refine hK.out _ _ ?_ (fun hHeld => ?_)
     ·exact ⟨(HSV.out.bx.below HVc.out HSV.out.bx.lt).rng, range_below HQ1.out HVc.out hb1V⟩
     clear hK K
     try simp only [Act.put, pS]
     refine comeA 13 fun K hK => ?_
     have e0 := (c2 H16.out).1; have e1 := (c2 H16.out).2.1; have f0 := (c2 H16.out).2.2.1; have f1 := (c2 H16.out).2.2.2.1; have kf := H16.out.lt
     go_simp
     clear e0 e1 f0 f1 kf
     obtain ⟨X2, hX⟩ : ∃ X, (X1.setCell ⟨V.heap.size, 0, none⟩ (.int .i64 cc)).setCell ⟨V.heap.size, 1, none⟩ (.int .u64 uu) = X := ⟨_, rfl⟩
     have HVc : Hid (Below V.heap.size V X2) := by show Below _ _ _; rw [← hX]; exact (HVc.out.setCell (p := ⟨V.heap.size, 0, none⟩) H16V.out _).setCell (p := ⟨V.heap.size, 1, none⟩) H16V.out _
     have HKp : Hid (Kept V3.heap.size V.heap.size V2.heap.size V3 X2) := by show Kept _ _ _ _ _; rw [← hX]; exact (HKp.out.set_ (p := ⟨V.heap.size, 0, none⟩) H16k.out _).set_ (p := ⟨V.heap.size, 1, none⟩) H16k.out _
     have H15 : Hid (Bk X2 V3.heap.size 45 M9) := by show Bk _ _ _ _; rw [← hX]; exact bk_set_ne (bk_set_ne H15.out (p := ⟨V.heap.size, 0, none⟩) (fun e => hne e.symm)) (p := ⟨V.heap.size, 1, none⟩) (fun e => hne e.symm)
     have HNs9 : Hid (V3.heap.size ≤ X2.heap.size) := by show _ ≤ _; rw [← hX]; exact Nat.le_trans HNs9.out (Nat.le_of_eq (by simp [World.setCell]))
     rw [hX]
     clear hX H16
     refine hK.out _ _ ?_ (fun hHeld => ?_)
     ·exact ⟨(HSV.out.bx.below HVc.out HSV.out.bx.lt).rng, range_below HQ1.out HVc.out hb1V⟩
     clear hK K
     try simp only [Act.put, pS]
     refine wpAnyH_done (by kernel_rfl) ?_ _
     try simp only [Act.put, pS]
     clear hHeld
     have HSz := Lib.hid (HSV.out.below HVc.out)
     have HRz : Hid (RWd (g + 2) X2.heap.size X2 M9 (doP n q.a0 q.a1 q.a2 T)) := (HRo.out.kept HVn.out HKp.out).more HNs9.out
     have HHo : Hid (M.size = M9.size) := by show _ = _; rw [HSV.out.rw.size, HRo.out.size]
     go_upto_region 12 with fail
     go_upto_region 13 with (first
      | (refine wpList_load_row (by rfl) 45 (.tmp 15) (by rfl) V3.heap.size (by rfl) 45 M9 (0, 0) _ H15.out Tryz.underlying45 (by rfl) HI9.out ?_)
      | (refine wpList_store_row (by rfl) 45 (.tmp 12) (.tmp 55) (by rfl) (g + 1) M9 (by rfl) (by rfl) 45 M HSz.out.bx HI9.out HHo.out HO9.out ?_))
     go_wp2
     go_roundw
     case rel => exact ⟨m + 1, ⟨by omega, by go_num⟩, M9, by rw [HNx.out]; exact HSz.out.put HRz.out⟩
     case measure => simp [intOf]; omega
    ·go_simp
     have H16lt : Hid (V.heap.size < V2.heap.size) := H16.out.lt
     obtain ⟨V3, hN⟩ : ∃ N, V2.alloc (.cells (Tryz.zeroCells45) 45) = N := ⟨_, rfl⟩
     have hb : Below V2.heap.size V2 V3 := by rw [← hN]; exact (Below.refl _ _).alloc (Nat.le_refl _) _
     have hnew : Hid (Bk V3 V2.heap.size 45 (Tryz.zeroCells45)) := by show Bk _ _ _ _; rw [← hN]; exact Bk.new _ _ _
     have H15V : Hid (V.heap.size ≤ V2.heap.size) := HVc.out.size
     have H16 := Lib.hid (H16.out.below hb H16.out.lt)
     have HVc := Lib.hid (HVc.out.trans (hb.mono HVc.out.size))
     have H15 := hnew
     rw [hN]
     clear hN hb hnew
     refine hK.out _ _ ?_ (fun hHeld => ?_)
     ·exact ⟨(HSV.out.bx.below HVc.out HSV.out.bx.lt).rng, range_below HQ1.out HVc.out hb1V⟩
     clear hK K
     try simp only [Act.put, pS]
     refine comeA 6 fun K hK => ?_
     go_simp
     have H15l := Lib.hid H15.out.lt
     have H16l := Lib.hid H16.out.lt
     refine (rdo_any T M n q.a0 q.a1 q.a2 q.a3 (g + 2) V.heap.size V3 (HSV.out.rw.below HVc.out (Nat.le_refl _)) (Nat.le_trans hgV HVc.out.size) HVc.out.size HT.out HA.out.a0 HA.out.a1 HA.out.a2).mono ?_
     rintro e V4 ⟨M9, r9, rfl, hrw, ⟨cc, uu, rfl⟩, hb⟩
     have HRo := Lib.hid hrw
     clear hrw
     have H15 := Lib.hid (H15.out.below hb H15.out.lt)
     have H16 := Lib.hid (H16.out.below hb H16.out.lt)
     have HVc := Lib.hid (HVc.out.trans (hb.mono HVc.out.size))
     have HKp : Hid (Kept V4.heap.size V.heap.size V3.heap.size V4 V4) := Kept.refl _ _ _ _
     have HNs9 : Hid (V4.heap.size ≤ V4.heap.size) := Nat.le_refl _
     have HVn := Lib.hid HVc.out.size
     clear hb
     have H15k : Hid (V4.heap.size ≤ V2.heap.size ∨ (V.heap.size ≤ V2.heap.size ∧ V2.heap.size < V3.heap.size)) := .inr ⟨H15V.out, H15l.out⟩
     have H16k : Hid (V4.heap.size ≤ V.heap.size ∨ (V.heap.size ≤ V.heap.size ∧ V.heap.size < V3.heap.size)) := .inr ⟨H16V.out, H16l.out⟩
     go_simp
     refine hK.out _ _ ?_ (fun hHeld => ?_)
     ·exact ⟨(HSV.out.bx.below HVc.out HSV.out.bx.lt).rng, range_below HQ1.out HVc.out hb1V⟩
     clear hK K
     try simp only [Act.put, pS]
     refine takeA 7 ?_
     try simp only [Act.put, pS]
     refine takeA 8 ?_
     try simp only [Act.put, pS]
     refine takeA 9 ?_
     try simp only [Act.put, pS]
     have HI9 : Hid ((Tryz.prog.info? 45).map (·.size) = some M9.size) := by show _ = _; rw [HRo.out.size]; kernel_rfl
     have HO9 : Hid (M9.all (·.oneCell') = true) := all_one HRo.out.one
     have hne : V2.heap.size ≠ V.heap.size := by have := H16lt.out; omega
     refine comeA 12 fun K hK => ?_
     refine wp_store_row 45 (.tmp 15) (.tmp 53) rfl V2.heap.size M9 (by rfl) (by rfl) 45 (Tryz.zeroCells45) H15.out HI9.out (by rw [HRo.out.size]; exact z144_size) HO9.out ?_
     obtain ⟨X1, hX⟩ : ∃ X, V4.setRow V2.heap.size M9 = X := ⟨_, rfl⟩
     have HVc : Hid (Below V.heap.size V X1) := by show Below _ _ _; rw [← hX]; exact below_setRow HVc.out H15V.out M9
     have HKp : Hid (Kept V4.heap.size V.heap.size V3.heap.size V4 X1) := by show Kept _ _ _ _ _; rw [← hX]; exact HKp.out.row H15k.out M9
     have H15 : Hid (Bk X1 V2.heap.size 45 M9) := by show Bk _ _ _ _; rw [← hX]; exact setRow_heap _ _ (Tryz.zeroCells45) M9 _ _ H15.out
     have HNs9 : Hid (V4.heap.size ≤ X1.heap.size) := by show _ ≤ _; rw [← hX]; exact Nat.le_trans HNs9.out (Nat.le_of_eq (by simp [World.setRow]))
     have H16 : Hid (Bk X1 V.heap.size 47 #[.int .i64 0, .int .u64 0]) := by show Bk _ _ _ _; rw [← hX]; exact (setRow_other _ _ _ _ (fun e => hne e.symm)).trans H16.out
     rw [hX]
     clear hX
     refine hK.out _ _ ?_ (fun hHeld => ?_)
     ·exact ⟨(HSV.out.bx.below HVc.out HSV.out.bx.lt).rng, range_below HQ1.out HVc.out hb1V⟩
     clear hK K
     try simp only [Act.put, pS]
     refine comeA 13 fun K hK => ?_
     have e0 := (c2 H16.out).1; have e1 := (c2 H16.out).2.1; have f0 := (c2 H16.out).2.2.1; have f1 := (c2 H16.out).2.2.2.1; have kf := H16.out.lt
     go_simp
     clear e0 e1 f0 f1 kf
     obtain ⟨X2, hX⟩ : ∃ X, (X1.setCell ⟨V.heap.size, 0, none⟩ (.int .i64 cc)).setCell ⟨V.heap.size, 1, none⟩ (.int .u64 uu) = X := ⟨_, rfl⟩
     have HVc : Hid (Below V.heap.size V X2) := by show Below _ _ _; rw [← hX]; exact (HVc.out.setCell (p := ⟨V.heap.size, 0, none⟩) H16V.out _).setCell (p := ⟨V.heap.size, 1, none⟩) H16V.out _
     have HKp : Hid (Kept V4.heap.size V.heap.size V3.heap.size V4 X2) := by show Kept _ _ _ _ _; rw [← hX]; exact (HKp.out.set_ (p := ⟨V.heap.size, 0, none⟩) H16k.out _).set_ (p := ⟨V.heap.size, 1, none⟩) H16k.out _
     have H15 : Hid (Bk X2 V2.heap.size 45 M9) := by show Bk _ _ _ _; rw [← hX]; exact bk_set_ne (bk_set_ne H15.out (p := ⟨V.heap.size, 0, none⟩) (fun e => hne e.symm)) (p := ⟨V.heap.size, 1, none⟩) (fun e => hne e.symm)
     have HNs9 : Hid (V4.heap.size ≤ X2.heap.size) := by show _ ≤ _; rw [← hX]; exact Nat.le_trans HNs9.out (Nat.le_of_eq (by simp [World.setCell]))
     rw [hX]
     clear hX H16
     refine hK.out _ _ ?_ (fun hHeld => ?_)
     ·exact ⟨(HSV.out.bx.below HVc.out HSV.out.bx.lt).rng, range_below HQ1.out HVc.out hb1V⟩
     clear hK K
     try simp only [Act.put, pS]
     refine wpAnyH_done (by kernel_rfl) ?_ _
     try simp only [Act.put, pS]
     clear hHeld
     have HSz := Lib.hid (HSV.out.below HVc.out)
     have HRz : Hid (RWd (g + 2) X2.heap.size X2 M9 (doP n q.a0 q.a1 q.a2 T)) := (HRo.out.kept HVn.out HKp.out).more HNs9.out
     have HHo : Hid (M.size = M9.size) := by show _ = _; rw [HSV.out.rw.size, HRo.out.size]
     go_upto_region 12 with fail
     go_upto_region 13 with (first
      | (refine wpList_load_row (by rfl) 45 (.tmp 15) (by rfl) V2.heap.size (by rfl) 45 M9 (0, 0) _ H15.out Tryz.underlying45 (by rfl) HI9.out ?_)
      | (refine wpList_store_row (by rfl) 45 (.tmp 12) (.tmp 55) (by rfl) (g + 1) M9 (by rfl) (by rfl) 45 M HSz.out.bx HI9.out HHo.out HO9.out ?_))
     go_wp2
     go_roundw
     case rel => exact ⟨m + 1, ⟨by omega, by go_num⟩, M9, by rw [HNx.out]; exact HSz.out.put HRz.out⟩
     case measure => simp [intOf]; omega
  ·obtain rfl : m = n0 := by omega
   have hmi : ¬ ((m : Int) < (m : Int)) := by omega
   have HS := Lib.hid hS
   have hTk : ∀ x ∈ runT (Z9.take m) ths0, x.Ok 100 := fun x hx => (HOk9.out m x hx).more (by omega)
   have HT := Lib.hid hTk
   clear hS hTk
   generalize runT (Z9.take m) ths0 = T at HS HT
   go_upto_region 14 with fail
   obtain ⟨ST, hST⟩ : ∃ ST, str (textP T 16) = ST := ⟨_, rfl⟩
   obtain ⟨SF, hSF⟩ : ∃ SF, str (faultP ln er) = SF := ⟨_, rfl⟩
   obtain ⟨SP, hSP⟩ : ∃ SP, str (sumsP pk sw wd lb) = SP := ⟨_, rfl⟩
   have HST := Lib.hid hST
   have HSF := Lib.hid hSF
   have HSP := Lib.hid hSP
   have HIM : Hid ((Tryz.prog.info? 45).map (·.size) = some M.size) := by show _ = _; rw [HS.out.rw.size]; kernel_rfl
   clear hST hSF hSP
   obtain ⟨V, hV⟩ : ∃ V, wr.drew = V := ⟨_, rfl⟩
   refine wp_region_held_drew (S := (fun w' => w'.rangeAt (g + 1) 0 M.toList ∧ w'.rangeAt W.heap.size 0 (#[.int .i64 ln, .int .i64 er] : Array Value).toList ∧ w'.rangeAt (W.heap.size + 1) 0 (#[.int .i64 sw, .int .i64 wd, .int .i64 lb] : Array Value).toList ∧ w'.cell? ⟨W.heap.size, 0, none⟩ = some (.int .i64 ln) ∧ w'.cell? ⟨W.heap.size, 1, none⟩ = some (.int .i64 er))) (by kernel_rfl) ?_ (fun hHeld => ?_)
   ·exact ⟨HS.out.bx.rng, HS.out.hf.rng, HS.out.hp.rng, HS.out.hf.cell 0, HS.out.hf.cell 1⟩
   refine takeA 0 ?_
   try simp only [Act.put, pS]
   refine loadA 2 M Tryz.underlying45 rfl HIM.out ?_ ?_
   ·(intro w hSw; exact hSw.1)
   try simp only [Act.put, pS]
   have HS : Hid (LS W V g (g + 2) ln er sw wd lb M T T) := by show LS _ _ _ _ _ _ _ _ _ _ _ _; rw [← hV]; exact HS.out.below (Below.refl _ _).drew
   rw [hV] at hHeld ⊢
   clear hV
   refine comeA 1 fun K hK => ?_
   go_simp
   refine (things_any T g _ HS.out.own HT.out (HTab.out.below HS.out.hb)).mono ?_
   rintro e V2 ⟨rfl, hb⟩
   rw [HST.out]
   have HS := Lib.hid (HS.out.below hb)
   clear hb
   go_simp
   refine hK.out _ _ ?_ (fun hHeld => ?_)
   ·exact ⟨HS.out.bx.rng, HS.out.hf.rng, HS.out.hp.rng, HS.out.hf.cell 0, HS.out.hf.cell 1⟩
   clear hK K
   try simp only [Act.put, pS]
   refine comeA 3 fun K hK => ?_
   go_simp
   refine (rthings_any T M (g + 2) _ HS.out.rw HT.out).mono ?_
   rintro e V3 ⟨rfl, hb⟩
   rw [HST.out]
   have HS := Lib.hid (HS.out.below hb)
   clear hb
   go_simp
   refine hK.out _ _ ?_ (fun hHeld => ?_)
   ·exact ⟨HS.out.bx.rng, HS.out.hf.rng, HS.out.hp.rng, HS.out.hf.cell 0, HS.out.hf.cell 1⟩
   clear hK K
   try simp only [Act.put, pS]
   have hs1 : (ST.toList == ST.toList) = true := by simp
   have hs2 : (SF.toList == SF.toList) = true := by simp
   have hs3 : (SP.toList == SP.toList) = true := by simp
   refine takeA 4 ?_
   try simp only [Act.put, pS]
   refine takeA 5 ?_
   try simp only [Act.put, pS]
   refine loadA 6 #[.int .i64 ln, .int .i64 er] Tryz.underlying26 rfl (by kernel_rfl) ?_ ?_
   ·(intro w hSw; exact hSw.2.1)
   try simp only [Act.put, pS]
   refine takeA 8 ?_
   try simp only [Act.put, pS]
   refine takeA 9 ?_
   try simp only [Act.put, pS]
   refine takeA 10 ?_
   try simp only [Act.put, pS]
   refine takeA 11 ?_
   try simp only [Act.put, pS]
   refine takeA 12 ?_
   try simp only [Act.put, pS]
   refine comeA 7 fun K hK => ?_
   go_simp
   refine (fault_any ln er _ HNum.out.1.1 HNum.out.1.2 HNum.out.2.1.1 HNum.out.2.1.2 (HTab.out.below HS.out.hb)).mono ?_
   rintro e V4 ⟨rfl, hb⟩
   rw [HSF.out]
   have HS := Lib.hid (HS.out.below hb)
   clear hb
   go_simp
   refine hK.out _ _ ?_ (fun hHeld => ?_)
   ·exact ⟨HS.out.bx.rng, HS.out.hf.rng, HS.out.hp.rng, HS.out.hf.cell 0, HS.out.hf.cell 1⟩
   clear hK K
   try simp only [Act.put, pS]
   refine comeA 13 fun K hK => ?_
   go_simp
   refine (rfault_any ln er _ HNum.out.1 HNum.out.2.1).mono ?_
   rintro e V5 ⟨rfl, hb⟩
   rw [HSF.out]
   have HS := Lib.hid (HS.out.below hb)
   clear hb
   go_simp
   refine hK.out _ _ ?_ (fun hHeld => ?_)
   ·exact ⟨HS.out.bx.rng, HS.out.hf.rng, HS.out.hp.rng, HS.out.hf.cell 0, HS.out.hf.cell 1⟩
   clear hK K
   try simp only [Act.put, pS]
   refine takeA 14 ?_
   try simp only [Act.put, pS]
   refine takeA 15 ?_
   try simp only [Act.put, pS]
   refine takeA 16 ?_
   try simp only [Act.put, pS]
   refine takeA 17 ?_
   try simp only [Act.put, pS]
   refine loadA 18 #[.int .i64 sw, .int .i64 wd, .int .i64 lb] Tryz.underlying28 rfl (by kernel_rfl) ?_ ?_
   ·(intro w hSw; exact hSw.2.2.1)
   try simp only [Act.put, pS]
   refine takeA 20 ?_
   try simp only [Act.put, pS]
   refine loadA 21 #[.int .i64 sw, .int .i64 wd, .int .i64 lb] Tryz.underlying28 rfl (by kernel_rfl) ?_ ?_
   ·(intro w hSw; exact hSw.2.2.1)
   try simp only [Act.put, pS]
   refine comeA 19 fun K hK => ?_
   go_simp
   refine (sums_any pk sw wd lb _ (four_in HNum.out.2.2.1 HNum.out.2.2.2.1 HNum.out.2.2.2.2.1 HNum.out.2.2.2.2.2) (HTab.out.below HS.out.hb)).mono ?_
   rintro e V6 ⟨rfl, hb⟩
   rw [HSP.out]
   have HS := Lib.hid (HS.out.below hb)
   clear hb
   go_simp
   refine hK.out _ _ ?_ (fun hHeld => ?_)
   ·exact ⟨HS.out.bx.rng, HS.out.hf.rng, HS.out.hp.rng, HS.out.hf.cell 0, HS.out.hf.cell 1⟩
   clear hK K
   try simp only [Act.put, pS]
   refine comeA 22 fun K hK => ?_
   go_simp
   refine (rsums_any pk sw wd lb _ HNum.out.2.2.1 HNum.out.2.2.2.1 HNum.out.2.2.2.2.1 HNum.out.2.2.2.2.2).mono ?_
   rintro e V7 ⟨rfl, hb⟩
   rw [HSP.out]
   have HS := Lib.hid (HS.out.below hb)
   clear hb
   go_simp
   refine hK.out _ _ ?_ (fun hHeld => ?_)
   ·exact ⟨HS.out.bx.rng, HS.out.hf.rng, HS.out.hp.rng, HS.out.hf.cell 0, HS.out.hf.cell 1⟩
   clear hK K
   try simp only [Act.put, pS]
   refine takeA 23 ?_
   try simp only [Act.put, pS]
   refine takeA 24 ?_
   try simp only [Act.put, pS]
   refine takeA 25 ?_
   try simp only [Act.put, pS]
   refine wpAnyH_done (by kernel_rfl) ?_ _
   try simp only [Act.put, pS]
   clear hHeld
   go_wp2
   go_ret
   exact ⟨rfl, HS.out.hb⟩
end Go.Proofs.YtiiaingepbkikaaGreatDoor
