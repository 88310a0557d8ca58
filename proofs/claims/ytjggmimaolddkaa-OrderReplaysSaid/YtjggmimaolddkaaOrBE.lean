import Derived.Test.YtjggmimaolddkaaOrBD
import Derived.Test.YtjggmimaolddkaaOrAR
namespace Go.Proofs.Ytjggmimaolddkaa
open Go.RowKit
set_option linter.unusedVariables false
set_option linter.unusedSimpArgs false
def zero41 : Array Value := #[.int .u64 0, .int .u64 0, .int .u64 0, .int .u64 0, .int .u64 0, .int .u64 0, .int .u64 0, .int .u64 0, .int .u64 0, .int .u64 0, .int .u64 0, .int .u64 0, .int .u64 0, .int .u64 0, .int .u64 0, .int .u64 0, .slice none 0 0, .int .i64 0, .int .u64 0, .int .u64 0, .int .u64 0, .int .u64 0, .int .u64 0, .int .u64 0, .int .u64 0, .int .u64 0, .int .u64 0, .int .u64 0, .int .u64 0, .int .u64 0, .int .u64 0, .int .u64 0, .int .u64 0, .int .u64 0, .int .i64 0, .int .i64 0, .slice none 0 0, .slice none 0 0, .bool false, .int .u64 0, .int .i64 0]
theorem zero41_size {c : RR} (h : c.Sz) : zero41.size = c.cells.toArray.size := by
 have : c.cells.toArray.size = 41 := by rw [List.size_toArray, RR.len h]
 rw [this]; rfl
def fresh17 (i : Ins) (r : MRun) : MRun := match r.pick with
 | [] => { r with code := 43 }
 | h :: rest => if (r.st.blocks h).isSome ∨ h = 0 ∨ 64 < h then { r with code := 43 }
   else { r with pick := rest, st := { r.st with blocks := upd r.st.blocks h (some zero8) }, news := r.news ++ [h], regs := r.regs.set i.a.toNat h }
theorem RVIn.setE {w : World} {B : Nat} {c : RR} {r : MRun} (h : RVIn w B c r) (x : Int) : RVIn w B { c with e := x } { r with code := x } :=
 ⟨⟨h.sz.1, h.sz.2⟩, h.roots, h.regs, h.pc, h.steps, h.writes, h.ended, h.val, rfl, h.box, h.news, h.pick, h.few⟩
theorem rf_ones (l : List Int) : ∀ u ∈ u64s l, u.oneCell' = true := by
 intro u hu
 obtain ⟨x, _, rfl⟩ := List.mem_map.1 hu
 rfl
theorem rf_u64s_app (a b : List Int) : u64s (a ++ b) = u64s a ++ u64s b := List.map_append
theorem own_set {w : World} {g k base size n : Nat} {e : TypeId} {v x : Value} {xs : List Value} {c : RR} (hK : BkC w g c) (h : w.ownsRow base e size v n xs) (hne : e ≠ RUN) : (w.setCell ⟨g, k, none⟩ x).ownsRow base e size v n xs :=
 h.kept (grown_set w g k x) (.inr (hK.bk.ne_own h hne))
theorem own_setRow {w : World} {g base size n : Nat} {e t : TypeId} {v : Value} {xs : List Value} {cs : Array Value} (hK : Bk w g t cs) (h : w.ownsRow base e size v n xs) (hne : e ≠ t) (cs' : Array Value) : (w.setRow g cs').ownsRow base e size v n xs :=
 h.kept (grown_setRow w g cs') (.inr (hK.ne_own h hne))
theorem rf_elem : Try.prog.underlying 34 = some (.slice (Try.prog.elem 34)) := by kernel_rfl
theorem rf_size (W : World) : (sizeOf (Try.prog.elem 34)).run Try.prog W = .ok 1 W := by kernel_rfl
theorem cut_at {P : Program} {w : World} {B size n c : Nat} {A : Option Addr} {xs : List Value} (T : TypeId) (hT : P.underlying T = some (.slice (P.elem T))) (hs : ∀ W : World, (sizeOf (P.elem T)).run P W = .ok size W) (hr : Rd w B size A n xs) (hnc : n ≤ c) (k : Nat) (z : Int) (hz : z = k) (hk : k ≤ n) :
 ∃ A', (∀ W : World, (Instr.sliceAt T (.slice A n c) (some (.int .i64 z)) none none).run P W = .ok (.slice A' (n - k) (c - k)) W) ∧ Rd w B size A' (n - k) (xs.drop (k * size)) ∧ (∀ b o, A = some ⟨b, o, none⟩ → ∀ a, A' = some a → a.block = b) := by
 subst hz
 refine ⟨if c = k then A else A.map (·.add (k * size)), fun W => ?_, ?_, ?_⟩
 ·rw [run_sliceAt_slice W T _ _ _ _ hT, run_slice_l W T A n c hT .i64 k (by omega) (by omega), hs]
  simp [Result.andThen, sliced]
 ·refine ⟨by rw [List.length_drop, hr.len, Nat.sub_mul], by have := hr.le; omega, fun hn => ?_⟩
  obtain ⟨b, o, rfl, hb, hc⟩ := hr.at_ (by omega)
  rw [if_neg (by omega)]
  by_cases h0 : k * size = 0
  ·refine ⟨b, o, by simp [Addr.add, h0], hb, fun j u hu => hc j u ?_⟩
   rw [List.getElem?_drop, h0] at hu
   simpa using hu
  ·refine ⟨b, o + k * size, by simp [Addr.add, h0], hb, fun j u hu => ?_⟩
   rw [List.getElem?_drop] at hu
   rw [Nat.add_assoc]; exact hc _ u hu
 ·rintro b o rfl a ha
  split at ha
  ·injection ha with ha; subst ha; rfl
  ·simp only [Option.map_some, Option.some.injEq] at ha
   subst ha
   unfold Addr.add
   split <;> rfl
theorem few_new {s : MSt} (h : Few64 s) {x : Int} (hx : 1 ≤ x ∧ x ≤ 64) (v : List Int) : Few64 { s with blocks := upd s.blocks x (some v) } := by
 intro y hy
 by_cases e : y = x
 ·subst e; exact hx
 ·refine h y ?_
  simpa [upd, e] using hy
theorem BkC.setE {w : World} {g : Nat} {c : RR} (h : BkC w g c) (x : Int) : BkC (w.setCell ⟨g, 40, none⟩ (.int .i64 x)) g { c with e := x } := h.setAny (RR.set_e h.sz x) h.sz.1 h.sz.2
set_option maxRecDepth 100000 in
set_option maxHeartbeats 16000000 in
theorem rfresh_any (c : RR) (r : MRun) (i : Ins) (w : World) (hv0 : RVIn w w.heap.size c r) (ha : 0 ≤ i.a ∧ i.a < 16) (hpu : ∀ x ∈ r.pick, U64 x) (hn : r.news.length ≤ 1000000) (S : Nat → Prop) (hs : SIn S c) :
 Calls Try.prog 76 #[.agg c.cells.toArray, i.v] w (RunP S (fresh17 i r) w) := by
 obtain ⟨op, ia, ib, ic, imm⟩ := i
 simp only at ha
 obtain ⟨a, rfl⟩ : ∃ a : Nat, ia = (a : Int) := ⟨ia.toNat, by omega⟩
 have ha16 : a < 16 := by omega
 obtain ⟨xA, xn, xk, l, hbv, hX, hBX⟩ := hv0.box
 obtain ⟨pA, pk, hpv, hP, hpk⟩ := hv0.pick
 have hv := Lib.hid hv0
 have hx65 := few_len hBX hv0.few hX
 have hpl := hP.le
 unfold maxLen at hpl
 have HBV := Lib.hid hbv
 have HPV := Lib.hid hpv
 have HX := Lib.hid hX
 have HBX := Lib.hid hBX
 have HP := Lib.hid hP
 have HPu := Lib.hid hpu
 have HSS := Lib.hid hs
 have hsz := hv0.sz
 obtain ⟨M, hM⟩ : ∃ M, c.cells.toArray = M := ⟨_, rfl⟩
 rw [hM]
 obtain ⟨W1, hW1⟩ : ∃ W1, ((w.alloc (.cells M 87)).alloc (.cells #[.int .i64 op, .int .i64 a, .int .i64 ib, .int .i64 ic, .int .u64 imm] 62)).alloc (.cells #[.int .u64 0, .int .u64 0, .int .u64 0, .int .u64 0, .int .u64 0, .int .u64 0, .int .u64 0, .int .u64 0, .int .u64 0, .int .u64 0, .int .u64 0, .int .u64 0, .int .u64 0, .int .u64 0, .int .u64 0, .int .u64 0, .slice none 0 0, .int .i64 0, .int .u64 0, .int .u64 0, .int .u64 0, .int .u64 0, .int .u64 0, .int .u64 0, .int .u64 0, .int .u64 0, .int .u64 0, .int .u64 0, .int .u64 0, .int .u64 0, .int .u64 0, .int .u64 0, .int .u64 0, .int .u64 0, .int .i64 0, .int .i64 0, .slice none 0 0, .slice none 0 0, .bool false, .int .u64 0, .int .i64 0] 87) = W1 := ⟨_, rfl⟩
 have HB : Hid (Below w.heap.size w W1) := by show Below _ _ _; rw [← hW1]; exact (((Below.refl _ _).alloc (Nat.le_refl _) _).alloc (by simp) _).alloc (by simp; omega) _
 have HK : Hid (BkC W1 w.heap.size c) := by show BkC _ _ _; rw [← hW1, ← hM]; exact ⟨((Bk.new w _ _).alloc _).alloc _, hsz⟩
 have HI : Hid (Bk W1 (w.heap.size + 1) 62 #[.int .i64 op, .int .i64 a, .int .i64 ib, .int .i64 ic, .int .u64 imm]) := by show Bk _ _ _ _; rw [← hW1]; exact (rf_new1 _ (by simp) _ _).alloc _
 have HZ : Hid (Bk W1 (w.heap.size + 1 + 1) 87 zero41) := by show Bk _ _ _ _; rw [← hW1]; exact rf_new1 _ (by simp) _ _
 have HW1 := Lib.hid hW1
 clear hv0 hpu hs hM hsz hP hX hBX hbv hpv hW1
 simp only [Ins.v]
 go_enter Try.func76, Try.ntmps76
 go_upto_region 1 with fail
 rw [HW1.out]
 clear HW1
 have k37 : W1.cell? ⟨w.heap.size, 37, none⟩ = some (.slice pA r.pick.length pk) := HK.out.pv.trans (by rw [HPV.out])
 cases hpc : r.pick with
 | nil =>
   rw [hpc] at k37
   refine wp_region_held_drew (S := (fun w' => w'.cell? ⟨w.heap.size, 37, none⟩ = some (.slice pA 0 pk))) (by kernel_rfl) ?_ (fun hHeld => ?_)
   ·exact k37
   refine takeA 0 ?_
   try simp only [Act.put, pS]
   refine takeA 1 ?_
   try simp only [Act.put, pS]
   refine takeA 2 ?_
   try simp only [Act.put, pS]
   refine takeA 3 ?_
   try simp only [Act.put, pS]
   refine takeA 4 ?_
   try simp only [Act.put, pS]
   refine skipA 5 ?_
   try simp only [Act.put, pS]
   refine skipA 6 ?_
   try simp only [Act.put, pS]
   refine skipA 7 ?_
   try simp only [Act.put, pS]
   refine skipA 8 ?_
   try simp only [Act.put, pS]
   refine skipA 9 ?_
   try simp only [Act.put, pS]
   refine takeA 10 ?_
   try simp only [Act.put, pS]
   refine takeA 11 ?_
   try simp only [Act.put, pS]
   refine skipA 12 ?_
   try simp only [Act.put, pS]
   refine skipA 13 ?_
   try simp only [Act.put, pS]
   refine skipA 14 ?_
   try simp only [Act.put, pS]
   refine skipA 15 ?_
   try simp only [Act.put, pS]
   refine skipA 16 ?_
   try simp only [Act.put, pS]
   refine takeA 17 ?_
   try simp only [Act.put, pS]
   refine takeA 18 ?_
   try simp only [Act.put, pS]
   refine skipA 19 ?_
   try simp only [Act.put, pS]
   refine skipA 20 ?_
   try simp only [Act.put, pS]
   refine skipA 21 ?_
   try simp only [Act.put, pS]
   refine skipA 22 ?_
   try simp only [Act.put, pS]
   refine skipA 23 ?_
   try simp only [Act.put, pS]
   refine skipA 24 ?_
   try simp only [Act.put, pS]
   refine skipA 25 ?_
   try simp only [Act.put, pS]
   refine skipA 26 ?_
   try simp only [Act.put, pS]
   refine takeA 27 ?_
   try simp only [Act.put, pS]
   refine wpAnyH_done (by kernel_rfl) ?_ _
   try simp only [Act.put, pS]
   obtain ⟨V, hV⟩ : ∃ V, W1.drew = V := ⟨_, rfl⟩
   have HBd : Below w.heap.size w V := by rw [← hV]; exact HB.out.drew
   have HKd : BkC V w.heap.size c := by rw [← hV]; exact HK.out.drew
   have HZd : Bk V (w.heap.size + 1 + 1) 87 zero41 := by rw [← hV]; exact HZ.out
   rw [hV]
   clear HB HK HZ k37 hV
   have HB := Lib.hid HBd
   have HK := Lib.hid HKd
   have HZ := Lib.hid HZd
   clear HBd HKd HZd
   have HE : Hid (fresh17 ⟨op, (a : Int), ib, ic, imm⟩ r = { r with code := 43 }) := by show _ = _; unfold fresh17; rw [hpc]
   have HK43 : Hid (BkC (V.setCell ⟨w.heap.size, 40, none⟩ (.int .i64 43)) w.heap.size { c with e := 43 }) := HK.out.setE 43
   have HZ43 : Hid (Bk (V.setCell ⟨w.heap.size, 40, none⟩ (.int .i64 43)) (w.heap.size + 1 + 1) 87 zero41) := HZ.out.set_ne (by omega) _ _
   have HB43 : Hid (Below w.heap.size w (V.setCell ⟨w.heap.size, 40, none⟩ (.int .i64 43))) := HB.out.setCell (Nat.le_refl _) _
   have c40 : V.cell? ⟨w.heap.size, 40, none⟩ = some (.int .i64 c.e) := HK.out.err
   have f40 : V.frozen? ⟨w.heap.size, 40, none⟩ = false := HK.out.bk.frozen 40
   have HO43 : Hid (({ c with e := 43 } : RR).cells.toArray.all (·.oneCell') = true) := (hv.out.setE 43).ones
   go_wp2_with (first
    | (refine wpList_load_row (by rfl) 87 (.tmp 2) (by rfl) w.heap.size (by rfl) 87 ({ c with e := 43 } : RR).cells.toArray (0, 0) _ HK43.out.bk Try.underlying87 (by rfl) (info_run17 HK43.out.sz) ?_)
    | (refine wpList_store_row (by rfl) 87 (.tmp 4) (.tmp 35) (by rfl) (w.heap.size + 1 + 1) ({ c with e := 43 } : RR).cells.toArray (by rfl) (by rfl) 87 zero41 HZ43.out (info_run17 HK43.out.sz) (zero41_size HK43.out.sz) HO43.out ?_))
   refine bodyPost_ret (res_run 4 rfl _ _ (w.heap.size + 1 + 1) { c with e := 43 } (by rfl) ⟨HZ43.out.setRow _, HK43.out.sz⟩) rfl ?_
   have hb9 := lbelow_setRow HB43.out (show w.heap.size ≤ w.heap.size + 1 + 1 by omega) ({ c with e := 43 } : RR).cells.toArray
   rw [HE.out]
   exact ⟨_, rfl, ((hv.out.setE 43).below hb9).more hb9.size, (HSS.out.keep rfl rfl rfl), hb9⟩
 | cons h rest =>
   obtain ⟨pb, po, rfl, hpb, hpat⟩ := HP.out.at_ (by rw [hpc]; simp)
   have kh : W1.cell? ⟨pb, po, none⟩ = some (.int .u64 h) := (HB.out.cell (p := ⟨pb, po, none⟩) hpb).trans (hpat 0 _ (by rw [hpc]; rfl))
   have HKH := Lib.hid (hpat 0 _ (by rw [hpc]; rfl) : w.cell? ⟨pb, po, none⟩ = some (.int .u64 h))
   have uh : U64 h := HPu.out h (by rw [hpc]; simp)
   obtain ⟨n, hnn⟩ : ∃ n, r.pick.length = n := ⟨_, rfl⟩
   have hn1 : n = rest.length + 1 := by rw [← hnn, hpc]; rfl
   have hn0 : 0 < n := by omega
   have hni : (0 : Int) < (n : Int) := by omega
   have e0 : ((n : Int) == 0) = false := beq_eq_false_iff_ne.2 (by omega)
   rw [hnn] at k37
   have HN := Lib.hid (And.intro hnn hn1)
   have HPC := Lib.hid hpc
   have HU := Lib.hid uh
   clear hnn hn1 hpat hpc uh
   by_cases h0 : h = 0
   ·have eh : (h == 0) = true := beq_iff_eq.2 h0
    refine wp_region_held_drew (S := (fun w' => w'.cell? ⟨w.heap.size, 37, none⟩ = some (.slice (some ⟨pb, po, none⟩) n pk) ∧ w'.cell? ⟨pb, po, none⟩ = some (.int .u64 h))) (by kernel_rfl) ?_ (fun hHeld => ?_)
    ·exact ⟨k37, kh⟩
    refine takeA 0 ?_
    try simp only [Act.put, pS]
    refine takeA 1 ?_
    try simp only [Act.put, pS]
    refine takeA 2 ?_
    try simp only [Act.put, pS]
    refine takeA 3 ?_
    try simp only [Act.put, pS]
    refine takeA 4 ?_
    try simp only [Act.put, pS]
    refine takeA 5 ?_
    try simp only [Act.put, pS]
    refine takeA 6 ?_
    try simp only [Act.put, pS]
    refine takeA 7 ?_
    try simp only [Act.put, pS]
    refine takeA 8 ?_
    try simp only [Act.put, pS]
    refine takeA 9 ?_
    try simp only [Act.put, pS]
    refine takeA 10 ?_
    try simp only [Act.put, pS]
    refine takeA 11 ?_
    try simp only [Act.put, pS]
    refine skipA 12 ?_
    try simp only [Act.put, pS]
    refine skipA 13 ?_
    try simp only [Act.put, pS]
    refine skipA 14 ?_
    try simp only [Act.put, pS]
    refine skipA 15 ?_
    try simp only [Act.put, pS]
    refine skipA 16 ?_
    try simp only [Act.put, pS]
    refine takeA 17 ?_
    try simp only [Act.put, pS]
    refine takeA 18 ?_
    try simp only [Act.put, pS]
    refine skipA 19 ?_
    try simp only [Act.put, pS]
    refine skipA 20 ?_
    try simp only [Act.put, pS]
    refine skipA 21 ?_
    try simp only [Act.put, pS]
    refine skipA 22 ?_
    try simp only [Act.put, pS]
    refine skipA 23 ?_
    try simp only [Act.put, pS]
    refine skipA 24 ?_
    try simp only [Act.put, pS]
    refine skipA 25 ?_
    try simp only [Act.put, pS]
    refine skipA 26 ?_
    try simp only [Act.put, pS]
    refine takeA 27 ?_
    try simp only [Act.put, pS]
    refine wpAnyH_done (by kernel_rfl) ?_ _
    try simp only [Act.put, pS]
    obtain ⟨V, hV⟩ : ∃ V, W1.drew = V := ⟨_, rfl⟩
    have HBd : Below w.heap.size w V := by rw [← hV]; exact HB.out.drew
    have HKd : BkC V w.heap.size c := by rw [← hV]; exact HK.out.drew
    have HZd : Bk V (w.heap.size + 1 + 1) 87 zero41 := by rw [← hV]; exact HZ.out
    rw [hV]
    clear HB HK HZ k37 kh hV
    have HB := Lib.hid HBd
    have HK := Lib.hid HKd
    have HZ := Lib.hid HZd
    clear HBd HKd HZd
    have HE : Hid (fresh17 ⟨op, (a : Int), ib, ic, imm⟩ r = { r with code := 43 }) := by show _ = _; unfold fresh17; rw [HPC.out]; exact if_pos (.inr (.inl h0))
    have HK43 : Hid (BkC (V.setCell ⟨w.heap.size, 40, none⟩ (.int .i64 43)) w.heap.size { c with e := 43 }) := HK.out.setE 43
    have HZ43 : Hid (Bk (V.setCell ⟨w.heap.size, 40, none⟩ (.int .i64 43)) (w.heap.size + 1 + 1) 87 zero41) := HZ.out.set_ne (by omega) _ _
    have HB43 : Hid (Below w.heap.size w (V.setCell ⟨w.heap.size, 40, none⟩ (.int .i64 43))) := HB.out.setCell (Nat.le_refl _) _
    have c40 : V.cell? ⟨w.heap.size, 40, none⟩ = some (.int .i64 c.e) := HK.out.err
    have f40 : V.frozen? ⟨w.heap.size, 40, none⟩ = false := HK.out.bk.frozen 40
    have HO43 : Hid (({ c with e := 43 } : RR).cells.toArray.all (·.oneCell') = true) := (hv.out.setE 43).ones
    go_wp2_with (first
     | (refine wpList_load_row (by rfl) 87 (.tmp 2) (by rfl) w.heap.size (by rfl) 87 ({ c with e := 43 } : RR).cells.toArray (0, 0) _ HK43.out.bk Try.underlying87 (by rfl) (info_run17 HK43.out.sz) ?_)
     | (refine wpList_store_row (by rfl) 87 (.tmp 4) (.tmp 35) (by rfl) (w.heap.size + 1 + 1) ({ c with e := 43 } : RR).cells.toArray (by rfl) (by rfl) 87 zero41 HZ43.out (info_run17 HK43.out.sz) (zero41_size HK43.out.sz) HO43.out ?_))
    refine bodyPost_ret (res_run 4 rfl _ _ (w.heap.size + 1 + 1) { c with e := 43 } (by rfl) ⟨HZ43.out.setRow _, HK43.out.sz⟩) rfl ?_
    have hb9 := lbelow_setRow HB43.out (show w.heap.size ≤ w.heap.size + 1 + 1 by omega) ({ c with e := 43 } : RR).cells.toArray
    rw [HE.out]
    exact ⟨_, rfl, ((hv.out.setE 43).below hb9).more hb9.size, (HSS.out.keep rfl rfl rfl), hb9⟩
   have eh : (h == 0) = false := beq_eq_false_iff_ne.2 h0
   by_cases h64 : 64 < h
   ·have e64 : decide (64 < h) = true := decide_eq_true h64
    refine wp_region_held_drew (S := (fun w' => w'.cell? ⟨w.heap.size, 37, none⟩ = some (.slice (some ⟨pb, po, none⟩) n pk) ∧ w'.cell? ⟨pb, po, none⟩ = some (.int .u64 h))) (by kernel_rfl) ?_ (fun hHeld => ?_)
    ·exact ⟨k37, kh⟩
    refine takeA 0 ?_
    try simp only [Act.put, pS]
    refine takeA 1 ?_
    try simp only [Act.put, pS]
    refine takeA 2 ?_
    try simp only [Act.put, pS]
    refine takeA 3 ?_
    try simp only [Act.put, pS]
    refine takeA 4 ?_
    try simp only [Act.put, pS]
    refine takeA 5 ?_
    try simp only [Act.put, pS]
    refine takeA 6 ?_
    try simp only [Act.put, pS]
    refine takeA 7 ?_
    try simp only [Act.put, pS]
    refine takeA 8 ?_
    try simp only [Act.put, pS]
    refine takeA 9 ?_
    try simp only [Act.put, pS]
    refine takeA 10 ?_
    try simp only [Act.put, pS]
    refine takeA 11 ?_
    try simp only [Act.put, pS]
    refine takeA 12 ?_
    try simp only [Act.put, pS]
    refine takeA 13 ?_
    try simp only [Act.put, pS]
    refine takeA 14 ?_
    try simp only [Act.put, pS]
    refine takeA 15 ?_
    try simp only [Act.put, pS]
    refine takeA 16 ?_
    try simp only [Act.put, pS]
    refine takeA 17 ?_
    try simp only [Act.put, pS]
    refine takeA 18 ?_
    try simp only [Act.put, pS]
    refine skipA 19 ?_
    try simp only [Act.put, pS]
    refine skipA 20 ?_
    try simp only [Act.put, pS]
    refine skipA 21 ?_
    try simp only [Act.put, pS]
    refine skipA 22 ?_
    try simp only [Act.put, pS]
    refine skipA 23 ?_
    try simp only [Act.put, pS]
    refine skipA 24 ?_
    try simp only [Act.put, pS]
    refine skipA 25 ?_
    try simp only [Act.put, pS]
    refine skipA 26 ?_
    try simp only [Act.put, pS]
    refine takeA 27 ?_
    try simp only [Act.put, pS]
    refine wpAnyH_done (by kernel_rfl) ?_ _
    try simp only [Act.put, pS]
    obtain ⟨V, hV⟩ : ∃ V, W1.drew = V := ⟨_, rfl⟩
    have HBd : Below w.heap.size w V := by rw [← hV]; exact HB.out.drew
    have HKd : BkC V w.heap.size c := by rw [← hV]; exact HK.out.drew
    have HZd : Bk V (w.heap.size + 1 + 1) 87 zero41 := by rw [← hV]; exact HZ.out
    rw [hV]
    clear HB HK HZ k37 kh hV
    have HB := Lib.hid HBd
    have HK := Lib.hid HKd
    have HZ := Lib.hid HZd
    clear HBd HKd HZd
    have HE : Hid (fresh17 ⟨op, (a : Int), ib, ic, imm⟩ r = { r with code := 43 }) := by show _ = _; unfold fresh17; rw [HPC.out]; exact if_pos (.inr (.inr h64))
    have HK43 : Hid (BkC (V.setCell ⟨w.heap.size, 40, none⟩ (.int .i64 43)) w.heap.size { c with e := 43 }) := HK.out.setE 43
    have HZ43 : Hid (Bk (V.setCell ⟨w.heap.size, 40, none⟩ (.int .i64 43)) (w.heap.size + 1 + 1) 87 zero41) := HZ.out.set_ne (by omega) _ _
    have HB43 : Hid (Below w.heap.size w (V.setCell ⟨w.heap.size, 40, none⟩ (.int .i64 43))) := HB.out.setCell (Nat.le_refl _) _
    have c40 : V.cell? ⟨w.heap.size, 40, none⟩ = some (.int .i64 c.e) := HK.out.err
    have f40 : V.frozen? ⟨w.heap.size, 40, none⟩ = false := HK.out.bk.frozen 40
    have HO43 : Hid (({ c with e := 43 } : RR).cells.toArray.all (·.oneCell') = true) := (hv.out.setE 43).ones
    go_wp2_with (first
     | (refine wpList_load_row (by rfl) 87 (.tmp 2) (by rfl) w.heap.size (by rfl) 87 ({ c with e := 43 } : RR).cells.toArray (0, 0) _ HK43.out.bk Try.underlying87 (by rfl) (info_run17 HK43.out.sz) ?_)
     | (refine wpList_store_row (by rfl) 87 (.tmp 4) (.tmp 35) (by rfl) (w.heap.size + 1 + 1) ({ c with e := 43 } : RR).cells.toArray (by rfl) (by rfl) 87 zero41 HZ43.out (info_run17 HK43.out.sz) (zero41_size HK43.out.sz) HO43.out ?_))
    refine bodyPost_ret (res_run 4 rfl _ _ (w.heap.size + 1 + 1) { c with e := 43 } (by rfl) ⟨HZ43.out.setRow _, HK43.out.sz⟩) rfl ?_
    have hb9 := lbelow_setRow HB43.out (show w.heap.size ≤ w.heap.size + 1 + 1 by omega) ({ c with e := 43 } : RR).cells.toArray
    rw [HE.out]
    exact ⟨_, rfl, ((hv.out.setE 43).below hb9).more hb9.size, (HSS.out.keep rfl rfl rfl), hb9⟩
   have e64 : decide (64 < h) = false := decide_eq_false h64
   have jr : W1.rangeAt w.heap.size 0 (stV c.roots (.slice xA xn xk)).toArray.toList := by rw [← HBV.out]; exact HK.out.st
   rcases HBX.out.find h with ⟨hf1, hf2⟩ | ⟨kf, ws, hf1, hf2, _⟩
   case inr =>
    have HF : Hid (findX h l 0 = (kf : Int)) := hf2
    have hsm : (r.st.blocks h).isSome = true := by rw [hf1]; rfl
    have ef : decide ((0 : Int) ≤ (kf : Int)) = true := decide_eq_true (by omega)
    clear hf1 hf2
    refine wp_region_held_drew (S := (fun w' => w'.cell? ⟨w.heap.size, 37, none⟩ = some (.slice (some ⟨pb, po, none⟩) n pk) ∧ w'.cell? ⟨pb, po, none⟩ = some (.int .u64 h) ∧ w'.rangeAt w.heap.size 0 (stV c.roots (.slice xA xn xk)).toArray.toList)) (by kernel_rfl) ?_ (fun hHeld => ?_)
    ·exact ⟨k37, kh, jr⟩
    refine takeA 0 ?_
    try simp only [Act.put, pS]
    refine takeA 1 ?_
    try simp only [Act.put, pS]
    refine takeA 2 ?_
    try simp only [Act.put, pS]
    refine takeA 3 ?_
    try simp only [Act.put, pS]
    refine takeA 4 ?_
    try simp only [Act.put, pS]
    refine takeA 5 ?_
    try simp only [Act.put, pS]
    refine takeA 6 ?_
    try simp only [Act.put, pS]
    refine takeA 7 ?_
    try simp only [Act.put, pS]
    refine takeA 8 ?_
    try simp only [Act.put, pS]
    refine takeA 9 ?_
    try simp only [Act.put, pS]
    refine takeA 10 ?_
    try simp only [Act.put, pS]
    refine takeA 11 ?_
    try simp only [Act.put, pS]
    refine takeA 12 ?_
    try simp only [Act.put, pS]
    refine takeA 13 ?_
    try simp only [Act.put, pS]
    refine takeA 14 ?_
    try simp only [Act.put, pS]
    refine takeA 15 ?_
    try simp only [Act.put, pS]
    refine takeA 16 ?_
    try simp only [Act.put, pS]
    refine takeA 17 ?_
    try simp only [Act.put, pS]
    refine takeA 18 ?_
    try simp only [Act.put, pS]
    refine takeA 19 ?_
    try simp only [Act.put, pS]
    refine loadH 20 rfl rfl rfl (by kernel_rfl) (by kernel_rfl) (by kernel_rfl) (fun _ _ _ _ _ h => h) (by rfl) (by assumption) rfl (stV c.roots (.slice xA xn xk)).toArray Try.underlying53 rfl (by rw [stV_len hv.out.sz.roots]; exact info_st17) ?_ ?_
    ·(intro w hSw; (try dsimp only at hSw); go_split_ands; assumption)
    try simp only [Act.put, pS]
    refine takeA 21 ?_
    try simp only [Act.put, pS]
    refine takeA 22 ?_
    try simp only [Act.put, pS]
    refine takeA 23 ?_
    try simp only [Act.put, pS]
    refine takeA 24 ?_
    try simp only [Act.put, pS]
    refine comeH 25 rfl rfl rfl rfl (by kernel_rfl) (by rfl) (fun K hK => ?_)
    go_simp
    refine (rfindx_any (stV c.roots (.slice xA xn xk)).toArray l xA xn xk (stV_bv hv.out.sz.roots _) h W1.drew ((HX.out.below HB.out.drew).more HB.out.drew.size)).mono ?_
    rintro e V ⟨rfl, hb4⟩
    rw [HF.out]
    have HKd := HK.out.drew.below hb4
    have HBd := HB.out.drew.trans (hb4.mono HB.out.drew.size)
    have HZd := (show Bk W1.drew (w.heap.size + 1 + 1) 87 zero41 from HZ.out).below hb4 (show Bk W1.drew (w.heap.size + 1 + 1) 87 zero41 from HZ.out).lt
    have HId := (show Bk W1.drew (w.heap.size + 1) 62 #[.int .i64 op, .int .i64 a, .int .i64 ib, .int .i64 ic, .int .u64 imm] from HI.out).below hb4 (show Bk W1.drew (w.heap.size + 1) 62 #[.int .i64 op, .int .i64 a, .int .i64 ib, .int .i64 ic, .int .u64 imm] from HI.out).lt
    clear HB HK HZ HI hb4
    have HB := Lib.hid HBd
    have HK := Lib.hid HKd
    have HZ := Lib.hid HZd
    have HI := Lib.hid HId
    clear HBd HKd HZd HId
    go_simp
    refine hK.out _ _ ?_ (fun hHeld => ?_)
    ·exact ⟨HK.out.pv.trans (by rw [HPV.out, HN.out.1]), (HB.out.cell (p := ⟨pb, po, none⟩) hpb).trans HKH.out, by rw [← HBV.out]; exact HK.out.st⟩
    clear hK K
    try simp only [Act.put, pS]
    refine takeA 26 ?_
    try simp only [Act.put, pS]
    refine takeA 27 ?_
    try simp only [Act.put, pS]
    refine wpAnyH_done (by kernel_rfl) ?_ _
    try simp only [Act.put, pS]
    clear k37 kh jr
    have HE : Hid (fresh17 ⟨op, (a : Int), ib, ic, imm⟩ r = { r with code := 43 }) := by show _ = _; unfold fresh17; rw [HPC.out]; exact if_pos (.inl hsm)
    have HK43 : Hid (BkC (V.setCell ⟨w.heap.size, 40, none⟩ (.int .i64 43)) w.heap.size { c with e := 43 }) := HK.out.setE 43
    have HZ43 : Hid (Bk (V.setCell ⟨w.heap.size, 40, none⟩ (.int .i64 43)) (w.heap.size + 1 + 1) 87 zero41) := HZ.out.set_ne (by omega) _ _
    have HB43 : Hid (Below w.heap.size w (V.setCell ⟨w.heap.size, 40, none⟩ (.int .i64 43))) := HB.out.setCell (Nat.le_refl _) _
    have c40 : V.cell? ⟨w.heap.size, 40, none⟩ = some (.int .i64 c.e) := HK.out.err
    have f40 : V.frozen? ⟨w.heap.size, 40, none⟩ = false := HK.out.bk.frozen 40
    have HO43 : Hid (({ c with e := 43 } : RR).cells.toArray.all (·.oneCell') = true) := (hv.out.setE 43).ones
    go_wp2_with (first
     | (refine wpList_load_row (by rfl) 87 (.tmp 2) (by rfl) w.heap.size (by rfl) 87 ({ c with e := 43 } : RR).cells.toArray (0, 0) _ HK43.out.bk Try.underlying87 (by rfl) (info_run17 HK43.out.sz) ?_)
     | (refine wpList_store_row (by rfl) 87 (.tmp 4) (.tmp 35) (by rfl) (w.heap.size + 1 + 1) ({ c with e := 43 } : RR).cells.toArray (by rfl) (by rfl) 87 zero41 HZ43.out (info_run17 HK43.out.sz) (zero41_size HK43.out.sz) HO43.out ?_))
    refine bodyPost_ret (res_run 4 rfl _ _ (w.heap.size + 1 + 1) { c with e := 43 } (by rfl) ⟨HZ43.out.setRow _, HK43.out.sz⟩) rfl ?_
    have hb9 := lbelow_setRow HB43.out (show w.heap.size ≤ w.heap.size + 1 + 1 by omega) ({ c with e := 43 } : RR).cells.toArray
    rw [HE.out]
    exact ⟨_, rfl, ((hv.out.setE 43).below hb9).more hb9.size, (HSS.out.keep rfl rfl rfl), hb9⟩
   have HF : Hid (findX h l 0 = -1) := hf2
   have HN1 : Hid (r.st.blocks h = none) := hf1
   clear hf1 hf2
   refine wp_region_held_drew (S := (fun w' => w'.cell? ⟨w.heap.size, 37, none⟩ = some (.slice (some ⟨pb, po, none⟩) n pk) ∧ w'.cell? ⟨pb, po, none⟩ = some (.int .u64 h) ∧ w'.rangeAt w.heap.size 0 (stV c.roots (.slice xA xn xk)).toArray.toList)) (by kernel_rfl) ?_ (fun hHeld => ?_)
   ·exact ⟨k37, kh, jr⟩
   refine takeA 0 ?_
   try simp only [Act.put, pS]
   refine takeA 1 ?_
   try simp only [Act.put, pS]
   refine takeA 2 ?_
   try simp only [Act.put, pS]
   refine takeA 3 ?_
   try simp only [Act.put, pS]
   refine takeA 4 ?_
   try simp only [Act.put, pS]
   refine takeA 5 ?_
   try simp only [Act.put, pS]
   refine takeA 6 ?_
   try simp only [Act.put, pS]
   refine takeA 7 ?_
   try simp only [Act.put, pS]
   refine takeA 8 ?_
   try simp only [Act.put, pS]
   refine takeA 9 ?_
   try simp only [Act.put, pS]
   refine takeA 10 ?_
   try simp only [Act.put, pS]
   refine takeA 11 ?_
   try simp only [Act.put, pS]
   refine takeA 12 ?_
   try simp only [Act.put, pS]
   refine takeA 13 ?_
   try simp only [Act.put, pS]
   refine takeA 14 ?_
   try simp only [Act.put, pS]
   refine takeA 15 ?_
   try simp only [Act.put, pS]
   refine takeA 16 ?_
   try simp only [Act.put, pS]
   refine takeA 17 ?_
   try simp only [Act.put, pS]
   refine takeA 18 ?_
   try simp only [Act.put, pS]
   refine takeA 19 ?_
   try simp only [Act.put, pS]
   refine loadH 20 rfl rfl rfl (by kernel_rfl) (by kernel_rfl) (by kernel_rfl) (fun _ _ _ _ _ h => h) (by rfl) (by assumption) rfl (stV c.roots (.slice xA xn xk)).toArray Try.underlying53 rfl (by rw [stV_len hv.out.sz.roots]; exact info_st17) ?_ ?_
   ·(intro w hSw; (try dsimp only at hSw); go_split_ands; assumption)
   try simp only [Act.put, pS]
   refine takeA 21 ?_
   try simp only [Act.put, pS]
   refine takeA 22 ?_
   try simp only [Act.put, pS]
   refine takeA 23 ?_
   try simp only [Act.put, pS]
   refine takeA 24 ?_
   try simp only [Act.put, pS]
   refine comeH 25 rfl rfl rfl rfl (by kernel_rfl) (by rfl) (fun K hK => ?_)
   go_simp
   refine (rfindx_any (stV c.roots (.slice xA xn xk)).toArray l xA xn xk (stV_bv hv.out.sz.roots _) h W1.drew ((HX.out.below HB.out.drew).more HB.out.drew.size)).mono ?_
   rintro e V ⟨rfl, hb4⟩
   rw [HF.out]
   have HKd := HK.out.drew.below hb4
   have HBd := HB.out.drew.trans (hb4.mono HB.out.drew.size)
   have HZd := (show Bk W1.drew (w.heap.size + 1 + 1) 87 zero41 from HZ.out).below hb4 (show Bk W1.drew (w.heap.size + 1 + 1) 87 zero41 from HZ.out).lt
   have HId := (show Bk W1.drew (w.heap.size + 1) 62 #[.int .i64 op, .int .i64 a, .int .i64 ib, .int .i64 ic, .int .u64 imm] from HI.out).below hb4 (show Bk W1.drew (w.heap.size + 1) 62 #[.int .i64 op, .int .i64 a, .int .i64 ib, .int .i64 ic, .int .u64 imm] from HI.out).lt
   clear HB HK HZ HI hb4
   have HB := Lib.hid HBd
   have HK := Lib.hid HKd
   have HZ := Lib.hid HZd
   have HI := Lib.hid HId
   clear HBd HKd HZd HId
   go_simp
   refine hK.out _ _ ?_ (fun hHeld => ?_)
   ·exact ⟨HK.out.pv.trans (by rw [HPV.out, HN.out.1]), (HB.out.cell (p := ⟨pb, po, none⟩) hpb).trans HKH.out, by rw [← HBV.out]; exact HK.out.st⟩
   clear hK K
   try simp only [Act.put, pS]
   refine takeA 26 ?_
   try simp only [Act.put, pS]
   refine takeA 27 ?_
   try simp only [Act.put, pS]
   refine wpAnyH_done (by kernel_rfl) ?_ _
   try simp only [Act.put, pS]
   clear k37 kh jr
   have ck37 : V.cell? ⟨w.heap.size, 37, none⟩ = some (.slice (some ⟨pb, po, none⟩) n pk) := HK.out.pv.trans (by rw [HPV.out, HN.out.1])
   have ckh : V.cell? ⟨pb, po, none⟩ = some (.int .u64 h) := (HB.out.cell (p := ⟨pb, po, none⟩) hpb).trans HKH.out
   have HJ : Hid (V.rangeAt w.heap.size 0 (stV c.roots (.slice xA xn xk))) := by show World.rangeAt _ _ _ _; rw [← HBV.out]; exact HK.out.st
   have hz8 : Try.prog.built 91 [] = some #[.int .u64 0, .int .u64 0, .int .u64 0, .int .u64 0, .int .u64 0, .int .u64 0, .int .u64 0, .int .u64 0] := by kernel_rfl
   have hi17 : (Try.prog.info? 53).map (·.size) = some (stV c.roots (.slice xA xn xk)).length := by rw [show (stV c.roots (.slice xA xn xk)).length = 17 by simp [stV, hv.out.sz.roots]]; exact info_st17
   go_wp2_with (first
    | (refine wpList_load_mid (by rfl) 53 (.tmp 40) (by rfl) w.heap.size 0 (by rfl) (stV c.roots (.slice xA xn xk)) _ HJ.out Try.underlying53 (by rfl) hi17 ?_)
    | (refine wpList_built (by rfl) 91 #[] (by rfl) [] (by rfl) _ hz8 ?_))
   refine (rwith_any c.roots hv.out.sz.roots l xA xn xk h 0 0 0 0 0 0 0 0 HU.out V ((HX.out.below HB.out).more HB.out.size) (by omega)).mono ?_
   rintro e w4 ⟨⟨A4, n4, k4, rfl, hO4⟩, hb4⟩
   have HK4 := Lib.hid (HK.out.below hb4)
   have HB4 := Lib.hid (HB.out.trans (hb4.mono HB.out.size))
   have HZ4 := Lib.hid (HZ.out.below hb4 HZ.out.lt)
   have HI4 := Lib.hid (HI.out.below hb4 HI.out.lt)
   have HO4 := Lib.hid hO4
   have HL4 := Lib.hid hO4.len
   have HOk4 := Lib.hid hO4.ok
   have HNL := Lib.hid hn
   have HVS := Lib.hid HB.out.size
   have hS17 : (Try.prog.info? 53).map (·.size) = some (stV c.roots (.slice A4 n4 k4)).toArray.size := by rw [stV_len hv.out.sz.roots]; exact info_st17
   have hS41 : (stV c.roots (.slice A4 n4 k4)).toArray.size ≤ c.cells.toArray.size := by rw [stV_len hv.out.sz.roots, List.size_toArray, RR.len hv.out.sz]; decide
   clear hO4 hb4 HB HK HZ HI ck37 ckh hz8 hi17 HJ
   go_upto_region 6 with (refine wpList_store_seg (by rfl) 53 (.tmp 45) (.tmp 44) (by rfl) w.heap.size (stV c.roots (.slice A4 n4 k4)).toArray (by rfl) (by rfl) 87 c.cells.toArray ({ c with bv := .slice A4 n4 k4 } : RR).cells.toArray HK4.out.bk hS17 hS41 (stV_one A4 n4 k4) (RR.seg HK4.out.sz hv.out.sz.roots _) ?_)
   have hSz2 : ({ c with bv := .slice A4 n4 k4 } : RR).Sz := ⟨hv.out.sz.1, hv.out.sz.2⟩
   obtain ⟨W5, hW5⟩ : ∃ W5, w4.setRow w.heap.size ({ c with bv := .slice A4 n4 k4 } : RR).cells.toArray = W5 := ⟨_, rfl⟩
   have HK5 : Hid (BkC W5 w.heap.size { c with bv := .slice A4 n4 k4 }) := by show BkC _ _ _; rw [← hW5]; exact HK4.out.setRow hSz2
   have HB5 : Hid (Below w.heap.size w W5) := by show Below _ _ _; rw [← hW5]; exact lbelow_setRow HB4.out (Nat.le_refl _) _
   have HZ5 : Hid (Bk W5 (w.heap.size + 1 + 1) 87 zero41) := by show Bk _ _ _ _; rw [← hW5]; exact HZ4.out.setRow_ne (by omega) _
   have HI5 : Hid (Bk W5 (w.heap.size + 1) 62 #[.int .i64 op, .int .i64 a, .int .i64 ib, .int .i64 ic, .int .u64 imm]) := by show Bk _ _ _ _; rw [← hW5]; exact HI4.out.setRow_ne (by omega) _
   have HO5 := Lib.hid (show W5.ownsRow V.heap.size 93 9 (.slice A4 n4 k4) n4 _ by rw [← hW5]; exact HO4.out.own.kept (grown_setRow w4 w.heap.size _) (.inr (HK4.out.bk.ne_own HO4.out.own (by decide))))
   rw [hW5]
   have HW5S := Lib.hid HB5.out.size
   clear hW5 HK4 HB4 HZ4 HI4 hS17 hS41
   obtain ⟨i0, hi0, hy0, hy1, hy2⟩ := info_parts info_u64
   obtain ⟨nA, nk, hnv, hN, hnk⟩ := hv.out.news
   obtain ⟨m, hm⟩ : ∃ m, r.news.length = m := ⟨_, rfl⟩
   rw [hm] at hnv hN hnk
   have hm6 : m ≤ 1000000 := by rw [← hm]; exact HNL.out
   have HNN := Lib.hid hm
   have k36 : W5.cell? ⟨w.heap.size, 36, none⟩ = some (.slice nA m nk) := HK5.out.nv.trans (by rw [← hnv])
   have k36a : (W5.alloc (.cells #[] 31)).cell? ⟨w.heap.size, 36, none⟩ = some (.slice nA m nk) := (HK5.out.alloc (.cells #[] 31)).nv.trans (by rw [← hnv])
   have OW6 : Hid ((W5.alloc (.cells #[] 31)).ownsRow W5.heap.size 31 1 (.slice (some ⟨W5.heap.size, 0, none⟩) 0 0) 0 (u64s [])) := World.ownsRow_made W5 #[] 0 (Nat.le_refl _) (by simp [maxLen]) rfl
   have RN6 : Hid (Rd (W5.alloc (.cells #[] 31)) W5.heap.size 1 nA m (u64s r.news)) := ((hN.below HB5.out).more HB5.out.size).alloc (Nat.le_refl _) _
   have hbs6 : W5.heap.size ≤ (W5.alloc (.cells #[] 31)).heap.size := by rw [World.size_alloc]; omega
   have HBe6 : Hid (Below W5.heap.size W5 (W5.alloc (.cells #[] 31))) := (Below.refl _ _).alloc (Nat.le_refl _) _
   clear hnv hN hm
   go_wp2_with (at_builtin; refine wpList_app _ (by rfl) (.tmp 46) (.tmp 48) 34 (by rfl) W5.heap.size 31 i0 _ 1 8 Try.underlying34 hi0 hy0 hy1 hy2 rfl (by decide) (.slice (some ⟨W5.heap.size, 0, none⟩) 0 0) 0 (u64s []) (by rfl) OW6.out W5.heap.size nA m nk (u64s r.news) (by rfl) RN6.out (rf_ones _) (by unfold maxLen; omega) (by omega) hbs6 ?_)
   intro v7 w7 hown7 hg7 _
   have HB7 := Lib.hid (below_own HBe6.out OW6.out hg7 (Nat.le_refl _) hbs6)
   have HO7 := Lib.hid (hown7.alloc (.cells #[.int .u64 h] 31))
   have k36b : w7.cell? ⟨w.heap.size, 36, none⟩ = some (.slice nA m nk) := (HB7.out.cell (p := ⟨w.heap.size, 36, none⟩) HK5.out.lt).trans k36
   have RN7 : Hid (Rd (w7.alloc (.cells #[.int .u64 h] 31)) (w7.heap.size + 1) 1 (some ⟨w7.heap.size, 0, none⟩) 1 (u64s [h])) := Rd.new w7 _ _ (size := 1) (m := 1) rfl (by simp [maxLen])
   have hbs7 : W5.heap.size ≤ (w7.alloc (.cells #[.int .u64 h] 31)).heap.size := by rw [World.size_alloc]; have := HB7.out.size; omega
   have HBe7 : Hid (Below W5.heap.size W5 (w7.alloc (.cells #[.int .u64 h] 31))) := HB7.out.alloc HB7.out.size _
   clear hown7 hg7 k36 k36a OW6 RN6 hbs6 HBe6
   go_wp2_with (at_builtin; refine wpList_app _ (by rfl) (.tmp 49) (.tmp 51) 34 (by rfl) W5.heap.size 31 i0 _ 1 8 Try.underlying34 hi0 hy0 hy1 hy2 rfl (by decide) v7 m (u64s r.news) (by rfl) HO7.out (w7.heap.size + 1) (some ⟨w7.heap.size, 0, none⟩) 1 1 (u64s [h]) (by rfl) RN7.out (rf_ones _) (by unfold maxLen; omega) (by omega) hbs7 ?_)
   intro v9 w9 hown9 hg9 _
   replace hown9 : w9.ownsRow W5.heap.size 31 1 v9 (m + 1) (u64s (r.news ++ [h])) := by rw [rf_u64s_app]; exact hown9
   have HB9 := Lib.hid (below_own HBe7.out HO7.out hg9 (Nat.le_refl _) hbs7)
   obtain ⟨A9, c9, rfl, hc9, _⟩ := Rd.of_own_cap hown9
   have HO9 := Lib.hid hown9
   have HK9 := Lib.hid (HK5.out.below HB9.out)
   have k36c := HK9.out.nv
   have f36c := HK9.out.bk.frozen 36
   have RP9 : Hid (RdU w9 W5.heap.size (some ⟨pb, po, none⟩) n r.pick) := (((HN.out.1 ▸ HP.out).below HB5.out).more HB5.out.size).below HB9.out
   have HC9 := Lib.hid hc9
   clear hown9 hg9 k36b RN7 hbs7 HBe7 hc9 HO7 HB7
   obtain ⟨W10, hW10⟩ : ∃ W10, w9.setCell ⟨w.heap.size, 36, none⟩ (.slice A9 (m + 1) c9) = W10 := ⟨_, rfl⟩
   have HK10 : Hid (BkC W10 w.heap.size { c with bv := .slice A4 n4 k4, nv := .slice A9 (m + 1) c9 }) := by show BkC _ _ _; rw [← hW10]; exact HK9.out.setAny (RR.set_nv hSz2 _) hSz2.1 hSz2.2
   have HBw9 : Hid (Below w.heap.size w w9) := HB5.out.trans (HB9.out.mono HB5.out.size)
   have HB10 : Hid (Below w.heap.size w W10) := by show Below _ _ _; rw [← hW10]; exact HBw9.out.setCell (Nat.le_refl _) _
   have HZ10 : Hid (Bk W10 (w.heap.size + 1 + 1) 87 zero41) := by show Bk _ _ _ _; rw [← hW10]; exact (HZ5.out.below HB9.out HZ5.out.lt).set_ne (by omega) _ _
   have HI10 : Hid (Bk W10 (w.heap.size + 1) 62 #[.int .i64 op, .int .i64 a, .int .i64 ib, .int .i64 ic, .int .u64 imm]) := by show Bk _ _ _ _; rw [← hW10]; exact (HI5.out.below HB9.out HI5.out.lt).set_ne (by omega) _ _
   have HO10 := Lib.hid (show W10.ownsRow V.heap.size 93 9 (.slice A4 n4 k4) n4 _ by rw [← hW10]; exact own_set HK9.out (own_below HO5.out HB9.out) (by decide))
   have HN10 := Lib.hid (show W10.ownsRow W5.heap.size 31 1 (.slice A9 (m + 1) c9) (m + 1) (u64s (r.news ++ [h])) by rw [← hW10]; exact own_set HK9.out HO9.out (by decide))
   go_upto_region 7 with fail
   try rw [hW10]
   clear hW10 HK5 HB5 HZ5 HI5 HO5 HB9 HO9 HK9 k36c f36c RP9 HBw9 HC9 i0 hi0 hy0 hy1 hy2
   have hnn1 := HN.out.1
   have hnn2 := HN.out.2
   obtain ⟨pq, hpq⟩ : ∃ q, pk = q + 1 := ⟨pk - 1, by omega⟩
   obtain ⟨q, hq⟩ : ∃ q, rest.length = q := ⟨_, rfl⟩
   obtain ⟨Ap, hcut, hRp, hAb⟩ := cut_at (P := Try.prog) 34 rf_elem rf_size (HP.out) hpk 1 1 rfl (by omega)
   have HAb := Lib.hid hAb
   rw [HN.out.1, HN.out.2, hq, Nat.add_sub_cancel, hpq, Nat.add_sub_cancel] at hcut
   rw [HPC.out, List.length_cons, hq, Nat.add_sub_cancel, Nat.mul_one, show (u64s (h :: rest)).drop 1 = u64s rest from rfl] at hRp
   have HRp := Lib.hid hRp
   have HQ := Lib.hid hq
   have HPQ : Hid (q ≤ pq) := by show q ≤ pq; have := HN.out.2; omega
   have k37 : W10.cell? ⟨w.heap.size, 37, none⟩ = some (.slice (some ⟨pb, po, none⟩) (q + 1) (pq + 1)) := HK10.out.pv.trans (by rw [HPV.out, HN.out.1, HN.out.2, hq, hpq])
   have f37 := HK10.out.bk.frozen 37
   obtain ⟨W11, hW11⟩ : ∃ W11, W10.setCell ⟨w.heap.size, 37, none⟩ (.slice Ap q pq) = W11 := ⟨_, rfl⟩
   have HK11 : Hid (BkC W11 w.heap.size { c with bv := .slice A4 n4 k4, nv := .slice A9 (m + 1) c9, pv := .slice Ap q pq }) := by show BkC _ _ _; rw [← hW11]; exact HK10.out.setAny (RR.set_pv HK10.out.sz _) hSz2.1 hSz2.2
   have HB11 : Hid (Below w.heap.size w W11) := by show Below _ _ _; rw [← hW11]; exact HB10.out.setCell (Nat.le_refl _) _
   have HZ11 : Hid (Bk W11 (w.heap.size + 1 + 1) 87 zero41) := by show Bk _ _ _ _; rw [← hW11]; exact HZ10.out.set_ne (by omega) _ _
   have HI11 : Hid (Bk W11 (w.heap.size + 1) 62 #[.int .i64 op, .int .i64 a, .int .i64 ib, .int .i64 ic, .int .u64 imm]) := by show Bk _ _ _ _; rw [← hW11]; exact HI10.out.set_ne (by omega) _ _
   have HO11 := Lib.hid (show W11.ownsRow V.heap.size 93 9 (.slice A4 n4 k4) n4 _ by rw [← hW11]; exact own_set HK10.out HO10.out (by decide))
   have HN11 := Lib.hid (show W11.ownsRow W5.heap.size 31 1 (.slice A9 (m + 1) c9) (m + 1) (u64s (r.news ++ [h])) by rw [← hW11]; exact own_set HK10.out HN10.out (by decide))
   clear hRp hq hAb hnn1 hnn2 hpk hpq
   go_upto_region 8 with fail
   try rw [hW11]
   clear hW11 HK10 HB10 HZ10 HI10 HO10 HN10 k37 f37 hcut
   have i1 : W11.cell? ⟨w.heap.size + 1, 1, none⟩ = some (.int .i64 a) := (HI11.out.cell 1).trans rfl
   obtain ⟨Y, hY⟩ : ∃ Y, c.regs.getD a 0 = Y := ⟨_, rfl⟩
   have kA : W11.cell? ⟨w.heap.size, 18 + a, none⟩ = some (.int .u64 Y) := (HK11.out.reg ha16).trans (by rw [← hY])
   have fA := HK11.out.bk.frozen (18 + a)
   obtain ⟨W12, hW12⟩ : ∃ W12, W11.setCell ⟨w.heap.size, 18 + a, none⟩ (.int .u64 h) = W12 := ⟨_, rfl⟩
   have HK12 : Hid (BkC W12 w.heap.size { c with bv := .slice A4 n4 k4, nv := .slice A9 (m + 1) c9, pv := .slice Ap q pq, regs := c.regs.set a h }) := by show BkC _ _ _; rw [← hW12]; exact HK11.out.setAny (RR.set_reg HK11.out.sz ha16 _) hSz2.1 (by simpa using hSz2.2)
   have HB12 : Hid (Below w.heap.size w W12) := by show Below _ _ _; rw [← hW12]; exact HB11.out.setCell (Nat.le_refl _) _
   have HZ12 : Hid (Bk W12 (w.heap.size + 1 + 1) 87 zero41) := by show Bk _ _ _ _; rw [← hW12]; exact HZ11.out.set_ne (by omega) _ _
   have HO12 := Lib.hid (show W12.ownsRow V.heap.size 93 9 (.slice A4 n4 k4) n4 _ by rw [← hW12]; exact own_set HK11.out HO11.out (by decide))
   have HN12 := Lib.hid (show W12.ownsRow W5.heap.size 31 1 (.slice A9 (m + 1) c9) (m + 1) (u64s (r.news ++ [h])) by rw [← hW12]; exact own_set HK11.out HN11.out (by decide))
   have HW12 := Lib.hid hW12
   clear hY hW12
   go_upto_region 9 with fail
   try rw [HW12.out]
   clear HW12 HK11 HB11 HZ11 HI11 HO11 HN11 i1 kA fA
   obtain ⟨c12, hc12⟩ : ∃ c12 : RR, ({ c with bv := .slice A4 n4 k4, nv := .slice A9 (m + 1) c9, pv := .slice Ap q pq, regs := c.regs.set a h } : RR) = c12 := ⟨_, rfl⟩
   have HC12 := Lib.hid hc12
   rw [hc12] at HK12
   have HOne : Hid (c12.cells.toArray.all (·.oneCell') = true) := by show _ = _; rw [← hc12]; exact RR.one _ rfl rfl rfl
   clear hc12
   go_wp2_with (first
    | (refine wpList_load_row (by rfl) 87 (.tmp 2) (by rfl) w.heap.size (by rfl) 87 c12.cells.toArray (0, 0) _ HK12.out.bk Try.underlying87 (by rfl) (info_run17 HK12.out.sz) ?_)
    | (refine wpList_store_row (by rfl) 87 (.tmp 4) (.tmp 63) (by rfl) (w.heap.size + 1 + 1) c12.cells.toArray (by rfl) (by rfl) 87 zero41 HZ12.out (info_run17 HK12.out.sz) (zero41_size HK12.out.sz) HOne.out ?_))
   refine bodyPost_ret (res_run 4 rfl _ _ (w.heap.size + 1 + 1) c12 (by rfl) ⟨HZ12.out.setRow _, HK12.out.sz⟩) rfl ?_
   have hb9 := lbelow_setRow HB12.out (show w.heap.size ≤ w.heap.size + 1 + 1 by omega) c12.cells.toArray
   have hO := own_setRow HZ12.out HO12.out (by decide) c12.cells.toArray
   have hN := own_setRow HZ12.out HN12.out (by decide) c12.cells.toArray
   have hE : fresh17 ⟨op, (a : Int), ib, ic, imm⟩ r = { r with pick := rest, st := { r.st with blocks := upd r.st.blocks h (some zero8) }, news := r.news ++ [h], regs := r.regs.set a h } := by
    unfold fresh17
    rw [HPC.out]
    exact if_neg (by rw [HN1.out]; simp; omega)
   rw [hE]
   obtain ⟨A9', c9', e9, hc9', hr9⟩ := Rd.of_own_cap hN
   obtain ⟨A4', c4', e4, hc4', hr4⟩ := Rd.of_own_cap hO
   injection e9 with e9a _ e9c
   injection e4 with e4a _ e4c
   subst e9a e9c e4a e4c
   have hl9 : (r.news ++ [h]).length = m + 1 := by rw [List.length_append, HNN.out]; rfl
   refine ⟨c12, rfl, ⟨HK12.out.sz, ?_, ?_, ?_, ?_, ?_, ?_, ?_, ?_, ⟨A4, n4, k4, withX h zero8 l, ?_, ⟨hr4, HL4.out, HOk4.out⟩, HBX.out.set_ HU.out rfl⟩, ⟨A9, c9, ?_, ?_, ?_⟩, ⟨Ap, pq, ?_, ?_, ?_⟩, few_new hv.out.few (by have := HU.out.1; omega) _⟩, ⟨?_, ?_, ?_⟩, hb9⟩
   ·rw [← HC12.out]; exact hv.out.roots
   ·rw [← HC12.out]; show c.regs.set a h = _; rw [hv.out.regs]
   ·rw [← HC12.out]; exact hv.out.pc
   ·rw [← HC12.out]; exact hv.out.steps
   ·rw [← HC12.out]; exact hv.out.writes
   ·rw [← HC12.out]; exact hv.out.ended
   ·rw [← HC12.out]; exact hv.out.val
   ·rw [← HC12.out]; exact hv.out.err
   ·rw [← HC12.out]
   ·rw [← HC12.out, hl9]
   ·rw [hl9]; exact hr9
   ·rw [hl9]; exact hc9'
   ·rw [← HC12.out, HQ.out]
   ·rw [HQ.out]; exact (HRp.out.below hb9).more hb9.size
   ·rw [HQ.out]; exact HPQ.out
   ·rw [← HC12.out]; exact SlIn.own hO fun b hb => .inr (Nat.le_trans HVS.out hb)
   ·rw [← HC12.out]; exact SlIn.own hN fun b hb => .inr (Nat.le_trans HW5S.out hb)
   ·rw [← HC12.out]
    intro a' n' k' e' hn'
    injection e' with e1 _ _
    exact .inl (by
     have h1 := HSS.out.pv ⟨pb, po, none⟩ n pk (by rw [HPV.out, HN.out.1]) (by have := HN.out.2; omega)
     rw [HAb.out _ _ rfl a' e1]; exact h1)
end Go.Proofs.Ytjggmimaolddkaa
