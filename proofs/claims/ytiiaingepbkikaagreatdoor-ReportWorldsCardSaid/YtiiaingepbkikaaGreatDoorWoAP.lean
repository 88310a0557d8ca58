import Derived.Test.YtiiaingepbkikaaGreatDoorWoAN
import Derived.Test.YtiiaingepbkikaaGreatDoorWoAO
import Derived.Test.YtiiaingepbkikaaGreatDoorWoAH
namespace Go.Proofs.YtiiaingepbkikaaGreatDoor
open Go.RowKit
set_option linter.unusedVariables false
set_option linter.unusedSimpArgs false
structure ThIn (w : World) (x : Th) (p0 p1 p2 : Value) : Prop where
 q : QIn w p0 x.q
 c : QIn w p1 x.c
 t : TIn w p2 x.t
theorem ThIn.below {w w' : World} {x : Th} {p0 p1 p2 : Value} (h : ThIn w x p0 p1 p2) (hb : Below w.heap.size w w') : ThIn w' x p0 p1 p2 := ⟨h.q.below hb, h.c.below hb, h.t.below hb⟩
theorem set_other1 (w : World) (p : Addr) (u : Value) : ∀ b, b < w.heap.size → b ≠ p.block → (w.setCell p u).heap[b]? = w.heap[b]? := by
 intro b _ hne
 simp only [World.setCell]
 rw [Array.getElem?_modify, if_neg (fun e => hne e.symm)]
theorem ThIn.set {w : World} {x : Th} {p0 p1 p2 : Value} {g : Nat} {t : TypeId} {cs : Array Value} (h : ThIn w x p0 p1 p2) (hg : Bk w g t cs) (h1 : t ≠ 32) (h2 : t ≠ 112) (h0 : ∀ u, cs[0]? ≠ some (.int .u64 u)) (p : Addr) (hp : p.block = g) (u : Value) : ThIn (w.setCell p u) x p0 p1 p2 := by
 subst hp
 have hz : w.heap.size ≤ (w.setCell p u).heap.size := by simp [World.setCell]
 have hc : ∀ v, w.cell? ⟨p.block, 0, none⟩ ≠ some (.int .u64 v) := fun v e => h0 v (by rw [← hg.cell]; exact e)
 exact ⟨h.q.keep hz (set_other1 w p u) (bk_not hg h1) hc, h.c.keep hz (set_other1 w p u) (bk_not hg h1) hc, h.t.keep hz (set_other1 w p u) (bk_not hg h2) hc⟩
def DoesTh (w : World) (x : Th) (e : Ending) (w' : World) : Prop := ∃ q0 q1 q2 r, e = .returned (.tuple #[.agg #[.pointer q0, .pointer q1, .pointer q2], r]) ∧ ThIn w' x (.pointer q0) (.pointer q1) (.pointer q2) ∧ ResV r ∧ Below w.heap.size w w'
theorem results_cc {P : Program} {fn : Func} {p u : Tmp} {ty tz : TypeId} (h : fn.results = #[.cell p ty, .cell u tz]) (tmps : Array Value) (w : World) (g k : Nat) (t s : TypeId) (cs ds : Array Value) (d d' : TypeDesc)
 (hp : tmps.getD p undef = .pointer (some ⟨g, 0, none⟩)) (hg : Bk w g t cs) (hu : P.underlying ty = some d) (hd : (match d with | .struct _ | .array _ _ => true | _ => false) = true) (hi : (P.info? ty).map (·.size) = some cs.size)
 (hp2 : tmps.getD u undef = .pointer (some ⟨k, 0, none⟩)) (hk : Bk w k s ds) (hu2 : P.underlying tz = some d') (hd2 : (match d' with | .struct _ | .array _ _ => true | _ => false) = true) (hi2 : (P.info? tz).map (·.size) = some ds.size) :
 (results fn tmps).run P w = .ok (.tuple #[.agg cs, .agg ds]) w := by
 have hp' : tmps[p]?.getD undef = .pointer (some ⟨g, 0, none⟩) := by simpa using hp
 have hp2' : tmps[u]?.getD undef = .pointer (some ⟨k, 0, none⟩) := by simpa using hp2
 simp [results, h, hp', hp2', asAddr, run_loadVar_row w g t ty cs _ d hg hu hd hi, run_loadVar_row w k s tz ds _ d' hk hu2 hd2 hi2]
theorem info_th : (Tryz.prog.info? 75).map (·.size) = some 3 := by kernel_rfl
theorem four_blocks (X : World) (a b c d : Array Value) (t u v s : TypeId) : let Y := (((X.alloc (.cells a t)).alloc (.cells b u)).alloc (.cells c v)).alloc (.cells d s)
 Bk Y X.heap.size t a ∧ Bk Y (X.heap.size + 1) u b ∧ Bk Y (X.heap.size + 2) v c ∧ Bk Y (X.heap.size + 3) s d ∧ Below X.heap.size X Y := by
 intro Y
 have h1 := two_blocks X a b t u
 have h2 := Bk.new ((X.alloc (.cells a t)).alloc (.cells b u)) v c
 have h3 := Bk.new (((X.alloc (.cells a t)).alloc (.cells b u)).alloc (.cells c v)) s d
 refine ⟨(h1.1.alloc _).alloc _, (h1.2.1.alloc _).alloc _, ?_, ?_, ?_⟩
 ·have := h2.alloc (.cells d s); simpa using this
 ·simpa using h3
 ·exact ((h1.2.2.1.alloc (by simp; omega) _).alloc (by simp; omega) _)
set_option maxRecDepth 100000 in
set_option maxHeartbeats 8000000 in
theorem does_q (x : Th) (what : ByteArray) (k : Nat) (a b : Int) (a0 a1 a2 : Option Addr) (w : World) (hx : ThIn w x (.pointer a0) (.pointer a1) (.pointer a2)) (hok : x.Ok 100) (hd : ∀ (o : QO) (p : Value) (W : World), QIn W p o → QOk 100 o → Calls Tryz.prog 44 #[p, .string what, .int .u64 a] W (DoesQ W (qP k a o))) :
 Calls Tryz.prog 20 #[.agg #[.pointer a0, .pointer a1, .pointer a2], .string ⟨#[113, 117, 101, 117, 101]⟩, .string what, .int .u64 a, .int .u64 b] w (DoesTh w (if x.q.isSome || x.none_ then { x with q := qP k a x.q } else x)) := by
 have HX := Lib.hid hx
 have HOk := Lib.hid hok
 have HD := Lib.hid hd
 clear hd
 obtain ⟨W1, hW1⟩ : ∃ W1, (((w.alloc (.cells #[.pointer a0, .pointer a1, .pointer a2] 75)).alloc (.cells #[.pointer none, .pointer none, .pointer none] 75)).alloc (.cells #[.int .i64 0, .int .u64 0] 47)).alloc (.cells #[.int .i64 0, .int .u64 0] 47) = W1 := ⟨_, rfl⟩
 have hfb := four_blocks w #[.pointer a0, .pointer a1, .pointer a2] #[.pointer none, .pointer none, .pointer none] #[.int .i64 0, .int .u64 0] #[.int .i64 0, .int .u64 0] 75 75 47 47
 simp only [hW1] at hfb
 have H5 := Lib.hid hfb.1
 have H10 := Lib.hid hfb.2.1
 have H11 := Lib.hid hfb.2.2.1
 have H12 := Lib.hid hfb.2.2.2.1
 have HB := Lib.hid hfb.2.2.2.2
 have HW1 := Lib.hid hW1
 clear hfb hW1
 have c0 := (H5.out.cell 0).trans rfl
 have c1 := (H5.out.cell 1).trans rfl
 have c2 := (H5.out.cell 2).trans rfl
 have k5 := H5.out.lt
 have k10 := H10.out.lt
 have k11 := H11.out.lt
 have kf := H12.out.lt
 have hsz := HB.out.size
 obtain ⟨XR, hXR⟩ : ∃ XR, (if x.q.isSome || x.none_ then { x with q := qP k a x.q } else x) = XR := ⟨_, rfl⟩
 rw [hXR]
 have HXR := Lib.hid hXR
 clear hXR
 obtain ⟨q, c, t⟩ := x
 have hone := hok.one
 simp only at hone
 go_enter Tryz.func20, Tryz.ntmps20
 go_upto_region 3 with fail
 rw [HW1.out]
 clear HW1
 clear hx
 rcases q with _ | qv
 ·rcases c with _ | cv
  ·rcases t with _ | tv
   ·clear hone
    have hn0 : (Value.pointer a0) = .pointer none := HX.out.q
    have hn1 : (Value.pointer a1) = .pointer none := HX.out.c
    have hn2 : (Value.pointer a2) = .pointer none := HX.out.t
    injection hn0 with hn0
    subst hn0
    injection hn1 with hn1
    subst hn1
    injection hn2 with hn2
    subst hn2
    have HCd : Hid (((⟨none, none, none⟩ : Th).q.isSome || (⟨none, none, none⟩ : Th).none_) = true) := rfl
    go_wp2_with (go_at_call 43; go_in)
    have HBx := Lib.hid (HB.out.alloc HB.out.size (.cells #[.pointer none, .pointer none, .pointer none] 75))
    have H5 := Lib.hid (H5.out.alloc (.cells #[.pointer none, .pointer none, .pointer none] 75))
    have H10 := Lib.hid (H10.out.alloc (.cells #[.pointer none, .pointer none, .pointer none] 75))
    have H11 := Lib.hid (H11.out.alloc (.cells #[.pointer none, .pointer none, .pointer none] 75))
    have H12 := Lib.hid (H12.out.alloc (.cells #[.pointer none, .pointer none, .pointer none] 75))
    clear HB
    have HB := HBx
    clear HBx
    refine (HD.out _ _ (W1.alloc (.cells #[.pointer none, .pointer none, .pointer none] 75)) ((HX.out.q).below HB.out) HOk.out.q).mono ?_
    rintro e w5 ⟨p5, r5, rfl, hq5, ⟨pa5, rfl⟩, ⟨c5, u5, rfl⟩, hb5⟩
    have HQ5 := Lib.hid hq5
    have H5 := Lib.hid (H5.out.below hb5 H5.out.lt)
    have H10 := Lib.hid (H10.out.below hb5 H10.out.lt)
    have H11 := Lib.hid (H11.out.below hb5 H11.out.lt)
    have H12 := Lib.hid (H12.out.below hb5 H12.out.lt)
    have HB := Lib.hid (HB.out.trans (hb5.mono HB.out.size))
    clear hq5 hb5 c0 c1 c2 k5 k10 k11 kf hsz
    have c0 := (H5.out.cell 0).trans rfl
    have c1 := (H5.out.cell 1).trans rfl
    have c2 := (H5.out.cell 2).trans rfl
    have d0 := H5.out.frozen 0
    have e0 := (H12.out.cell 0).trans rfl
    have e1 := (H12.out.cell 1).trans rfl
    have f0 := H12.out.frozen 0
    have f1 := H12.out.frozen 1
    have k5 := H5.out.lt
    have k10 := H10.out.lt
    have k11 := H11.out.lt
    have kf := H12.out.lt
    have hsz := HB.out.size
    have HT0 : Hid (ThIn w5 ⟨qP k a (none), none, none⟩ (.pointer pa5) (.pointer none) (.pointer none)) := ⟨HQ5.out, HX.out.c.below HB.out, HX.out.t.below HB.out⟩
    go_upto_region 11 with fail
    obtain ⟨V3, hV3⟩ : ∃ V3, (((w5.setCell ⟨w.heap.size, 0, none⟩ (.pointer pa5)).setCell ⟨w.heap.size + 3, 0, none⟩ (.int .i64 c5)).setCell ⟨w.heap.size + 3, 1, none⟩ (.int .u64 u5)) = V3 := ⟨_, rfl⟩
    obtain ⟨XN, hXN⟩ : ∃ XN : Th, ⟨qP k a (none), none, none⟩ = XN := ⟨_, rfl⟩
    rw [hXN] at HT0
    have H53 : Hid (Bk V3 w.heap.size 75 #[.pointer pa5, .pointer none, .pointer none]) := by show Bk _ _ _ _; rw [← hV3]; exact bk_set_ne (bk_set_ne (H5.out.set_ 0 _) (p := ⟨w.heap.size + 3, 0, none⟩) (show w.heap.size + 3 ≠ w.heap.size by omega)) (p := ⟨w.heap.size + 3, 1, none⟩) (show w.heap.size + 3 ≠ w.heap.size by omega)
    have H103 : Hid (Bk V3 (w.heap.size + 1) 75 #[.pointer none, .pointer none, .pointer none]) := by show Bk _ _ _ _; rw [← hV3]; exact bk_set_ne (bk_set_ne (bk_set_ne H10.out (p := ⟨w.heap.size, 0, none⟩) (show w.heap.size ≠ (w.heap.size + 1) by omega)) (p := ⟨w.heap.size + 3, 0, none⟩) (show w.heap.size + 3 ≠ (w.heap.size + 1) by omega)) (p := ⟨w.heap.size + 3, 1, none⟩) (show w.heap.size + 3 ≠ (w.heap.size + 1) by omega)
    have H113 : Hid (Bk V3 (w.heap.size + 2) 47 #[.int .i64 0, .int .u64 0]) := by show Bk _ _ _ _; rw [← hV3]; exact bk_set_ne (bk_set_ne (bk_set_ne H11.out (p := ⟨w.heap.size, 0, none⟩) (show w.heap.size ≠ (w.heap.size + 2) by omega)) (p := ⟨w.heap.size + 3, 0, none⟩) (show w.heap.size + 3 ≠ (w.heap.size + 2) by omega)) (p := ⟨w.heap.size + 3, 1, none⟩) (show w.heap.size + 3 ≠ (w.heap.size + 2) by omega)
    have H12x := Lib.hid (bk_set_ne H12.out (p := ⟨w.heap.size, 0, none⟩) (u := .pointer pa5) (show w.heap.size ≠ w.heap.size + 3 by omega))
    have H123 : Hid (Bk V3 (w.heap.size + 3) 47 #[.int .i64 c5, .int .u64 u5]) := by show Bk _ _ _ _; rw [← hV3]; exact (H12x.out.set_ 0 _).set_ 1 _
    have HT : Hid (ThIn V3 XN (.pointer pa5) (.pointer none) (.pointer none)) := by show ThIn _ _ _ _ _; rw [← hV3]; exact ((HT0.out.set H5.out (by decide) (by decide) (by simp) ⟨w.heap.size, 0, none⟩ rfl _).set H12x.out (by decide) (by decide) (by simp) ⟨w.heap.size + 3, 0, none⟩ rfl _).set (H12x.out.set_ 0 _) (by decide) (by decide) (by simp) ⟨w.heap.size + 3, 1, none⟩ rfl _
    have HB3 : Hid (Below w.heap.size w V3) := by show Below _ _ _; rw [← hV3]; exact ((HB.out.setCell (p := ⟨w.heap.size, 0, none⟩) (Nat.le_refl _) _).setCell (p := ⟨w.heap.size + 3, 0, none⟩) (by show _ ≤ w.heap.size + 3; omega) _).setCell (p := ⟨w.heap.size + 3, 1, none⟩) (by show _ ≤ w.heap.size + 3; omega) _
    rw [hV3]
    have HXN0 := Lib.hid hXN
    clear hV3 hXN HT0 HQ5 H5 H10 H11 H12 H12x HB
    clear c0 c1 c2 d0 e0 e1 f0 f1 k5 k10 k11 kf hsz
    have H5 := H53
    have H10 := H103
    have H11 := H113
    have H12 := H123
    have HB := HB3
    clear H53 H103 H113 H123 HB3
    have HXN : Hid (XN = XR) := by show _ = _; rw [← HXR.out, if_pos (HCd.out), ← HXN0.out]
    refine wp_region_held_drew (S := (fun w' => w'.rangeAt w.heap.size 0 (#[.pointer pa5, .pointer none, .pointer none] : Array Value).toList ∧ w'.rangeAt (w.heap.size + 3) 0 [.int .i64 c5, .int .u64 u5])) (by kernel_rfl) ?_ (fun hHeld => ?_)
    ·exact ⟨H5.out.rng, H12.out.rng⟩
    refine loadA 0 #[.pointer pa5, .pointer none, .pointer none] Tryz.underlying75 rfl (by kernel_rfl) ?_ ?_
    ·(intro w hSw; exact hSw.1)
    try simp only [Act.put, pS]
    refine loadA 1 #[.int .i64 c5, .int .u64 u5] Tryz.underlying47 rfl (by kernel_rfl) ?_ ?_
    ·(intro w hSw; exact hSw.2)
    try simp only [Act.put, pS]
    obtain ⟨V4, hV4⟩ : ∃ V4, V3.drew = V4 := ⟨_, rfl⟩
    have H5 : Hid (Bk V4 w.heap.size 75 #[.pointer pa5, .pointer none, .pointer none]) := by show Bk _ _ _ _; rw [← hV4]; exact H5.out
    have H10 : Hid (Bk V4 (w.heap.size + 1) 75 #[.pointer none, .pointer none, .pointer none]) := by show Bk _ _ _ _; rw [← hV4]; exact H10.out
    have H11 : Hid (Bk V4 (w.heap.size + 2) 47 #[.int .i64 0, .int .u64 0]) := by show Bk _ _ _ _; rw [← hV4]; exact H11.out
    have H12 : Hid (Bk V4 (w.heap.size + 3) 47 #[.int .i64 c5, .int .u64 u5]) := by show Bk _ _ _ _; rw [← hV4]; exact H12.out
    have HB : Hid (Below w.heap.size w V4) := by show Below _ _ _; rw [← hV4]; exact HB.out.drew
    have HT : Hid (ThIn V4 XN (.pointer pa5) (.pointer none) (.pointer none)) := by show ThIn _ _ _ _ _; rw [← hV4]; exact HT.out.below (Below.refl _ _).drew
    rw [hV4] at hHeld ⊢
    clear hV4
    refine comeA 2 fun K hK => ?_
    have g0 := (H10.out.cell 0).trans rfl
    have g1 := (H10.out.cell 1).trans rfl
    have g2 := (H10.out.cell 2).trans rfl
    have n0 := H10.out.frozen 0
    have n1 := H10.out.frozen 1
    have n2 := H10.out.frozen 2
    have k10 := H10.out.lt
    go_simp
    obtain ⟨V5, hV5⟩ : ∃ V5, (((V4.setCell ⟨w.heap.size + 1, 0, none⟩ (.pointer pa5)).setCell ⟨w.heap.size + 1, 1, none⟩ (.pointer none)).setCell ⟨w.heap.size + 1, 2, none⟩ (.pointer none)) = V5 := ⟨_, rfl⟩
    have HT6 : Hid (ThIn V5 XN (.pointer pa5) (.pointer none) (.pointer none)) := by show ThIn _ _ _ _ _; rw [← hV5]; exact ((HT.out.set H10.out (by decide) (by decide) (by simp) ⟨w.heap.size + 1, 0, none⟩ rfl _).set (H10.out.set_ 0 _) (by decide) (by decide) (by simp) ⟨w.heap.size + 1, 1, none⟩ rfl _).set ((H10.out.set_ 0 _).set_ 1 _) (by decide) (by decide) (by simp) ⟨w.heap.size + 1, 2, none⟩ rfl _
    have H106 : Hid (Bk V5 (w.heap.size + 1) 75 #[.pointer pa5, .pointer none, .pointer none]) := by show Bk _ _ _ _; rw [← hV5]; exact ((H10.out.set_ 0 _).set_ 1 _).set_ 2 _
    have H56 : Hid (Bk V5 w.heap.size 75 #[.pointer pa5, .pointer none, .pointer none]) := by show Bk _ _ _ _; rw [← hV5]; exact bk_set_ne (bk_set_ne (bk_set_ne H5.out (p := ⟨w.heap.size + 1, 0, none⟩) (show w.heap.size + 1 ≠ w.heap.size by omega)) (p := ⟨w.heap.size + 1, 1, none⟩) (show w.heap.size + 1 ≠ w.heap.size by omega)) (p := ⟨w.heap.size + 1, 2, none⟩) (show w.heap.size + 1 ≠ w.heap.size by omega)
    have H116 : Hid (Bk V5 (w.heap.size + 2) 47 #[.int .i64 0, .int .u64 0]) := by show Bk _ _ _ _; rw [← hV5]; exact bk_set_ne (bk_set_ne (bk_set_ne H11.out (p := ⟨w.heap.size + 1, 0, none⟩) (show w.heap.size + 1 ≠ (w.heap.size + 2) by omega)) (p := ⟨w.heap.size + 1, 1, none⟩) (show w.heap.size + 1 ≠ (w.heap.size + 2) by omega)) (p := ⟨w.heap.size + 1, 2, none⟩) (show w.heap.size + 1 ≠ (w.heap.size + 2) by omega)
    have H126 : Hid (Bk V5 (w.heap.size + 3) 47 #[.int .i64 c5, .int .u64 u5]) := by show Bk _ _ _ _; rw [← hV5]; exact bk_set_ne (bk_set_ne (bk_set_ne H12.out (p := ⟨w.heap.size + 1, 0, none⟩) (show w.heap.size + 1 ≠ (w.heap.size + 3) by omega)) (p := ⟨w.heap.size + 1, 1, none⟩) (show w.heap.size + 1 ≠ (w.heap.size + 3) by omega)) (p := ⟨w.heap.size + 1, 2, none⟩) (show w.heap.size + 1 ≠ (w.heap.size + 3) by omega)
    have HB6 : Hid (Below w.heap.size w V5) := by show Below _ _ _; rw [← hV5]; exact ((HB.out.setCell (p := ⟨w.heap.size + 1, 0, none⟩) (Nat.le_succ _) _).setCell (p := ⟨w.heap.size + 1, 1, none⟩) (Nat.le_succ _) _).setCell (p := ⟨w.heap.size + 1, 2, none⟩) (Nat.le_succ _) _
    rw [hV5]
    clear hV5 g0 g1 g2 n0 n1 n2 k10 H5 H10 H11 H12 HB HT
    refine hK.out _ _ ?_ (fun hHeld => ?_)
    ·exact ⟨H56.out.rng, H126.out.rng⟩
    clear hK K
    try simp only [Act.put, pS]
    refine comeA 3 fun K hK => ?_
    have g0 := (H116.out.cell 0).trans rfl
    have g1 := (H116.out.cell 1).trans rfl
    have n0 := H116.out.frozen 0
    have n1 := H116.out.frozen 1
    have k11 := H116.out.lt
    go_simp
    obtain ⟨V6, hV6⟩ : ∃ V6, ((V5.setCell ⟨w.heap.size + 2, 0, none⟩ (.int .i64 c5)).setCell ⟨w.heap.size + 2, 1, none⟩ (.int .u64 u5)) = V6 := ⟨_, rfl⟩
    have HT7 : Hid (ThIn V6 XN (.pointer pa5) (.pointer none) (.pointer none)) := by show ThIn _ _ _ _ _; rw [← hV6]; exact (HT6.out.set H116.out (by decide) (by decide) (by simp) ⟨w.heap.size + 2, 0, none⟩ rfl _).set (H116.out.set_ 0 _) (by decide) (by decide) (by simp) ⟨w.heap.size + 2, 1, none⟩ rfl _
    have H117 : Hid (Bk V6 (w.heap.size + 2) 47 #[.int .i64 c5, .int .u64 u5]) := by show Bk _ _ _ _; rw [← hV6]; exact (H116.out.set_ 0 _).set_ 1 _
    have H57 : Hid (Bk V6 w.heap.size 75 #[.pointer pa5, .pointer none, .pointer none]) := by show Bk _ _ _ _; rw [← hV6]; exact bk_set_ne (bk_set_ne H56.out (p := ⟨w.heap.size + 2, 0, none⟩) (show w.heap.size + 2 ≠ w.heap.size by omega)) (p := ⟨w.heap.size + 2, 1, none⟩) (show w.heap.size + 2 ≠ w.heap.size by omega)
    have H107 : Hid (Bk V6 (w.heap.size + 1) 75 #[.pointer pa5, .pointer none, .pointer none]) := by show Bk _ _ _ _; rw [← hV6]; exact bk_set_ne (bk_set_ne H106.out (p := ⟨w.heap.size + 2, 0, none⟩) (show w.heap.size + 2 ≠ (w.heap.size + 1) by omega)) (p := ⟨w.heap.size + 2, 1, none⟩) (show w.heap.size + 2 ≠ (w.heap.size + 1) by omega)
    have H127 : Hid (Bk V6 (w.heap.size + 3) 47 #[.int .i64 c5, .int .u64 u5]) := by show Bk _ _ _ _; rw [← hV6]; exact bk_set_ne (bk_set_ne H126.out (p := ⟨w.heap.size + 2, 0, none⟩) (show w.heap.size + 2 ≠ (w.heap.size + 3) by omega)) (p := ⟨w.heap.size + 2, 1, none⟩) (show w.heap.size + 2 ≠ (w.heap.size + 3) by omega)
    have HB7 : Hid (Below w.heap.size w V6) := by show Below _ _ _; rw [← hV6]; exact (HB6.out.setCell (p := ⟨w.heap.size + 2, 0, none⟩) (by show _ ≤ w.heap.size + 2; omega) _).setCell (p := ⟨w.heap.size + 2, 1, none⟩) (by show _ ≤ w.heap.size + 2; omega) _
    rw [hV6]
    clear hV6 g0 g1 n0 n1 k11
    refine hK.out _ _ ?_ (fun hHeld => ?_)
    ·exact ⟨H57.out.rng, H127.out.rng⟩
    clear hK K
    try simp only [Act.put, pS]
    refine wpAnyH_done (by kernel_rfl) ?_ _
    try simp only [Act.put, pS]
    go_wp2_with (with_reducible show bodyPost _ _ _ _ _ _
                 refine bodyPost_ret (results_cc (p := 10) (u := 11) (ty := 75) (tz := 47) rfl _ _ (w.heap.size + 1) (w.heap.size + 2) 75 47 _ _ _ _ (by rfl) H107.out Tryz.underlying75 rfl info_th (by rfl) H117.out Tryz.underlying47 rfl info_res) rfl ?_
                 exact ⟨_, _, _, _, rfl, HXN.out ▸ HT7.out, ⟨_, _, rfl⟩, HB7.out⟩)
   ·clear hone
    have hn0 : (Value.pointer a0) = .pointer none := HX.out.q
    have hn1 : (Value.pointer a1) = .pointer none := HX.out.c
    injection hn0 with hn0
    subst hn0
    injection hn1 with hn1
    subst hn1
    obtain ⟨a2', ha⟩ : ∃ z, a2 = some z := by obtain ⟨b, A, n, c, e, _⟩ := HX.out.t; injection e with e; exact ⟨_, e⟩
    subst ha
    obtain ⟨a2, rfl⟩ : ∃ z, z = a2' := ⟨_, rfl⟩
    clear c0 c1 c2 k5 k10 k11 kf hsz
    have c0 := (H5.out.cell 0).trans rfl
    have c1 := (H5.out.cell 1).trans rfl
    have c2 := (H5.out.cell 2).trans rfl
    have d0 := H5.out.frozen 0
    have e0 := (H12.out.cell 0).trans rfl
    have e1 := (H12.out.cell 1).trans rfl
    have f0 := H12.out.frozen 0
    have f1 := H12.out.frozen 1
    have k5 := H5.out.lt
    have k10 := H10.out.lt
    have k11 := H11.out.lt
    have kf := H12.out.lt
    have hsz := HB.out.size
    go_upto_region 11 with (go_at_call 43; go_in)
    ·obtain ⟨V3, hV3⟩ : ∃ V3, (((W1.setCell ⟨w.heap.size + 3, 0, none⟩ (.int .i64 40)).setCell ⟨w.heap.size + 3, 1, none⟩ (.int .u64 4)).alloc (.cells #[.pointer none, .pointer none, .pointer (some a2)] 75)) = V3 := ⟨_, rfl⟩
     obtain ⟨XN, hXN⟩ : ∃ XN : Th, ⟨none, none, some tv⟩ = XN := ⟨_, rfl⟩
     have H53 : Hid (Bk V3 w.heap.size 75 #[.pointer none, .pointer none, .pointer (some a2)]) := by show Bk _ _ _ _; rw [← hV3]; exact (bk_set_ne (bk_set_ne H5.out (p := ⟨w.heap.size + 3, 0, none⟩) (show w.heap.size + 3 ≠ w.heap.size by omega)) (p := ⟨w.heap.size + 3, 1, none⟩) (show w.heap.size + 3 ≠ w.heap.size by omega)).alloc _
     have H103 : Hid (Bk V3 (w.heap.size + 1) 75 #[.pointer none, .pointer none, .pointer none]) := by show Bk _ _ _ _; rw [← hV3]; exact (bk_set_ne (bk_set_ne H10.out (p := ⟨w.heap.size + 3, 0, none⟩) (show w.heap.size + 3 ≠ (w.heap.size + 1) by omega)) (p := ⟨w.heap.size + 3, 1, none⟩) (show w.heap.size + 3 ≠ (w.heap.size + 1) by omega)).alloc _
     have H113 : Hid (Bk V3 (w.heap.size + 2) 47 #[.int .i64 0, .int .u64 0]) := by show Bk _ _ _ _; rw [← hV3]; exact (bk_set_ne (bk_set_ne H11.out (p := ⟨w.heap.size + 3, 0, none⟩) (show w.heap.size + 3 ≠ (w.heap.size + 2) by omega)) (p := ⟨w.heap.size + 3, 1, none⟩) (show w.heap.size + 3 ≠ (w.heap.size + 2) by omega)).alloc _
     have H123 : Hid (Bk V3 (w.heap.size + 3) 47 #[.int .i64 40, .int .u64 4]) := by show Bk _ _ _ _; rw [← hV3]; exact ((H12.out.set_ 0 _).set_ 1 _).alloc _
     have HT : Hid (ThIn V3 XN (.pointer none) (.pointer none) (.pointer (some a2))) := by show ThIn _ _ _ _ _; rw [← hV3, ← hXN]; exact HX.out.below (((HB.out.setCell (p := ⟨w.heap.size + 3, 0, none⟩) (by show _ ≤ w.heap.size + 3; omega) _).setCell (p := ⟨w.heap.size + 3, 1, none⟩) (by show _ ≤ w.heap.size + 3; omega) _).alloc (by simp; omega) _)
     have HB3 : Hid (Below w.heap.size w V3) := by show Below _ _ _; rw [← hV3]; exact ((HB.out.setCell (p := ⟨w.heap.size + 3, 0, none⟩) (by show _ ≤ w.heap.size + 3; omega) _).setCell (p := ⟨w.heap.size + 3, 1, none⟩) (by show _ ≤ w.heap.size + 3; omega) _).alloc (by simp; omega) _
     rw [hV3]
     have HXN0 := Lib.hid hXN
     clear hV3 hXN H5 H10 H11 H12 HB
     clear c0 c1 c2 d0 e0 e1 f0 f1 k5 k10 k11 kf hsz
     have H5 := H53
     have H10 := H103
     have H11 := H113
     have H12 := H123
     have HB := HB3
     clear H53 H103 H113 H123 HB3
     have HXN : Hid (XN = XR) := by show _ = _; rw [← HXR.out, if_neg (by simp [Th.none_]), ← HXN0.out]
     refine wp_region_held_drew (S := (fun w' => w'.rangeAt w.heap.size 0 (#[.pointer none, .pointer none, .pointer (some a2)] : Array Value).toList ∧ w'.rangeAt (w.heap.size + 3) 0 [.int .i64 40, .int .u64 4])) (by kernel_rfl) ?_ (fun hHeld => ?_)
     ·exact ⟨H5.out.rng, H12.out.rng⟩
     refine loadA 0 #[.pointer none, .pointer none, .pointer (some a2)] Tryz.underlying75 rfl (by kernel_rfl) ?_ ?_
     ·(intro w hSw; exact hSw.1)
     try simp only [Act.put, pS]
     refine loadA 1 #[.int .i64 40, .int .u64 4] Tryz.underlying47 rfl (by kernel_rfl) ?_ ?_
     ·(intro w hSw; exact hSw.2)
     try simp only [Act.put, pS]
     obtain ⟨V4, hV4⟩ : ∃ V4, V3.drew = V4 := ⟨_, rfl⟩
     have H5 : Hid (Bk V4 w.heap.size 75 #[.pointer none, .pointer none, .pointer (some a2)]) := by show Bk _ _ _ _; rw [← hV4]; exact H5.out
     have H10 : Hid (Bk V4 (w.heap.size + 1) 75 #[.pointer none, .pointer none, .pointer none]) := by show Bk _ _ _ _; rw [← hV4]; exact H10.out
     have H11 : Hid (Bk V4 (w.heap.size + 2) 47 #[.int .i64 0, .int .u64 0]) := by show Bk _ _ _ _; rw [← hV4]; exact H11.out
     have H12 : Hid (Bk V4 (w.heap.size + 3) 47 #[.int .i64 40, .int .u64 4]) := by show Bk _ _ _ _; rw [← hV4]; exact H12.out
     have HB : Hid (Below w.heap.size w V4) := by show Below _ _ _; rw [← hV4]; exact HB.out.drew
     have HT : Hid (ThIn V4 XN (.pointer none) (.pointer none) (.pointer (some a2))) := by show ThIn _ _ _ _ _; rw [← hV4]; exact HT.out.below (Below.refl _ _).drew
     rw [hV4] at hHeld ⊢
     clear hV4
     refine comeA 2 fun K hK => ?_
     have g0 := (H10.out.cell 0).trans rfl
     have g1 := (H10.out.cell 1).trans rfl
     have g2 := (H10.out.cell 2).trans rfl
     have n0 := H10.out.frozen 0
     have n1 := H10.out.frozen 1
     have n2 := H10.out.frozen 2
     have k10 := H10.out.lt
     go_simp
     obtain ⟨V5, hV5⟩ : ∃ V5, (((V4.setCell ⟨w.heap.size + 1, 0, none⟩ (.pointer none)).setCell ⟨w.heap.size + 1, 1, none⟩ (.pointer none)).setCell ⟨w.heap.size + 1, 2, none⟩ (.pointer (some a2))) = V5 := ⟨_, rfl⟩
     have HT6 : Hid (ThIn V5 XN (.pointer none) (.pointer none) (.pointer (some a2))) := by show ThIn _ _ _ _ _; rw [← hV5]; exact ((HT.out.set H10.out (by decide) (by decide) (by simp) ⟨w.heap.size + 1, 0, none⟩ rfl _).set (H10.out.set_ 0 _) (by decide) (by decide) (by simp) ⟨w.heap.size + 1, 1, none⟩ rfl _).set ((H10.out.set_ 0 _).set_ 1 _) (by decide) (by decide) (by simp) ⟨w.heap.size + 1, 2, none⟩ rfl _
     have H106 : Hid (Bk V5 (w.heap.size + 1) 75 #[.pointer none, .pointer none, .pointer (some a2)]) := by show Bk _ _ _ _; rw [← hV5]; exact ((H10.out.set_ 0 _).set_ 1 _).set_ 2 _
     have H56 : Hid (Bk V5 w.heap.size 75 #[.pointer none, .pointer none, .pointer (some a2)]) := by show Bk _ _ _ _; rw [← hV5]; exact bk_set_ne (bk_set_ne (bk_set_ne H5.out (p := ⟨w.heap.size + 1, 0, none⟩) (show w.heap.size + 1 ≠ w.heap.size by omega)) (p := ⟨w.heap.size + 1, 1, none⟩) (show w.heap.size + 1 ≠ w.heap.size by omega)) (p := ⟨w.heap.size + 1, 2, none⟩) (show w.heap.size + 1 ≠ w.heap.size by omega)
     have H116 : Hid (Bk V5 (w.heap.size + 2) 47 #[.int .i64 0, .int .u64 0]) := by show Bk _ _ _ _; rw [← hV5]; exact bk_set_ne (bk_set_ne (bk_set_ne H11.out (p := ⟨w.heap.size + 1, 0, none⟩) (show w.heap.size + 1 ≠ (w.heap.size + 2) by omega)) (p := ⟨w.heap.size + 1, 1, none⟩) (show w.heap.size + 1 ≠ (w.heap.size + 2) by omega)) (p := ⟨w.heap.size + 1, 2, none⟩) (show w.heap.size + 1 ≠ (w.heap.size + 2) by omega)
     have H126 : Hid (Bk V5 (w.heap.size + 3) 47 #[.int .i64 40, .int .u64 4]) := by show Bk _ _ _ _; rw [← hV5]; exact bk_set_ne (bk_set_ne (bk_set_ne H12.out (p := ⟨w.heap.size + 1, 0, none⟩) (show w.heap.size + 1 ≠ (w.heap.size + 3) by omega)) (p := ⟨w.heap.size + 1, 1, none⟩) (show w.heap.size + 1 ≠ (w.heap.size + 3) by omega)) (p := ⟨w.heap.size + 1, 2, none⟩) (show w.heap.size + 1 ≠ (w.heap.size + 3) by omega)
     have HB6 : Hid (Below w.heap.size w V5) := by show Below _ _ _; rw [← hV5]; exact ((HB.out.setCell (p := ⟨w.heap.size + 1, 0, none⟩) (Nat.le_succ _) _).setCell (p := ⟨w.heap.size + 1, 1, none⟩) (Nat.le_succ _) _).setCell (p := ⟨w.heap.size + 1, 2, none⟩) (Nat.le_succ _) _
     rw [hV5]
     clear hV5 g0 g1 g2 n0 n1 n2 k10 H5 H10 H11 H12 HB HT
     refine hK.out _ _ ?_ (fun hHeld => ?_)
     ·exact ⟨H56.out.rng, H126.out.rng⟩
     clear hK K
     try simp only [Act.put, pS]
     refine comeA 3 fun K hK => ?_
     have g0 := (H116.out.cell 0).trans rfl
     have g1 := (H116.out.cell 1).trans rfl
     have n0 := H116.out.frozen 0
     have n1 := H116.out.frozen 1
     have k11 := H116.out.lt
     go_simp
     obtain ⟨V6, hV6⟩ : ∃ V6, ((V5.setCell ⟨w.heap.size + 2, 0, none⟩ (.int .i64 40)).setCell ⟨w.heap.size + 2, 1, none⟩ (.int .u64 4)) = V6 := ⟨_, rfl⟩
     have HT7 : Hid (ThIn V6 XN (.pointer none) (.pointer none) (.pointer (some a2))) := by show ThIn _ _ _ _ _; rw [← hV6]; exact (HT6.out.set H116.out (by decide) (by decide) (by simp) ⟨w.heap.size + 2, 0, none⟩ rfl _).set (H116.out.set_ 0 _) (by decide) (by decide) (by simp) ⟨w.heap.size + 2, 1, none⟩ rfl _
     have H117 : Hid (Bk V6 (w.heap.size + 2) 47 #[.int .i64 40, .int .u64 4]) := by show Bk _ _ _ _; rw [← hV6]; exact (H116.out.set_ 0 _).set_ 1 _
     have H57 : Hid (Bk V6 w.heap.size 75 #[.pointer none, .pointer none, .pointer (some a2)]) := by show Bk _ _ _ _; rw [← hV6]; exact bk_set_ne (bk_set_ne H56.out (p := ⟨w.heap.size + 2, 0, none⟩) (show w.heap.size + 2 ≠ w.heap.size by omega)) (p := ⟨w.heap.size + 2, 1, none⟩) (show w.heap.size + 2 ≠ w.heap.size by omega)
     have H107 : Hid (Bk V6 (w.heap.size + 1) 75 #[.pointer none, .pointer none, .pointer (some a2)]) := by show Bk _ _ _ _; rw [← hV6]; exact bk_set_ne (bk_set_ne H106.out (p := ⟨w.heap.size + 2, 0, none⟩) (show w.heap.size + 2 ≠ (w.heap.size + 1) by omega)) (p := ⟨w.heap.size + 2, 1, none⟩) (show w.heap.size + 2 ≠ (w.heap.size + 1) by omega)
     have H127 : Hid (Bk V6 (w.heap.size + 3) 47 #[.int .i64 40, .int .u64 4]) := by show Bk _ _ _ _; rw [← hV6]; exact bk_set_ne (bk_set_ne H126.out (p := ⟨w.heap.size + 2, 0, none⟩) (show w.heap.size + 2 ≠ (w.heap.size + 3) by omega)) (p := ⟨w.heap.size + 2, 1, none⟩) (show w.heap.size + 2 ≠ (w.heap.size + 3) by omega)
     have HB7 : Hid (Below w.heap.size w V6) := by show Below _ _ _; rw [← hV6]; exact (HB6.out.setCell (p := ⟨w.heap.size + 2, 0, none⟩) (by show _ ≤ w.heap.size + 2; omega) _).setCell (p := ⟨w.heap.size + 2, 1, none⟩) (by show _ ≤ w.heap.size + 2; omega) _
     rw [hV6]
     clear hV6 g0 g1 n0 n1 k11
     refine hK.out _ _ ?_ (fun hHeld => ?_)
     ·exact ⟨H57.out.rng, H127.out.rng⟩
     clear hK K
     try simp only [Act.put, pS]
     refine wpAnyH_done (by kernel_rfl) ?_ _
     try simp only [Act.put, pS]
     go_wp2_with (with_reducible show bodyPost _ _ _ _ _ _
                  refine bodyPost_ret (results_cc (p := 10) (u := 11) (ty := 75) (tz := 47) rfl _ _ (w.heap.size + 1) (w.heap.size + 2) 75 47 _ _ _ _ (by rfl) H107.out Tryz.underlying75 rfl info_th (by rfl) H117.out Tryz.underlying47 rfl info_res) rfl ?_
                  exact ⟨_, _, _, _, rfl, HXN.out ▸ HT7.out, ⟨_, _, rfl⟩, HB7.out⟩)
    ·obtain ⟨V3, hV3⟩ : ∃ V3, (((W1.setCell ⟨w.heap.size + 3, 0, none⟩ (.int .i64 40)).setCell ⟨w.heap.size + 3, 1, none⟩ (.int .u64 6)).alloc (.cells #[.pointer none, .pointer none, .pointer (some a2)] 75)) = V3 := ⟨_, rfl⟩
     obtain ⟨XN, hXN⟩ : ∃ XN : Th, ⟨none, none, some tv⟩ = XN := ⟨_, rfl⟩
     have H53 : Hid (Bk V3 w.heap.size 75 #[.pointer none, .pointer none, .pointer (some a2)]) := by show Bk _ _ _ _; rw [← hV3]; exact (bk_set_ne (bk_set_ne H5.out (p := ⟨w.heap.size + 3, 0, none⟩) (show w.heap.size + 3 ≠ w.heap.size by omega)) (p := ⟨w.heap.size + 3, 1, none⟩) (show w.heap.size + 3 ≠ w.heap.size by omega)).alloc _
     have H103 : Hid (Bk V3 (w.heap.size + 1) 75 #[.pointer none, .pointer none, .pointer none]) := by show Bk _ _ _ _; rw [← hV3]; exact (bk_set_ne (bk_set_ne H10.out (p := ⟨w.heap.size + 3, 0, none⟩) (show w.heap.size + 3 ≠ (w.heap.size + 1) by omega)) (p := ⟨w.heap.size + 3, 1, none⟩) (show w.heap.size + 3 ≠ (w.heap.size + 1) by omega)).alloc _
     have H113 : Hid (Bk V3 (w.heap.size + 2) 47 #[.int .i64 0, .int .u64 0]) := by show Bk _ _ _ _; rw [← hV3]; exact (bk_set_ne (bk_set_ne H11.out (p := ⟨w.heap.size + 3, 0, none⟩) (show w.heap.size + 3 ≠ (w.heap.size + 2) by omega)) (p := ⟨w.heap.size + 3, 1, none⟩) (show w.heap.size + 3 ≠ (w.heap.size + 2) by omega)).alloc _
     have H123 : Hid (Bk V3 (w.heap.size + 3) 47 #[.int .i64 40, .int .u64 6]) := by show Bk _ _ _ _; rw [← hV3]; exact ((H12.out.set_ 0 _).set_ 1 _).alloc _
     have HT : Hid (ThIn V3 XN (.pointer none) (.pointer none) (.pointer (some a2))) := by show ThIn _ _ _ _ _; rw [← hV3, ← hXN]; exact HX.out.below (((HB.out.setCell (p := ⟨w.heap.size + 3, 0, none⟩) (by show _ ≤ w.heap.size + 3; omega) _).setCell (p := ⟨w.heap.size + 3, 1, none⟩) (by show _ ≤ w.heap.size + 3; omega) _).alloc (by simp; omega) _)
     have HB3 : Hid (Below w.heap.size w V3) := by show Below _ _ _; rw [← hV3]; exact ((HB.out.setCell (p := ⟨w.heap.size + 3, 0, none⟩) (by show _ ≤ w.heap.size + 3; omega) _).setCell (p := ⟨w.heap.size + 3, 1, none⟩) (by show _ ≤ w.heap.size + 3; omega) _).alloc (by simp; omega) _
     rw [hV3]
     have HXN0 := Lib.hid hXN
     clear hV3 hXN H5 H10 H11 H12 HB
     clear c0 c1 c2 d0 e0 e1 f0 f1 k5 k10 k11 kf hsz
     have H5 := H53
     have H10 := H103
     have H11 := H113
     have H12 := H123
     have HB := HB3
     clear H53 H103 H113 H123 HB3
     have HXN : Hid (XN = XR) := by show _ = _; rw [← HXR.out, if_neg (by simp [Th.none_]), ← HXN0.out]
     refine wp_region_held_drew (S := (fun w' => w'.rangeAt w.heap.size 0 (#[.pointer none, .pointer none, .pointer (some a2)] : Array Value).toList ∧ w'.rangeAt (w.heap.size + 3) 0 [.int .i64 40, .int .u64 6])) (by kernel_rfl) ?_ (fun hHeld => ?_)
     ·exact ⟨H5.out.rng, H12.out.rng⟩
     refine loadA 0 #[.pointer none, .pointer none, .pointer (some a2)] Tryz.underlying75 rfl (by kernel_rfl) ?_ ?_
     ·(intro w hSw; exact hSw.1)
     try simp only [Act.put, pS]
     refine loadA 1 #[.int .i64 40, .int .u64 6] Tryz.underlying47 rfl (by kernel_rfl) ?_ ?_
     ·(intro w hSw; exact hSw.2)
     try simp only [Act.put, pS]
     obtain ⟨V4, hV4⟩ : ∃ V4, V3.drew = V4 := ⟨_, rfl⟩
     have H5 : Hid (Bk V4 w.heap.size 75 #[.pointer none, .pointer none, .pointer (some a2)]) := by show Bk _ _ _ _; rw [← hV4]; exact H5.out
     have H10 : Hid (Bk V4 (w.heap.size + 1) 75 #[.pointer none, .pointer none, .pointer none]) := by show Bk _ _ _ _; rw [← hV4]; exact H10.out
     have H11 : Hid (Bk V4 (w.heap.size + 2) 47 #[.int .i64 0, .int .u64 0]) := by show Bk _ _ _ _; rw [← hV4]; exact H11.out
     have H12 : Hid (Bk V4 (w.heap.size + 3) 47 #[.int .i64 40, .int .u64 6]) := by show Bk _ _ _ _; rw [← hV4]; exact H12.out
     have HB : Hid (Below w.heap.size w V4) := by show Below _ _ _; rw [← hV4]; exact HB.out.drew
     have HT : Hid (ThIn V4 XN (.pointer none) (.pointer none) (.pointer (some a2))) := by show ThIn _ _ _ _ _; rw [← hV4]; exact HT.out.below (Below.refl _ _).drew
     rw [hV4] at hHeld ⊢
     clear hV4
     refine comeA 2 fun K hK => ?_
     have g0 := (H10.out.cell 0).trans rfl
     have g1 := (H10.out.cell 1).trans rfl
     have g2 := (H10.out.cell 2).trans rfl
     have n0 := H10.out.frozen 0
     have n1 := H10.out.frozen 1
     have n2 := H10.out.frozen 2
     have k10 := H10.out.lt
     go_simp
     obtain ⟨V5, hV5⟩ : ∃ V5, (((V4.setCell ⟨w.heap.size + 1, 0, none⟩ (.pointer none)).setCell ⟨w.heap.size + 1, 1, none⟩ (.pointer none)).setCell ⟨w.heap.size + 1, 2, none⟩ (.pointer (some a2))) = V5 := ⟨_, rfl⟩
     have HT6 : Hid (ThIn V5 XN (.pointer none) (.pointer none) (.pointer (some a2))) := by show ThIn _ _ _ _ _; rw [← hV5]; exact ((HT.out.set H10.out (by decide) (by decide) (by simp) ⟨w.heap.size + 1, 0, none⟩ rfl _).set (H10.out.set_ 0 _) (by decide) (by decide) (by simp) ⟨w.heap.size + 1, 1, none⟩ rfl _).set ((H10.out.set_ 0 _).set_ 1 _) (by decide) (by decide) (by simp) ⟨w.heap.size + 1, 2, none⟩ rfl _
     have H106 : Hid (Bk V5 (w.heap.size + 1) 75 #[.pointer none, .pointer none, .pointer (some a2)]) := by show Bk _ _ _ _; rw [← hV5]; exact ((H10.out.set_ 0 _).set_ 1 _).set_ 2 _
     have H56 : Hid (Bk V5 w.heap.size 75 #[.pointer none, .pointer none, .pointer (some a2)]) := by show Bk _ _ _ _; rw [← hV5]; exact bk_set_ne (bk_set_ne (bk_set_ne H5.out (p := ⟨w.heap.size + 1, 0, none⟩) (show w.heap.size + 1 ≠ w.heap.size by omega)) (p := ⟨w.heap.size + 1, 1, none⟩) (show w.heap.size + 1 ≠ w.heap.size by omega)) (p := ⟨w.heap.size + 1, 2, none⟩) (show w.heap.size + 1 ≠ w.heap.size by omega)
     have H116 : Hid (Bk V5 (w.heap.size + 2) 47 #[.int .i64 0, .int .u64 0]) := by show Bk _ _ _ _; rw [← hV5]; exact bk_set_ne (bk_set_ne (bk_set_ne H11.out (p := ⟨w.heap.size + 1, 0, none⟩) (show w.heap.size + 1 ≠ (w.heap.size + 2) by omega)) (p := ⟨w.heap.size + 1, 1, none⟩) (show w.heap.size + 1 ≠ (w.heap.size + 2) by omega)) (p := ⟨w.heap.size + 1, 2, none⟩) (show w.heap.size + 1 ≠ (w.heap.size + 2) by omega)
     have H126 : Hid (Bk V5 (w.heap.size + 3) 47 #[.int .i64 40, .int .u64 6]) := by show Bk _ _ _ _; rw [← hV5]; exact bk_set_ne (bk_set_ne (bk_set_ne H12.out (p := ⟨w.heap.size + 1, 0, none⟩) (show w.heap.size + 1 ≠ (w.heap.size + 3) by omega)) (p := ⟨w.heap.size + 1, 1, none⟩) (show w.heap.size + 1 ≠ (w.heap.size + 3) by omega)) (p := ⟨w.heap.size + 1, 2, none⟩) (show w.heap.size + 1 ≠ (w.heap.size + 3) by omega)
     have HB6 : Hid (Below w.heap.size w V5) := by show Below _ _ _; rw [← hV5]; exact ((HB.out.setCell (p := ⟨w.heap.size + 1, 0, none⟩) (Nat.le_succ _) _).setCell (p := ⟨w.heap.size + 1, 1, none⟩) (Nat.le_succ _) _).setCell (p := ⟨w.heap.size + 1, 2, none⟩) (Nat.le_succ _) _
     rw [hV5]
     clear hV5 g0 g1 g2 n0 n1 n2 k10 H5 H10 H11 H12 HB HT
     refine hK.out _ _ ?_ (fun hHeld => ?_)
     ·exact ⟨H56.out.rng, H126.out.rng⟩
     clear hK K
     try simp only [Act.put, pS]
     refine comeA 3 fun K hK => ?_
     have g0 := (H116.out.cell 0).trans rfl
     have g1 := (H116.out.cell 1).trans rfl
     have n0 := H116.out.frozen 0
     have n1 := H116.out.frozen 1
     have k11 := H116.out.lt
     go_simp
     obtain ⟨V6, hV6⟩ : ∃ V6, ((V5.setCell ⟨w.heap.size + 2, 0, none⟩ (.int .i64 40)).setCell ⟨w.heap.size + 2, 1, none⟩ (.int .u64 6)) = V6 := ⟨_, rfl⟩
     have HT7 : Hid (ThIn V6 XN (.pointer none) (.pointer none) (.pointer (some a2))) := by show ThIn _ _ _ _ _; rw [← hV6]; exact (HT6.out.set H116.out (by decide) (by decide) (by simp) ⟨w.heap.size + 2, 0, none⟩ rfl _).set (H116.out.set_ 0 _) (by decide) (by decide) (by simp) ⟨w.heap.size + 2, 1, none⟩ rfl _
     have H117 : Hid (Bk V6 (w.heap.size + 2) 47 #[.int .i64 40, .int .u64 6]) := by show Bk _ _ _ _; rw [← hV6]; exact (H116.out.set_ 0 _).set_ 1 _
     have H57 : Hid (Bk V6 w.heap.size 75 #[.pointer none, .pointer none, .pointer (some a2)]) := by show Bk _ _ _ _; rw [← hV6]; exact bk_set_ne (bk_set_ne H56.out (p := ⟨w.heap.size + 2, 0, none⟩) (show w.heap.size + 2 ≠ w.heap.size by omega)) (p := ⟨w.heap.size + 2, 1, none⟩) (show w.heap.size + 2 ≠ w.heap.size by omega)
     have H107 : Hid (Bk V6 (w.heap.size + 1) 75 #[.pointer none, .pointer none, .pointer (some a2)]) := by show Bk _ _ _ _; rw [← hV6]; exact bk_set_ne (bk_set_ne H106.out (p := ⟨w.heap.size + 2, 0, none⟩) (show w.heap.size + 2 ≠ (w.heap.size + 1) by omega)) (p := ⟨w.heap.size + 2, 1, none⟩) (show w.heap.size + 2 ≠ (w.heap.size + 1) by omega)
     have H127 : Hid (Bk V6 (w.heap.size + 3) 47 #[.int .i64 40, .int .u64 6]) := by show Bk _ _ _ _; rw [← hV6]; exact bk_set_ne (bk_set_ne H126.out (p := ⟨w.heap.size + 2, 0, none⟩) (show w.heap.size + 2 ≠ (w.heap.size + 3) by omega)) (p := ⟨w.heap.size + 2, 1, none⟩) (show w.heap.size + 2 ≠ (w.heap.size + 3) by omega)
     have HB7 : Hid (Below w.heap.size w V6) := by show Below _ _ _; rw [← hV6]; exact (HB6.out.setCell (p := ⟨w.heap.size + 2, 0, none⟩) (by show _ ≤ w.heap.size + 2; omega) _).setCell (p := ⟨w.heap.size + 2, 1, none⟩) (by show _ ≤ w.heap.size + 2; omega) _
     rw [hV6]
     clear hV6 g0 g1 n0 n1 k11
     refine hK.out _ _ ?_ (fun hHeld => ?_)
     ·exact ⟨H57.out.rng, H127.out.rng⟩
     clear hK K
     try simp only [Act.put, pS]
     refine wpAnyH_done (by kernel_rfl) ?_ _
     try simp only [Act.put, pS]
     go_wp2_with (with_reducible show bodyPost _ _ _ _ _ _
                  refine bodyPost_ret (results_cc (p := 10) (u := 11) (ty := 75) (tz := 47) rfl _ _ (w.heap.size + 1) (w.heap.size + 2) 75 47 _ _ _ _ (by rfl) H107.out Tryz.underlying75 rfl info_th (by rfl) H117.out Tryz.underlying47 rfl info_res) rfl ?_
                  exact ⟨_, _, _, _, rfl, HXN.out ▸ HT7.out, ⟨_, _, rfl⟩, HB7.out⟩)
  ·obtain rfl : t = none := by rcases hone with h | h | h <;> simp_all
   clear hone
   have hn0 : (Value.pointer a0) = .pointer none := HX.out.q
   have hn2 : (Value.pointer a2) = .pointer none := HX.out.t
   injection hn0 with hn0
   subst hn0
   injection hn2 with hn2
   subst hn2
   obtain ⟨a1', ha⟩ : ∃ z, a1 = some z := by obtain ⟨b, A, n, c, e, _⟩ := HX.out.c; injection e with e; exact ⟨_, e⟩
   subst ha
   obtain ⟨a1, rfl⟩ : ∃ z, z = a1' := ⟨_, rfl⟩
   clear c0 c1 c2 k5 k10 k11 kf hsz
   have c0 := (H5.out.cell 0).trans rfl
   have c1 := (H5.out.cell 1).trans rfl
   have c2 := (H5.out.cell 2).trans rfl
   have d0 := H5.out.frozen 0
   have e0 := (H12.out.cell 0).trans rfl
   have e1 := (H12.out.cell 1).trans rfl
   have f0 := H12.out.frozen 0
   have f1 := H12.out.frozen 1
   have k5 := H5.out.lt
   have k10 := H10.out.lt
   have k11 := H11.out.lt
   have kf := H12.out.lt
   have hsz := HB.out.size
   go_upto_region 11 with (go_at_call 43; go_in)
   ·obtain ⟨V3, hV3⟩ : ∃ V3, (((W1.setCell ⟨w.heap.size + 3, 0, none⟩ (.int .i64 40)).setCell ⟨w.heap.size + 3, 1, none⟩ (.int .u64 4)).alloc (.cells #[.pointer none, .pointer (some a1), .pointer none] 75)) = V3 := ⟨_, rfl⟩
    obtain ⟨XN, hXN⟩ : ∃ XN : Th, ⟨none, some cv, none⟩ = XN := ⟨_, rfl⟩
    have H53 : Hid (Bk V3 w.heap.size 75 #[.pointer none, .pointer (some a1), .pointer none]) := by show Bk _ _ _ _; rw [← hV3]; exact (bk_set_ne (bk_set_ne H5.out (p := ⟨w.heap.size + 3, 0, none⟩) (show w.heap.size + 3 ≠ w.heap.size by omega)) (p := ⟨w.heap.size + 3, 1, none⟩) (show w.heap.size + 3 ≠ w.heap.size by omega)).alloc _
    have H103 : Hid (Bk V3 (w.heap.size + 1) 75 #[.pointer none, .pointer none, .pointer none]) := by show Bk _ _ _ _; rw [← hV3]; exact (bk_set_ne (bk_set_ne H10.out (p := ⟨w.heap.size + 3, 0, none⟩) (show w.heap.size + 3 ≠ (w.heap.size + 1) by omega)) (p := ⟨w.heap.size + 3, 1, none⟩) (show w.heap.size + 3 ≠ (w.heap.size + 1) by omega)).alloc _
    have H113 : Hid (Bk V3 (w.heap.size + 2) 47 #[.int .i64 0, .int .u64 0]) := by show Bk _ _ _ _; rw [← hV3]; exact (bk_set_ne (bk_set_ne H11.out (p := ⟨w.heap.size + 3, 0, none⟩) (show w.heap.size + 3 ≠ (w.heap.size + 2) by omega)) (p := ⟨w.heap.size + 3, 1, none⟩) (show w.heap.size + 3 ≠ (w.heap.size + 2) by omega)).alloc _
    have H123 : Hid (Bk V3 (w.heap.size + 3) 47 #[.int .i64 40, .int .u64 4]) := by show Bk _ _ _ _; rw [← hV3]; exact ((H12.out.set_ 0 _).set_ 1 _).alloc _
    have HT : Hid (ThIn V3 XN (.pointer none) (.pointer (some a1)) (.pointer none)) := by show ThIn _ _ _ _ _; rw [← hV3, ← hXN]; exact HX.out.below (((HB.out.setCell (p := ⟨w.heap.size + 3, 0, none⟩) (by show _ ≤ w.heap.size + 3; omega) _).setCell (p := ⟨w.heap.size + 3, 1, none⟩) (by show _ ≤ w.heap.size + 3; omega) _).alloc (by simp; omega) _)
    have HB3 : Hid (Below w.heap.size w V3) := by show Below _ _ _; rw [← hV3]; exact ((HB.out.setCell (p := ⟨w.heap.size + 3, 0, none⟩) (by show _ ≤ w.heap.size + 3; omega) _).setCell (p := ⟨w.heap.size + 3, 1, none⟩) (by show _ ≤ w.heap.size + 3; omega) _).alloc (by simp; omega) _
    rw [hV3]
    have HXN0 := Lib.hid hXN
    clear hV3 hXN H5 H10 H11 H12 HB
    clear c0 c1 c2 d0 e0 e1 f0 f1 k5 k10 k11 kf hsz
    have H5 := H53
    have H10 := H103
    have H11 := H113
    have H12 := H123
    have HB := HB3
    clear H53 H103 H113 H123 HB3
    have HXN : Hid (XN = XR) := by show _ = _; rw [← HXR.out, if_neg (by simp [Th.none_]), ← HXN0.out]
    refine wp_region_held_drew (S := (fun w' => w'.rangeAt w.heap.size 0 (#[.pointer none, .pointer (some a1), .pointer none] : Array Value).toList ∧ w'.rangeAt (w.heap.size + 3) 0 [.int .i64 40, .int .u64 4])) (by kernel_rfl) ?_ (fun hHeld => ?_)
    ·exact ⟨H5.out.rng, H12.out.rng⟩
    refine loadA 0 #[.pointer none, .pointer (some a1), .pointer none] Tryz.underlying75 rfl (by kernel_rfl) ?_ ?_
    ·(intro w hSw; exact hSw.1)
    try simp only [Act.put, pS]
    refine loadA 1 #[.int .i64 40, .int .u64 4] Tryz.underlying47 rfl (by kernel_rfl) ?_ ?_
    ·(intro w hSw; exact hSw.2)
    try simp only [Act.put, pS]
    obtain ⟨V4, hV4⟩ : ∃ V4, V3.drew = V4 := ⟨_, rfl⟩
    have H5 : Hid (Bk V4 w.heap.size 75 #[.pointer none, .pointer (some a1), .pointer none]) := by show Bk _ _ _ _; rw [← hV4]; exact H5.out
    have H10 : Hid (Bk V4 (w.heap.size + 1) 75 #[.pointer none, .pointer none, .pointer none]) := by show Bk _ _ _ _; rw [← hV4]; exact H10.out
    have H11 : Hid (Bk V4 (w.heap.size + 2) 47 #[.int .i64 0, .int .u64 0]) := by show Bk _ _ _ _; rw [← hV4]; exact H11.out
    have H12 : Hid (Bk V4 (w.heap.size + 3) 47 #[.int .i64 40, .int .u64 4]) := by show Bk _ _ _ _; rw [← hV4]; exact H12.out
    have HB : Hid (Below w.heap.size w V4) := by show Below _ _ _; rw [← hV4]; exact HB.out.drew
    have HT : Hid (ThIn V4 XN (.pointer none) (.pointer (some a1)) (.pointer none)) := by show ThIn _ _ _ _ _; rw [← hV4]; exact HT.out.below (Below.refl _ _).drew
    rw [hV4] at hHeld ⊢
    clear hV4
    refine comeA 2 fun K hK => ?_
    have g0 := (H10.out.cell 0).trans rfl
    have g1 := (H10.out.cell 1).trans rfl
    have g2 := (H10.out.cell 2).trans rfl
    have n0 := H10.out.frozen 0
    have n1 := H10.out.frozen 1
    have n2 := H10.out.frozen 2
    have k10 := H10.out.lt
    go_simp
    obtain ⟨V5, hV5⟩ : ∃ V5, (((V4.setCell ⟨w.heap.size + 1, 0, none⟩ (.pointer none)).setCell ⟨w.heap.size + 1, 1, none⟩ (.pointer (some a1))).setCell ⟨w.heap.size + 1, 2, none⟩ (.pointer none)) = V5 := ⟨_, rfl⟩
    have HT6 : Hid (ThIn V5 XN (.pointer none) (.pointer (some a1)) (.pointer none)) := by show ThIn _ _ _ _ _; rw [← hV5]; exact ((HT.out.set H10.out (by decide) (by decide) (by simp) ⟨w.heap.size + 1, 0, none⟩ rfl _).set (H10.out.set_ 0 _) (by decide) (by decide) (by simp) ⟨w.heap.size + 1, 1, none⟩ rfl _).set ((H10.out.set_ 0 _).set_ 1 _) (by decide) (by decide) (by simp) ⟨w.heap.size + 1, 2, none⟩ rfl _
    have H106 : Hid (Bk V5 (w.heap.size + 1) 75 #[.pointer none, .pointer (some a1), .pointer none]) := by show Bk _ _ _ _; rw [← hV5]; exact ((H10.out.set_ 0 _).set_ 1 _).set_ 2 _
    have H56 : Hid (Bk V5 w.heap.size 75 #[.pointer none, .pointer (some a1), .pointer none]) := by show Bk _ _ _ _; rw [← hV5]; exact bk_set_ne (bk_set_ne (bk_set_ne H5.out (p := ⟨w.heap.size + 1, 0, none⟩) (show w.heap.size + 1 ≠ w.heap.size by omega)) (p := ⟨w.heap.size + 1, 1, none⟩) (show w.heap.size + 1 ≠ w.heap.size by omega)) (p := ⟨w.heap.size + 1, 2, none⟩) (show w.heap.size + 1 ≠ w.heap.size by omega)
    have H116 : Hid (Bk V5 (w.heap.size + 2) 47 #[.int .i64 0, .int .u64 0]) := by show Bk _ _ _ _; rw [← hV5]; exact bk_set_ne (bk_set_ne (bk_set_ne H11.out (p := ⟨w.heap.size + 1, 0, none⟩) (show w.heap.size + 1 ≠ (w.heap.size + 2) by omega)) (p := ⟨w.heap.size + 1, 1, none⟩) (show w.heap.size + 1 ≠ (w.heap.size + 2) by omega)) (p := ⟨w.heap.size + 1, 2, none⟩) (show w.heap.size + 1 ≠ (w.heap.size + 2) by omega)
    have H126 : Hid (Bk V5 (w.heap.size + 3) 47 #[.int .i64 40, .int .u64 4]) := by show Bk _ _ _ _; rw [← hV5]; exact bk_set_ne (bk_set_ne (bk_set_ne H12.out (p := ⟨w.heap.size + 1, 0, none⟩) (show w.heap.size + 1 ≠ (w.heap.size + 3) by omega)) (p := ⟨w.heap.size + 1, 1, none⟩) (show w.heap.size + 1 ≠ (w.heap.size + 3) by omega)) (p := ⟨w.heap.size + 1, 2, none⟩) (show w.heap.size + 1 ≠ (w.heap.size + 3) by omega)
    have HB6 : Hid (Below w.heap.size w V5) := by show Below _ _ _; rw [← hV5]; exact ((HB.out.setCell (p := ⟨w.heap.size + 1, 0, none⟩) (Nat.le_succ _) _).setCell (p := ⟨w.heap.size + 1, 1, none⟩) (Nat.le_succ _) _).setCell (p := ⟨w.heap.size + 1, 2, none⟩) (Nat.le_succ _) _
    rw [hV5]
    clear hV5 g0 g1 g2 n0 n1 n2 k10 H5 H10 H11 H12 HB HT
    refine hK.out _ _ ?_ (fun hHeld => ?_)
    ·exact ⟨H56.out.rng, H126.out.rng⟩
    clear hK K
    try simp only [Act.put, pS]
    refine comeA 3 fun K hK => ?_
    have g0 := (H116.out.cell 0).trans rfl
    have g1 := (H116.out.cell 1).trans rfl
    have n0 := H116.out.frozen 0
    have n1 := H116.out.frozen 1
    have k11 := H116.out.lt
    go_simp
    obtain ⟨V6, hV6⟩ : ∃ V6, ((V5.setCell ⟨w.heap.size + 2, 0, none⟩ (.int .i64 40)).setCell ⟨w.heap.size + 2, 1, none⟩ (.int .u64 4)) = V6 := ⟨_, rfl⟩
    have HT7 : Hid (ThIn V6 XN (.pointer none) (.pointer (some a1)) (.pointer none)) := by show ThIn _ _ _ _ _; rw [← hV6]; exact (HT6.out.set H116.out (by decide) (by decide) (by simp) ⟨w.heap.size + 2, 0, none⟩ rfl _).set (H116.out.set_ 0 _) (by decide) (by decide) (by simp) ⟨w.heap.size + 2, 1, none⟩ rfl _
    have H117 : Hid (Bk V6 (w.heap.size + 2) 47 #[.int .i64 40, .int .u64 4]) := by show Bk _ _ _ _; rw [← hV6]; exact (H116.out.set_ 0 _).set_ 1 _
    have H57 : Hid (Bk V6 w.heap.size 75 #[.pointer none, .pointer (some a1), .pointer none]) := by show Bk _ _ _ _; rw [← hV6]; exact bk_set_ne (bk_set_ne H56.out (p := ⟨w.heap.size + 2, 0, none⟩) (show w.heap.size + 2 ≠ w.heap.size by omega)) (p := ⟨w.heap.size + 2, 1, none⟩) (show w.heap.size + 2 ≠ w.heap.size by omega)
    have H107 : Hid (Bk V6 (w.heap.size + 1) 75 #[.pointer none, .pointer (some a1), .pointer none]) := by show Bk _ _ _ _; rw [← hV6]; exact bk_set_ne (bk_set_ne H106.out (p := ⟨w.heap.size + 2, 0, none⟩) (show w.heap.size + 2 ≠ (w.heap.size + 1) by omega)) (p := ⟨w.heap.size + 2, 1, none⟩) (show w.heap.size + 2 ≠ (w.heap.size + 1) by omega)
    have H127 : Hid (Bk V6 (w.heap.size + 3) 47 #[.int .i64 40, .int .u64 4]) := by show Bk _ _ _ _; rw [← hV6]; exact bk_set_ne (bk_set_ne H126.out (p := ⟨w.heap.size + 2, 0, none⟩) (show w.heap.size + 2 ≠ (w.heap.size + 3) by omega)) (p := ⟨w.heap.size + 2, 1, none⟩) (show w.heap.size + 2 ≠ (w.heap.size + 3) by omega)
    have HB7 : Hid (Below w.heap.size w V6) := by show Below _ _ _; rw [← hV6]; exact (HB6.out.setCell (p := ⟨w.heap.size + 2, 0, none⟩) (by show _ ≤ w.heap.size + 2; omega) _).setCell (p := ⟨w.heap.size + 2, 1, none⟩) (by show _ ≤ w.heap.size + 2; omega) _
    rw [hV6]
    clear hV6 g0 g1 n0 n1 k11
    refine hK.out _ _ ?_ (fun hHeld => ?_)
    ·exact ⟨H57.out.rng, H127.out.rng⟩
    clear hK K
    try simp only [Act.put, pS]
    refine wpAnyH_done (by kernel_rfl) ?_ _
    try simp only [Act.put, pS]
    go_wp2_with (with_reducible show bodyPost _ _ _ _ _ _
                 refine bodyPost_ret (results_cc (p := 10) (u := 11) (ty := 75) (tz := 47) rfl _ _ (w.heap.size + 1) (w.heap.size + 2) 75 47 _ _ _ _ (by rfl) H107.out Tryz.underlying75 rfl info_th (by rfl) H117.out Tryz.underlying47 rfl info_res) rfl ?_
                 exact ⟨_, _, _, _, rfl, HXN.out ▸ HT7.out, ⟨_, _, rfl⟩, HB7.out⟩)
   ·obtain ⟨V3, hV3⟩ : ∃ V3, (((W1.setCell ⟨w.heap.size + 3, 0, none⟩ (.int .i64 40)).setCell ⟨w.heap.size + 3, 1, none⟩ (.int .u64 6)).alloc (.cells #[.pointer none, .pointer (some a1), .pointer none] 75)) = V3 := ⟨_, rfl⟩
    obtain ⟨XN, hXN⟩ : ∃ XN : Th, ⟨none, some cv, none⟩ = XN := ⟨_, rfl⟩
    have H53 : Hid (Bk V3 w.heap.size 75 #[.pointer none, .pointer (some a1), .pointer none]) := by show Bk _ _ _ _; rw [← hV3]; exact (bk_set_ne (bk_set_ne H5.out (p := ⟨w.heap.size + 3, 0, none⟩) (show w.heap.size + 3 ≠ w.heap.size by omega)) (p := ⟨w.heap.size + 3, 1, none⟩) (show w.heap.size + 3 ≠ w.heap.size by omega)).alloc _
    have H103 : Hid (Bk V3 (w.heap.size + 1) 75 #[.pointer none, .pointer none, .pointer none]) := by show Bk _ _ _ _; rw [← hV3]; exact (bk_set_ne (bk_set_ne H10.out (p := ⟨w.heap.size + 3, 0, none⟩) (show w.heap.size + 3 ≠ (w.heap.size + 1) by omega)) (p := ⟨w.heap.size + 3, 1, none⟩) (show w.heap.size + 3 ≠ (w.heap.size + 1) by omega)).alloc _
    have H113 : Hid (Bk V3 (w.heap.size + 2) 47 #[.int .i64 0, .int .u64 0]) := by show Bk _ _ _ _; rw [← hV3]; exact (bk_set_ne (bk_set_ne H11.out (p := ⟨w.heap.size + 3, 0, none⟩) (show w.heap.size + 3 ≠ (w.heap.size + 2) by omega)) (p := ⟨w.heap.size + 3, 1, none⟩) (show w.heap.size + 3 ≠ (w.heap.size + 2) by omega)).alloc _
    have H123 : Hid (Bk V3 (w.heap.size + 3) 47 #[.int .i64 40, .int .u64 6]) := by show Bk _ _ _ _; rw [← hV3]; exact ((H12.out.set_ 0 _).set_ 1 _).alloc _
    have HT : Hid (ThIn V3 XN (.pointer none) (.pointer (some a1)) (.pointer none)) := by show ThIn _ _ _ _ _; rw [← hV3, ← hXN]; exact HX.out.below (((HB.out.setCell (p := ⟨w.heap.size + 3, 0, none⟩) (by show _ ≤ w.heap.size + 3; omega) _).setCell (p := ⟨w.heap.size + 3, 1, none⟩) (by show _ ≤ w.heap.size + 3; omega) _).alloc (by simp; omega) _)
    have HB3 : Hid (Below w.heap.size w V3) := by show Below _ _ _; rw [← hV3]; exact ((HB.out.setCell (p := ⟨w.heap.size + 3, 0, none⟩) (by show _ ≤ w.heap.size + 3; omega) _).setCell (p := ⟨w.heap.size + 3, 1, none⟩) (by show _ ≤ w.heap.size + 3; omega) _).alloc (by simp; omega) _
    rw [hV3]
    have HXN0 := Lib.hid hXN
    clear hV3 hXN H5 H10 H11 H12 HB
    clear c0 c1 c2 d0 e0 e1 f0 f1 k5 k10 k11 kf hsz
    have H5 := H53
    have H10 := H103
    have H11 := H113
    have H12 := H123
    have HB := HB3
    clear H53 H103 H113 H123 HB3
    have HXN : Hid (XN = XR) := by show _ = _; rw [← HXR.out, if_neg (by simp [Th.none_]), ← HXN0.out]
    refine wp_region_held_drew (S := (fun w' => w'.rangeAt w.heap.size 0 (#[.pointer none, .pointer (some a1), .pointer none] : Array Value).toList ∧ w'.rangeAt (w.heap.size + 3) 0 [.int .i64 40, .int .u64 6])) (by kernel_rfl) ?_ (fun hHeld => ?_)
    ·exact ⟨H5.out.rng, H12.out.rng⟩
    refine loadA 0 #[.pointer none, .pointer (some a1), .pointer none] Tryz.underlying75 rfl (by kernel_rfl) ?_ ?_
    ·(intro w hSw; exact hSw.1)
    try simp only [Act.put, pS]
    refine loadA 1 #[.int .i64 40, .int .u64 6] Tryz.underlying47 rfl (by kernel_rfl) ?_ ?_
    ·(intro w hSw; exact hSw.2)
    try simp only [Act.put, pS]
    obtain ⟨V4, hV4⟩ : ∃ V4, V3.drew = V4 := ⟨_, rfl⟩
    have H5 : Hid (Bk V4 w.heap.size 75 #[.pointer none, .pointer (some a1), .pointer none]) := by show Bk _ _ _ _; rw [← hV4]; exact H5.out
    have H10 : Hid (Bk V4 (w.heap.size + 1) 75 #[.pointer none, .pointer none, .pointer none]) := by show Bk _ _ _ _; rw [← hV4]; exact H10.out
    have H11 : Hid (Bk V4 (w.heap.size + 2) 47 #[.int .i64 0, .int .u64 0]) := by show Bk _ _ _ _; rw [← hV4]; exact H11.out
    have H12 : Hid (Bk V4 (w.heap.size + 3) 47 #[.int .i64 40, .int .u64 6]) := by show Bk _ _ _ _; rw [← hV4]; exact H12.out
    have HB : Hid (Below w.heap.size w V4) := by show Below _ _ _; rw [← hV4]; exact HB.out.drew
    have HT : Hid (ThIn V4 XN (.pointer none) (.pointer (some a1)) (.pointer none)) := by show ThIn _ _ _ _ _; rw [← hV4]; exact HT.out.below (Below.refl _ _).drew
    rw [hV4] at hHeld ⊢
    clear hV4
    refine comeA 2 fun K hK => ?_
    have g0 := (H10.out.cell 0).trans rfl
    have g1 := (H10.out.cell 1).trans rfl
    have g2 := (H10.out.cell 2).trans rfl
    have n0 := H10.out.frozen 0
    have n1 := H10.out.frozen 1
    have n2 := H10.out.frozen 2
    have k10 := H10.out.lt
    go_simp
    obtain ⟨V5, hV5⟩ : ∃ V5, (((V4.setCell ⟨w.heap.size + 1, 0, none⟩ (.pointer none)).setCell ⟨w.heap.size + 1, 1, none⟩ (.pointer (some a1))).setCell ⟨w.heap.size + 1, 2, none⟩ (.pointer none)) = V5 := ⟨_, rfl⟩
    have HT6 : Hid (ThIn V5 XN (.pointer none) (.pointer (some a1)) (.pointer none)) := by show ThIn _ _ _ _ _; rw [← hV5]; exact ((HT.out.set H10.out (by decide) (by decide) (by simp) ⟨w.heap.size + 1, 0, none⟩ rfl _).set (H10.out.set_ 0 _) (by decide) (by decide) (by simp) ⟨w.heap.size + 1, 1, none⟩ rfl _).set ((H10.out.set_ 0 _).set_ 1 _) (by decide) (by decide) (by simp) ⟨w.heap.size + 1, 2, none⟩ rfl _
    have H106 : Hid (Bk V5 (w.heap.size + 1) 75 #[.pointer none, .pointer (some a1), .pointer none]) := by show Bk _ _ _ _; rw [← hV5]; exact ((H10.out.set_ 0 _).set_ 1 _).set_ 2 _
    have H56 : Hid (Bk V5 w.heap.size 75 #[.pointer none, .pointer (some a1), .pointer none]) := by show Bk _ _ _ _; rw [← hV5]; exact bk_set_ne (bk_set_ne (bk_set_ne H5.out (p := ⟨w.heap.size + 1, 0, none⟩) (show w.heap.size + 1 ≠ w.heap.size by omega)) (p := ⟨w.heap.size + 1, 1, none⟩) (show w.heap.size + 1 ≠ w.heap.size by omega)) (p := ⟨w.heap.size + 1, 2, none⟩) (show w.heap.size + 1 ≠ w.heap.size by omega)
    have H116 : Hid (Bk V5 (w.heap.size + 2) 47 #[.int .i64 0, .int .u64 0]) := by show Bk _ _ _ _; rw [← hV5]; exact bk_set_ne (bk_set_ne (bk_set_ne H11.out (p := ⟨w.heap.size + 1, 0, none⟩) (show w.heap.size + 1 ≠ (w.heap.size + 2) by omega)) (p := ⟨w.heap.size + 1, 1, none⟩) (show w.heap.size + 1 ≠ (w.heap.size + 2) by omega)) (p := ⟨w.heap.size + 1, 2, none⟩) (show w.heap.size + 1 ≠ (w.heap.size + 2) by omega)
    have H126 : Hid (Bk V5 (w.heap.size + 3) 47 #[.int .i64 40, .int .u64 6]) := by show Bk _ _ _ _; rw [← hV5]; exact bk_set_ne (bk_set_ne (bk_set_ne H12.out (p := ⟨w.heap.size + 1, 0, none⟩) (show w.heap.size + 1 ≠ (w.heap.size + 3) by omega)) (p := ⟨w.heap.size + 1, 1, none⟩) (show w.heap.size + 1 ≠ (w.heap.size + 3) by omega)) (p := ⟨w.heap.size + 1, 2, none⟩) (show w.heap.size + 1 ≠ (w.heap.size + 3) by omega)
    have HB6 : Hid (Below w.heap.size w V5) := by show Below _ _ _; rw [← hV5]; exact ((HB.out.setCell (p := ⟨w.heap.size + 1, 0, none⟩) (Nat.le_succ _) _).setCell (p := ⟨w.heap.size + 1, 1, none⟩) (Nat.le_succ _) _).setCell (p := ⟨w.heap.size + 1, 2, none⟩) (Nat.le_succ _) _
    rw [hV5]
    clear hV5 g0 g1 g2 n0 n1 n2 k10 H5 H10 H11 H12 HB HT
    refine hK.out _ _ ?_ (fun hHeld => ?_)
    ·exact ⟨H56.out.rng, H126.out.rng⟩
    clear hK K
    try simp only [Act.put, pS]
    refine comeA 3 fun K hK => ?_
    have g0 := (H116.out.cell 0).trans rfl
    have g1 := (H116.out.cell 1).trans rfl
    have n0 := H116.out.frozen 0
    have n1 := H116.out.frozen 1
    have k11 := H116.out.lt
    go_simp
    obtain ⟨V6, hV6⟩ : ∃ V6, ((V5.setCell ⟨w.heap.size + 2, 0, none⟩ (.int .i64 40)).setCell ⟨w.heap.size + 2, 1, none⟩ (.int .u64 6)) = V6 := ⟨_, rfl⟩
    have HT7 : Hid (ThIn V6 XN (.pointer none) (.pointer (some a1)) (.pointer none)) := by show ThIn _ _ _ _ _; rw [← hV6]; exact (HT6.out.set H116.out (by decide) (by decide) (by simp) ⟨w.heap.size + 2, 0, none⟩ rfl _).set (H116.out.set_ 0 _) (by decide) (by decide) (by simp) ⟨w.heap.size + 2, 1, none⟩ rfl _
    have H117 : Hid (Bk V6 (w.heap.size + 2) 47 #[.int .i64 40, .int .u64 6]) := by show Bk _ _ _ _; rw [← hV6]; exact (H116.out.set_ 0 _).set_ 1 _
    have H57 : Hid (Bk V6 w.heap.size 75 #[.pointer none, .pointer (some a1), .pointer none]) := by show Bk _ _ _ _; rw [← hV6]; exact bk_set_ne (bk_set_ne H56.out (p := ⟨w.heap.size + 2, 0, none⟩) (show w.heap.size + 2 ≠ w.heap.size by omega)) (p := ⟨w.heap.size + 2, 1, none⟩) (show w.heap.size + 2 ≠ w.heap.size by omega)
    have H107 : Hid (Bk V6 (w.heap.size + 1) 75 #[.pointer none, .pointer (some a1), .pointer none]) := by show Bk _ _ _ _; rw [← hV6]; exact bk_set_ne (bk_set_ne H106.out (p := ⟨w.heap.size + 2, 0, none⟩) (show w.heap.size + 2 ≠ (w.heap.size + 1) by omega)) (p := ⟨w.heap.size + 2, 1, none⟩) (show w.heap.size + 2 ≠ (w.heap.size + 1) by omega)
    have H127 : Hid (Bk V6 (w.heap.size + 3) 47 #[.int .i64 40, .int .u64 6]) := by show Bk _ _ _ _; rw [← hV6]; exact bk_set_ne (bk_set_ne H126.out (p := ⟨w.heap.size + 2, 0, none⟩) (show w.heap.size + 2 ≠ (w.heap.size + 3) by omega)) (p := ⟨w.heap.size + 2, 1, none⟩) (show w.heap.size + 2 ≠ (w.heap.size + 3) by omega)
    have HB7 : Hid (Below w.heap.size w V6) := by show Below _ _ _; rw [← hV6]; exact (HB6.out.setCell (p := ⟨w.heap.size + 2, 0, none⟩) (by show _ ≤ w.heap.size + 2; omega) _).setCell (p := ⟨w.heap.size + 2, 1, none⟩) (by show _ ≤ w.heap.size + 2; omega) _
    rw [hV6]
    clear hV6 g0 g1 n0 n1 k11
    refine hK.out _ _ ?_ (fun hHeld => ?_)
    ·exact ⟨H57.out.rng, H127.out.rng⟩
    clear hK K
    try simp only [Act.put, pS]
    refine wpAnyH_done (by kernel_rfl) ?_ _
    try simp only [Act.put, pS]
    go_wp2_with (with_reducible show bodyPost _ _ _ _ _ _
                 refine bodyPost_ret (results_cc (p := 10) (u := 11) (ty := 75) (tz := 47) rfl _ _ (w.heap.size + 1) (w.heap.size + 2) 75 47 _ _ _ _ (by rfl) H107.out Tryz.underlying75 rfl info_th (by rfl) H117.out Tryz.underlying47 rfl info_res) rfl ?_
                 exact ⟨_, _, _, _, rfl, HXN.out ▸ HT7.out, ⟨_, _, rfl⟩, HB7.out⟩)
 ·obtain ⟨rfl, rfl⟩ : c = none ∧ t = none := by rcases hone with h | h | h <;> simp_all
  clear hone
  have hn1 : (Value.pointer a1) = .pointer none := HX.out.c
  have hn2 : (Value.pointer a2) = .pointer none := HX.out.t
  injection hn1 with hn1
  subst hn1
  injection hn2 with hn2
  subst hn2
  obtain ⟨a0', ha⟩ : ∃ z, a0 = some z := by obtain ⟨b, A, n, c, e, _⟩ := HX.out.q; injection e with e; exact ⟨_, e⟩
  subst ha
  obtain ⟨a0, rfl⟩ : ∃ z, z = a0' := ⟨_, rfl⟩
  have HCd : Hid (((⟨some qv, none, none⟩ : Th).q.isSome || (⟨some qv, none, none⟩ : Th).none_) = true) := rfl
  go_wp2_with (go_at_call 43; go_in)
  refine (HD.out _ _ W1 ((HX.out.q).below HB.out) HOk.out.q).mono ?_
  rintro e w5 ⟨p5, r5, rfl, hq5, ⟨pa5, rfl⟩, ⟨c5, u5, rfl⟩, hb5⟩
  have HQ5 := Lib.hid hq5
  have H5 := Lib.hid (H5.out.below hb5 H5.out.lt)
  have H10 := Lib.hid (H10.out.below hb5 H10.out.lt)
  have H11 := Lib.hid (H11.out.below hb5 H11.out.lt)
  have H12 := Lib.hid (H12.out.below hb5 H12.out.lt)
  have HB := Lib.hid (HB.out.trans (hb5.mono HB.out.size))
  clear hq5 hb5 c0 c1 c2 k5 k10 k11 kf hsz
  have c0 := (H5.out.cell 0).trans rfl
  have c1 := (H5.out.cell 1).trans rfl
  have c2 := (H5.out.cell 2).trans rfl
  have d0 := H5.out.frozen 0
  have e0 := (H12.out.cell 0).trans rfl
  have e1 := (H12.out.cell 1).trans rfl
  have f0 := H12.out.frozen 0
  have f1 := H12.out.frozen 1
  have k5 := H5.out.lt
  have k10 := H10.out.lt
  have k11 := H11.out.lt
  have kf := H12.out.lt
  have hsz := HB.out.size
  have HT0 : Hid (ThIn w5 ⟨qP k a (some qv), none, none⟩ (.pointer pa5) (.pointer none) (.pointer none)) := ⟨HQ5.out, HX.out.c.below HB.out, HX.out.t.below HB.out⟩
  go_upto_region 11 with fail
  obtain ⟨V3, hV3⟩ : ∃ V3, (((w5.setCell ⟨w.heap.size, 0, none⟩ (.pointer pa5)).setCell ⟨w.heap.size + 3, 0, none⟩ (.int .i64 c5)).setCell ⟨w.heap.size + 3, 1, none⟩ (.int .u64 u5)) = V3 := ⟨_, rfl⟩
  obtain ⟨XN, hXN⟩ : ∃ XN : Th, ⟨qP k a (some qv), none, none⟩ = XN := ⟨_, rfl⟩
  rw [hXN] at HT0
  have H53 : Hid (Bk V3 w.heap.size 75 #[.pointer pa5, .pointer none, .pointer none]) := by show Bk _ _ _ _; rw [← hV3]; exact bk_set_ne (bk_set_ne (H5.out.set_ 0 _) (p := ⟨w.heap.size + 3, 0, none⟩) (show w.heap.size + 3 ≠ w.heap.size by omega)) (p := ⟨w.heap.size + 3, 1, none⟩) (show w.heap.size + 3 ≠ w.heap.size by omega)
  have H103 : Hid (Bk V3 (w.heap.size + 1) 75 #[.pointer none, .pointer none, .pointer none]) := by show Bk _ _ _ _; rw [← hV3]; exact bk_set_ne (bk_set_ne (bk_set_ne H10.out (p := ⟨w.heap.size, 0, none⟩) (show w.heap.size ≠ (w.heap.size + 1) by omega)) (p := ⟨w.heap.size + 3, 0, none⟩) (show w.heap.size + 3 ≠ (w.heap.size + 1) by omega)) (p := ⟨w.heap.size + 3, 1, none⟩) (show w.heap.size + 3 ≠ (w.heap.size + 1) by omega)
  have H113 : Hid (Bk V3 (w.heap.size + 2) 47 #[.int .i64 0, .int .u64 0]) := by show Bk _ _ _ _; rw [← hV3]; exact bk_set_ne (bk_set_ne (bk_set_ne H11.out (p := ⟨w.heap.size, 0, none⟩) (show w.heap.size ≠ (w.heap.size + 2) by omega)) (p := ⟨w.heap.size + 3, 0, none⟩) (show w.heap.size + 3 ≠ (w.heap.size + 2) by omega)) (p := ⟨w.heap.size + 3, 1, none⟩) (show w.heap.size + 3 ≠ (w.heap.size + 2) by omega)
  have H12x := Lib.hid (bk_set_ne H12.out (p := ⟨w.heap.size, 0, none⟩) (u := .pointer pa5) (show w.heap.size ≠ w.heap.size + 3 by omega))
  have H123 : Hid (Bk V3 (w.heap.size + 3) 47 #[.int .i64 c5, .int .u64 u5]) := by show Bk _ _ _ _; rw [← hV3]; exact (H12x.out.set_ 0 _).set_ 1 _
  have HT : Hid (ThIn V3 XN (.pointer pa5) (.pointer none) (.pointer none)) := by show ThIn _ _ _ _ _; rw [← hV3]; exact ((HT0.out.set H5.out (by decide) (by decide) (by simp) ⟨w.heap.size, 0, none⟩ rfl _).set H12x.out (by decide) (by decide) (by simp) ⟨w.heap.size + 3, 0, none⟩ rfl _).set (H12x.out.set_ 0 _) (by decide) (by decide) (by simp) ⟨w.heap.size + 3, 1, none⟩ rfl _
  have HB3 : Hid (Below w.heap.size w V3) := by show Below _ _ _; rw [← hV3]; exact ((HB.out.setCell (p := ⟨w.heap.size, 0, none⟩) (Nat.le_refl _) _).setCell (p := ⟨w.heap.size + 3, 0, none⟩) (by show _ ≤ w.heap.size + 3; omega) _).setCell (p := ⟨w.heap.size + 3, 1, none⟩) (by show _ ≤ w.heap.size + 3; omega) _
  rw [hV3]
  have HXN0 := Lib.hid hXN
  clear hV3 hXN HT0 HQ5 H5 H10 H11 H12 H12x HB
  clear c0 c1 c2 d0 e0 e1 f0 f1 k5 k10 k11 kf hsz
  have H5 := H53
  have H10 := H103
  have H11 := H113
  have H12 := H123
  have HB := HB3
  clear H53 H103 H113 H123 HB3
  have HXN : Hid (XN = XR) := by show _ = _; rw [← HXR.out, if_pos (HCd.out), ← HXN0.out]
  refine wp_region_held_drew (S := (fun w' => w'.rangeAt w.heap.size 0 (#[.pointer pa5, .pointer none, .pointer none] : Array Value).toList ∧ w'.rangeAt (w.heap.size + 3) 0 [.int .i64 c5, .int .u64 u5])) (by kernel_rfl) ?_ (fun hHeld => ?_)
  ·exact ⟨H5.out.rng, H12.out.rng⟩
  refine loadA 0 #[.pointer pa5, .pointer none, .pointer none] Tryz.underlying75 rfl (by kernel_rfl) ?_ ?_
  ·(intro w hSw; exact hSw.1)
  try simp only [Act.put, pS]
  refine loadA 1 #[.int .i64 c5, .int .u64 u5] Tryz.underlying47 rfl (by kernel_rfl) ?_ ?_
  ·(intro w hSw; exact hSw.2)
  try simp only [Act.put, pS]
  obtain ⟨V4, hV4⟩ : ∃ V4, V3.drew = V4 := ⟨_, rfl⟩
  have H5 : Hid (Bk V4 w.heap.size 75 #[.pointer pa5, .pointer none, .pointer none]) := by show Bk _ _ _ _; rw [← hV4]; exact H5.out
  have H10 : Hid (Bk V4 (w.heap.size + 1) 75 #[.pointer none, .pointer none, .pointer none]) := by show Bk _ _ _ _; rw [← hV4]; exact H10.out
  have H11 : Hid (Bk V4 (w.heap.size + 2) 47 #[.int .i64 0, .int .u64 0]) := by show Bk _ _ _ _; rw [← hV4]; exact H11.out
  have H12 : Hid (Bk V4 (w.heap.size + 3) 47 #[.int .i64 c5, .int .u64 u5]) := by show Bk _ _ _ _; rw [← hV4]; exact H12.out
  have HB : Hid (Below w.heap.size w V4) := by show Below _ _ _; rw [← hV4]; exact HB.out.drew
  have HT : Hid (ThIn V4 XN (.pointer pa5) (.pointer none) (.pointer none)) := by show ThIn _ _ _ _ _; rw [← hV4]; exact HT.out.below (Below.refl _ _).drew
  rw [hV4] at hHeld ⊢
  clear hV4
  refine comeA 2 fun K hK => ?_
  have g0 := (H10.out.cell 0).trans rfl
  have g1 := (H10.out.cell 1).trans rfl
  have g2 := (H10.out.cell 2).trans rfl
  have n0 := H10.out.frozen 0
  have n1 := H10.out.frozen 1
  have n2 := H10.out.frozen 2
  have k10 := H10.out.lt
  go_simp
  obtain ⟨V5, hV5⟩ : ∃ V5, (((V4.setCell ⟨w.heap.size + 1, 0, none⟩ (.pointer pa5)).setCell ⟨w.heap.size + 1, 1, none⟩ (.pointer none)).setCell ⟨w.heap.size + 1, 2, none⟩ (.pointer none)) = V5 := ⟨_, rfl⟩
  have HT6 : Hid (ThIn V5 XN (.pointer pa5) (.pointer none) (.pointer none)) := by show ThIn _ _ _ _ _; rw [← hV5]; exact ((HT.out.set H10.out (by decide) (by decide) (by simp) ⟨w.heap.size + 1, 0, none⟩ rfl _).set (H10.out.set_ 0 _) (by decide) (by decide) (by simp) ⟨w.heap.size + 1, 1, none⟩ rfl _).set ((H10.out.set_ 0 _).set_ 1 _) (by decide) (by decide) (by simp) ⟨w.heap.size + 1, 2, none⟩ rfl _
  have H106 : Hid (Bk V5 (w.heap.size + 1) 75 #[.pointer pa5, .pointer none, .pointer none]) := by show Bk _ _ _ _; rw [← hV5]; exact ((H10.out.set_ 0 _).set_ 1 _).set_ 2 _
  have H56 : Hid (Bk V5 w.heap.size 75 #[.pointer pa5, .pointer none, .pointer none]) := by show Bk _ _ _ _; rw [← hV5]; exact bk_set_ne (bk_set_ne (bk_set_ne H5.out (p := ⟨w.heap.size + 1, 0, none⟩) (show w.heap.size + 1 ≠ w.heap.size by omega)) (p := ⟨w.heap.size + 1, 1, none⟩) (show w.heap.size + 1 ≠ w.heap.size by omega)) (p := ⟨w.heap.size + 1, 2, none⟩) (show w.heap.size + 1 ≠ w.heap.size by omega)
  have H116 : Hid (Bk V5 (w.heap.size + 2) 47 #[.int .i64 0, .int .u64 0]) := by show Bk _ _ _ _; rw [← hV5]; exact bk_set_ne (bk_set_ne (bk_set_ne H11.out (p := ⟨w.heap.size + 1, 0, none⟩) (show w.heap.size + 1 ≠ (w.heap.size + 2) by omega)) (p := ⟨w.heap.size + 1, 1, none⟩) (show w.heap.size + 1 ≠ (w.heap.size + 2) by omega)) (p := ⟨w.heap.size + 1, 2, none⟩) (show w.heap.size + 1 ≠ (w.heap.size + 2) by omega)
  have H126 : Hid (Bk V5 (w.heap.size + 3) 47 #[.int .i64 c5, .int .u64 u5]) := by show Bk _ _ _ _; rw [← hV5]; exact bk_set_ne (bk_set_ne (bk_set_ne H12.out (p := ⟨w.heap.size + 1, 0, none⟩) (show w.heap.size + 1 ≠ (w.heap.size + 3) by omega)) (p := ⟨w.heap.size + 1, 1, none⟩) (show w.heap.size + 1 ≠ (w.heap.size + 3) by omega)) (p := ⟨w.heap.size + 1, 2, none⟩) (show w.heap.size + 1 ≠ (w.heap.size + 3) by omega)
  have HB6 : Hid (Below w.heap.size w V5) := by show Below _ _ _; rw [← hV5]; exact ((HB.out.setCell (p := ⟨w.heap.size + 1, 0, none⟩) (Nat.le_succ _) _).setCell (p := ⟨w.heap.size + 1, 1, none⟩) (Nat.le_succ _) _).setCell (p := ⟨w.heap.size + 1, 2, none⟩) (Nat.le_succ _) _
  rw [hV5]
  clear hV5 g0 g1 g2 n0 n1 n2 k10 H5 H10 H11 H12 HB HT
  refine hK.out _ _ ?_ (fun hHeld => ?_)
  ·exact ⟨H56.out.rng, H126.out.rng⟩
  clear hK K
  try simp only [Act.put, pS]
  refine comeA 3 fun K hK => ?_
  have g0 := (H116.out.cell 0).trans rfl
  have g1 := (H116.out.cell 1).trans rfl
  have n0 := H116.out.frozen 0
  have n1 := H116.out.frozen 1
  have k11 := H116.out.lt
  go_simp
  obtain ⟨V6, hV6⟩ : ∃ V6, ((V5.setCell ⟨w.heap.size + 2, 0, none⟩ (.int .i64 c5)).setCell ⟨w.heap.size + 2, 1, none⟩ (.int .u64 u5)) = V6 := ⟨_, rfl⟩
  have HT7 : Hid (ThIn V6 XN (.pointer pa5) (.pointer none) (.pointer none)) := by show ThIn _ _ _ _ _; rw [← hV6]; exact (HT6.out.set H116.out (by decide) (by decide) (by simp) ⟨w.heap.size + 2, 0, none⟩ rfl _).set (H116.out.set_ 0 _) (by decide) (by decide) (by simp) ⟨w.heap.size + 2, 1, none⟩ rfl _
  have H117 : Hid (Bk V6 (w.heap.size + 2) 47 #[.int .i64 c5, .int .u64 u5]) := by show Bk _ _ _ _; rw [← hV6]; exact (H116.out.set_ 0 _).set_ 1 _
  have H57 : Hid (Bk V6 w.heap.size 75 #[.pointer pa5, .pointer none, .pointer none]) := by show Bk _ _ _ _; rw [← hV6]; exact bk_set_ne (bk_set_ne H56.out (p := ⟨w.heap.size + 2, 0, none⟩) (show w.heap.size + 2 ≠ w.heap.size by omega)) (p := ⟨w.heap.size + 2, 1, none⟩) (show w.heap.size + 2 ≠ w.heap.size by omega)
  have H107 : Hid (Bk V6 (w.heap.size + 1) 75 #[.pointer pa5, .pointer none, .pointer none]) := by show Bk _ _ _ _; rw [← hV6]; exact bk_set_ne (bk_set_ne H106.out (p := ⟨w.heap.size + 2, 0, none⟩) (show w.heap.size + 2 ≠ (w.heap.size + 1) by omega)) (p := ⟨w.heap.size + 2, 1, none⟩) (show w.heap.size + 2 ≠ (w.heap.size + 1) by omega)
  have H127 : Hid (Bk V6 (w.heap.size + 3) 47 #[.int .i64 c5, .int .u64 u5]) := by show Bk _ _ _ _; rw [← hV6]; exact bk_set_ne (bk_set_ne H126.out (p := ⟨w.heap.size + 2, 0, none⟩) (show w.heap.size + 2 ≠ (w.heap.size + 3) by omega)) (p := ⟨w.heap.size + 2, 1, none⟩) (show w.heap.size + 2 ≠ (w.heap.size + 3) by omega)
  have HB7 : Hid (Below w.heap.size w V6) := by show Below _ _ _; rw [← hV6]; exact (HB6.out.setCell (p := ⟨w.heap.size + 2, 0, none⟩) (by show _ ≤ w.heap.size + 2; omega) _).setCell (p := ⟨w.heap.size + 2, 1, none⟩) (by show _ ≤ w.heap.size + 2; omega) _
  rw [hV6]
  clear hV6 g0 g1 n0 n1 k11
  refine hK.out _ _ ?_ (fun hHeld => ?_)
  ·exact ⟨H57.out.rng, H127.out.rng⟩
  clear hK K
  try simp only [Act.put, pS]
  refine wpAnyH_done (by kernel_rfl) ?_ _
  try simp only [Act.put, pS]
  go_wp2_with (with_reducible show bodyPost _ _ _ _ _ _
               refine bodyPost_ret (results_cc (p := 10) (u := 11) (ty := 75) (tz := 47) rfl _ _ (w.heap.size + 1) (w.heap.size + 2) 75 47 _ _ _ _ (by rfl) H107.out Tryz.underlying75 rfl info_th (by rfl) H117.out Tryz.underlying47 rfl info_res) rfl ?_
               exact ⟨_, _, _, _, rfl, HXN.out ▸ HT7.out, ⟨_, _, rfl⟩, HB7.out⟩)
set_option maxRecDepth 100000 in
set_option maxHeartbeats 8000000 in
theorem does_c (x : Th) (what : ByteArray) (k : Nat) (a b : Int) (a0 a1 a2 : Option Addr) (w : World) (hx : ThIn w x (.pointer a0) (.pointer a1) (.pointer a2)) (hok : x.Ok 100) (hd : ∀ (o : QO) (p : Value) (W : World), QIn W p o → COk 100 o → Calls Tryz.prog 45 #[p, .string what, .int .u64 a] W (DoesQ W (cP k a o))) :
 Calls Tryz.prog 20 #[.agg #[.pointer a0, .pointer a1, .pointer a2], .string ⟨#[99, 104, 97, 105, 110]⟩, .string what, .int .u64 a, .int .u64 b] w (DoesTh w (if x.c.isSome || x.none_ then { x with c := cP k a x.c } else x)) := by
 have HX := Lib.hid hx
 have HOk := Lib.hid hok
 have HD := Lib.hid hd
 clear hd
 obtain ⟨W1, hW1⟩ : ∃ W1, (((w.alloc (.cells #[.pointer a0, .pointer a1, .pointer a2] 75)).alloc (.cells #[.pointer none, .pointer none, .pointer none] 75)).alloc (.cells #[.int .i64 0, .int .u64 0] 47)).alloc (.cells #[.int .i64 0, .int .u64 0] 47) = W1 := ⟨_, rfl⟩
 have hfb := four_blocks w #[.pointer a0, .pointer a1, .pointer a2] #[.pointer none, .pointer none, .pointer none] #[.int .i64 0, .int .u64 0] #[.int .i64 0, .int .u64 0] 75 75 47 47
 simp only [hW1] at hfb
 have H5 := Lib.hid hfb.1
 have H10 := Lib.hid hfb.2.1
 have H11 := Lib.hid hfb.2.2.1
 have H12 := Lib.hid hfb.2.2.2.1
 have HB := Lib.hid hfb.2.2.2.2
 have HW1 := Lib.hid hW1
 clear hfb hW1
 have c0 := (H5.out.cell 0).trans rfl
 have c1 := (H5.out.cell 1).trans rfl
 have c2 := (H5.out.cell 2).trans rfl
 have k5 := H5.out.lt
 have k10 := H10.out.lt
 have k11 := H11.out.lt
 have kf := H12.out.lt
 have hsz := HB.out.size
 obtain ⟨XR, hXR⟩ : ∃ XR, (if x.c.isSome || x.none_ then { x with c := cP k a x.c } else x) = XR := ⟨_, rfl⟩
 rw [hXR]
 have HXR := Lib.hid hXR
 clear hXR
 obtain ⟨q, c, t⟩ := x
 have hone := hok.one
 simp only at hone
 go_enter Tryz.func20, Tryz.ntmps20
 go_upto_region 3 with fail
 rw [HW1.out]
 clear HW1
 clear hx
 rcases q with _ | qv
 ·rcases c with _ | cv
  ·rcases t with _ | tv
   ·clear hone
    have hn0 : (Value.pointer a0) = .pointer none := HX.out.q
    have hn1 : (Value.pointer a1) = .pointer none := HX.out.c
    have hn2 : (Value.pointer a2) = .pointer none := HX.out.t
    injection hn0 with hn0
    subst hn0
    injection hn1 with hn1
    subst hn1
    injection hn2 with hn2
    subst hn2
    have HCd : Hid (((⟨none, none, none⟩ : Th).c.isSome || (⟨none, none, none⟩ : Th).none_) = true) := rfl
    go_wp2_with (go_at_call 43; go_in)
    have HBx := Lib.hid (HB.out.alloc HB.out.size (.cells #[.pointer none, .pointer none, .pointer none] 75))
    have H5 := Lib.hid (H5.out.alloc (.cells #[.pointer none, .pointer none, .pointer none] 75))
    have H10 := Lib.hid (H10.out.alloc (.cells #[.pointer none, .pointer none, .pointer none] 75))
    have H11 := Lib.hid (H11.out.alloc (.cells #[.pointer none, .pointer none, .pointer none] 75))
    have H12 := Lib.hid (H12.out.alloc (.cells #[.pointer none, .pointer none, .pointer none] 75))
    clear HB
    have HB := HBx
    clear HBx
    refine (HD.out _ _ (W1.alloc (.cells #[.pointer none, .pointer none, .pointer none] 75)) ((HX.out.c).below HB.out) HOk.out.c).mono ?_
    rintro e w5 ⟨p5, r5, rfl, hq5, ⟨pa5, rfl⟩, ⟨c5, u5, rfl⟩, hb5⟩
    have HQ5 := Lib.hid hq5
    have H5 := Lib.hid (H5.out.below hb5 H5.out.lt)
    have H10 := Lib.hid (H10.out.below hb5 H10.out.lt)
    have H11 := Lib.hid (H11.out.below hb5 H11.out.lt)
    have H12 := Lib.hid (H12.out.below hb5 H12.out.lt)
    have HB := Lib.hid (HB.out.trans (hb5.mono HB.out.size))
    clear hq5 hb5 c0 c1 c2 k5 k10 k11 kf hsz
    have c0 := (H5.out.cell 0).trans rfl
    have c1 := (H5.out.cell 1).trans rfl
    have c2 := (H5.out.cell 2).trans rfl
    have d0 := H5.out.frozen 1
    have e0 := (H12.out.cell 0).trans rfl
    have e1 := (H12.out.cell 1).trans rfl
    have f0 := H12.out.frozen 0
    have f1 := H12.out.frozen 1
    have k5 := H5.out.lt
    have k10 := H10.out.lt
    have k11 := H11.out.lt
    have kf := H12.out.lt
    have hsz := HB.out.size
    have HT0 : Hid (ThIn w5 ⟨none, cP k a (none), none⟩ (.pointer none) (.pointer pa5) (.pointer none)) := ⟨HX.out.q.below HB.out, HQ5.out, HX.out.t.below HB.out⟩
    go_upto_region 11 with fail
    obtain ⟨V3, hV3⟩ : ∃ V3, (((w5.setCell ⟨w.heap.size, 1, none⟩ (.pointer pa5)).setCell ⟨w.heap.size + 3, 0, none⟩ (.int .i64 c5)).setCell ⟨w.heap.size + 3, 1, none⟩ (.int .u64 u5)) = V3 := ⟨_, rfl⟩
    obtain ⟨XN, hXN⟩ : ∃ XN : Th, ⟨none, cP k a (none), none⟩ = XN := ⟨_, rfl⟩
    rw [hXN] at HT0
    have H53 : Hid (Bk V3 w.heap.size 75 #[.pointer none, .pointer pa5, .pointer none]) := by show Bk _ _ _ _; rw [← hV3]; exact bk_set_ne (bk_set_ne (H5.out.set_ 1 _) (p := ⟨w.heap.size + 3, 0, none⟩) (show w.heap.size + 3 ≠ w.heap.size by omega)) (p := ⟨w.heap.size + 3, 1, none⟩) (show w.heap.size + 3 ≠ w.heap.size by omega)
    have H103 : Hid (Bk V3 (w.heap.size + 1) 75 #[.pointer none, .pointer none, .pointer none]) := by show Bk _ _ _ _; rw [← hV3]; exact bk_set_ne (bk_set_ne (bk_set_ne H10.out (p := ⟨w.heap.size, 1, none⟩) (show w.heap.size ≠ (w.heap.size + 1) by omega)) (p := ⟨w.heap.size + 3, 0, none⟩) (show w.heap.size + 3 ≠ (w.heap.size + 1) by omega)) (p := ⟨w.heap.size + 3, 1, none⟩) (show w.heap.size + 3 ≠ (w.heap.size + 1) by omega)
    have H113 : Hid (Bk V3 (w.heap.size + 2) 47 #[.int .i64 0, .int .u64 0]) := by show Bk _ _ _ _; rw [← hV3]; exact bk_set_ne (bk_set_ne (bk_set_ne H11.out (p := ⟨w.heap.size, 1, none⟩) (show w.heap.size ≠ (w.heap.size + 2) by omega)) (p := ⟨w.heap.size + 3, 0, none⟩) (show w.heap.size + 3 ≠ (w.heap.size + 2) by omega)) (p := ⟨w.heap.size + 3, 1, none⟩) (show w.heap.size + 3 ≠ (w.heap.size + 2) by omega)
    have H12x := Lib.hid (bk_set_ne H12.out (p := ⟨w.heap.size, 1, none⟩) (u := .pointer pa5) (show w.heap.size ≠ w.heap.size + 3 by omega))
    have H123 : Hid (Bk V3 (w.heap.size + 3) 47 #[.int .i64 c5, .int .u64 u5]) := by show Bk _ _ _ _; rw [← hV3]; exact (H12x.out.set_ 0 _).set_ 1 _
    have HT : Hid (ThIn V3 XN (.pointer none) (.pointer pa5) (.pointer none)) := by show ThIn _ _ _ _ _; rw [← hV3]; exact ((HT0.out.set H5.out (by decide) (by decide) (by simp) ⟨w.heap.size, 1, none⟩ rfl _).set H12x.out (by decide) (by decide) (by simp) ⟨w.heap.size + 3, 0, none⟩ rfl _).set (H12x.out.set_ 0 _) (by decide) (by decide) (by simp) ⟨w.heap.size + 3, 1, none⟩ rfl _
    have HB3 : Hid (Below w.heap.size w V3) := by show Below _ _ _; rw [← hV3]; exact ((HB.out.setCell (p := ⟨w.heap.size, 1, none⟩) (Nat.le_refl _) _).setCell (p := ⟨w.heap.size + 3, 0, none⟩) (by show _ ≤ w.heap.size + 3; omega) _).setCell (p := ⟨w.heap.size + 3, 1, none⟩) (by show _ ≤ w.heap.size + 3; omega) _
    rw [hV3]
    have HXN0 := Lib.hid hXN
    clear hV3 hXN HT0 HQ5 H5 H10 H11 H12 H12x HB
    clear c0 c1 c2 d0 e0 e1 f0 f1 k5 k10 k11 kf hsz
    have H5 := H53
    have H10 := H103
    have H11 := H113
    have H12 := H123
    have HB := HB3
    clear H53 H103 H113 H123 HB3
    have HXN : Hid (XN = XR) := by show _ = _; rw [← HXR.out, if_pos (HCd.out), ← HXN0.out]
    refine wp_region_held_drew (S := (fun w' => w'.rangeAt w.heap.size 0 (#[.pointer none, .pointer pa5, .pointer none] : Array Value).toList ∧ w'.rangeAt (w.heap.size + 3) 0 [.int .i64 c5, .int .u64 u5])) (by kernel_rfl) ?_ (fun hHeld => ?_)
    ·exact ⟨H5.out.rng, H12.out.rng⟩
    refine loadA 0 #[.pointer none, .pointer pa5, .pointer none] Tryz.underlying75 rfl (by kernel_rfl) ?_ ?_
    ·(intro w hSw; exact hSw.1)
    try simp only [Act.put, pS]
    refine loadA 1 #[.int .i64 c5, .int .u64 u5] Tryz.underlying47 rfl (by kernel_rfl) ?_ ?_
    ·(intro w hSw; exact hSw.2)
    try simp only [Act.put, pS]
    obtain ⟨V4, hV4⟩ : ∃ V4, V3.drew = V4 := ⟨_, rfl⟩
    have H5 : Hid (Bk V4 w.heap.size 75 #[.pointer none, .pointer pa5, .pointer none]) := by show Bk _ _ _ _; rw [← hV4]; exact H5.out
    have H10 : Hid (Bk V4 (w.heap.size + 1) 75 #[.pointer none, .pointer none, .pointer none]) := by show Bk _ _ _ _; rw [← hV4]; exact H10.out
    have H11 : Hid (Bk V4 (w.heap.size + 2) 47 #[.int .i64 0, .int .u64 0]) := by show Bk _ _ _ _; rw [← hV4]; exact H11.out
    have H12 : Hid (Bk V4 (w.heap.size + 3) 47 #[.int .i64 c5, .int .u64 u5]) := by show Bk _ _ _ _; rw [← hV4]; exact H12.out
    have HB : Hid (Below w.heap.size w V4) := by show Below _ _ _; rw [← hV4]; exact HB.out.drew
    have HT : Hid (ThIn V4 XN (.pointer none) (.pointer pa5) (.pointer none)) := by show ThIn _ _ _ _ _; rw [← hV4]; exact HT.out.below (Below.refl _ _).drew
    rw [hV4] at hHeld ⊢
    clear hV4
    refine comeA 2 fun K hK => ?_
    have g0 := (H10.out.cell 0).trans rfl
    have g1 := (H10.out.cell 1).trans rfl
    have g2 := (H10.out.cell 2).trans rfl
    have n0 := H10.out.frozen 0
    have n1 := H10.out.frozen 1
    have n2 := H10.out.frozen 2
    have k10 := H10.out.lt
    go_simp
    obtain ⟨V5, hV5⟩ : ∃ V5, (((V4.setCell ⟨w.heap.size + 1, 0, none⟩ (.pointer none)).setCell ⟨w.heap.size + 1, 1, none⟩ (.pointer pa5)).setCell ⟨w.heap.size + 1, 2, none⟩ (.pointer none)) = V5 := ⟨_, rfl⟩
    have HT6 : Hid (ThIn V5 XN (.pointer none) (.pointer pa5) (.pointer none)) := by show ThIn _ _ _ _ _; rw [← hV5]; exact ((HT.out.set H10.out (by decide) (by decide) (by simp) ⟨w.heap.size + 1, 0, none⟩ rfl _).set (H10.out.set_ 0 _) (by decide) (by decide) (by simp) ⟨w.heap.size + 1, 1, none⟩ rfl _).set ((H10.out.set_ 0 _).set_ 1 _) (by decide) (by decide) (by simp) ⟨w.heap.size + 1, 2, none⟩ rfl _
    have H106 : Hid (Bk V5 (w.heap.size + 1) 75 #[.pointer none, .pointer pa5, .pointer none]) := by show Bk _ _ _ _; rw [← hV5]; exact ((H10.out.set_ 0 _).set_ 1 _).set_ 2 _
    have H56 : Hid (Bk V5 w.heap.size 75 #[.pointer none, .pointer pa5, .pointer none]) := by show Bk _ _ _ _; rw [← hV5]; exact bk_set_ne (bk_set_ne (bk_set_ne H5.out (p := ⟨w.heap.size + 1, 0, none⟩) (show w.heap.size + 1 ≠ w.heap.size by omega)) (p := ⟨w.heap.size + 1, 1, none⟩) (show w.heap.size + 1 ≠ w.heap.size by omega)) (p := ⟨w.heap.size + 1, 2, none⟩) (show w.heap.size + 1 ≠ w.heap.size by omega)
    have H116 : Hid (Bk V5 (w.heap.size + 2) 47 #[.int .i64 0, .int .u64 0]) := by show Bk _ _ _ _; rw [← hV5]; exact bk_set_ne (bk_set_ne (bk_set_ne H11.out (p := ⟨w.heap.size + 1, 0, none⟩) (show w.heap.size + 1 ≠ (w.heap.size + 2) by omega)) (p := ⟨w.heap.size + 1, 1, none⟩) (show w.heap.size + 1 ≠ (w.heap.size + 2) by omega)) (p := ⟨w.heap.size + 1, 2, none⟩) (show w.heap.size + 1 ≠ (w.heap.size + 2) by omega)
    have H126 : Hid (Bk V5 (w.heap.size + 3) 47 #[.int .i64 c5, .int .u64 u5]) := by show Bk _ _ _ _; rw [← hV5]; exact bk_set_ne (bk_set_ne (bk_set_ne H12.out (p := ⟨w.heap.size + 1, 0, none⟩) (show w.heap.size + 1 ≠ (w.heap.size + 3) by omega)) (p := ⟨w.heap.size + 1, 1, none⟩) (show w.heap.size + 1 ≠ (w.heap.size + 3) by omega)) (p := ⟨w.heap.size + 1, 2, none⟩) (show w.heap.size + 1 ≠ (w.heap.size + 3) by omega)
    have HB6 : Hid (Below w.heap.size w V5) := by show Below _ _ _; rw [← hV5]; exact ((HB.out.setCell (p := ⟨w.heap.size + 1, 0, none⟩) (Nat.le_succ _) _).setCell (p := ⟨w.heap.size + 1, 1, none⟩) (Nat.le_succ _) _).setCell (p := ⟨w.heap.size + 1, 2, none⟩) (Nat.le_succ _) _
    rw [hV5]
    clear hV5 g0 g1 g2 n0 n1 n2 k10 H5 H10 H11 H12 HB HT
    refine hK.out _ _ ?_ (fun hHeld => ?_)
    ·exact ⟨H56.out.rng, H126.out.rng⟩
    clear hK K
    try simp only [Act.put, pS]
    refine comeA 3 fun K hK => ?_
    have g0 := (H116.out.cell 0).trans rfl
    have g1 := (H116.out.cell 1).trans rfl
    have n0 := H116.out.frozen 0
    have n1 := H116.out.frozen 1
    have k11 := H116.out.lt
    go_simp
    obtain ⟨V6, hV6⟩ : ∃ V6, ((V5.setCell ⟨w.heap.size + 2, 0, none⟩ (.int .i64 c5)).setCell ⟨w.heap.size + 2, 1, none⟩ (.int .u64 u5)) = V6 := ⟨_, rfl⟩
    have HT7 : Hid (ThIn V6 XN (.pointer none) (.pointer pa5) (.pointer none)) := by show ThIn _ _ _ _ _; rw [← hV6]; exact (HT6.out.set H116.out (by decide) (by decide) (by simp) ⟨w.heap.size + 2, 0, none⟩ rfl _).set (H116.out.set_ 0 _) (by decide) (by decide) (by simp) ⟨w.heap.size + 2, 1, none⟩ rfl _
    have H117 : Hid (Bk V6 (w.heap.size + 2) 47 #[.int .i64 c5, .int .u64 u5]) := by show Bk _ _ _ _; rw [← hV6]; exact (H116.out.set_ 0 _).set_ 1 _
    have H57 : Hid (Bk V6 w.heap.size 75 #[.pointer none, .pointer pa5, .pointer none]) := by show Bk _ _ _ _; rw [← hV6]; exact bk_set_ne (bk_set_ne H56.out (p := ⟨w.heap.size + 2, 0, none⟩) (show w.heap.size + 2 ≠ w.heap.size by omega)) (p := ⟨w.heap.size + 2, 1, none⟩) (show w.heap.size + 2 ≠ w.heap.size by omega)
    have H107 : Hid (Bk V6 (w.heap.size + 1) 75 #[.pointer none, .pointer pa5, .pointer none]) := by show Bk _ _ _ _; rw [← hV6]; exact bk_set_ne (bk_set_ne H106.out (p := ⟨w.heap.size + 2, 0, none⟩) (show w.heap.size + 2 ≠ (w.heap.size + 1) by omega)) (p := ⟨w.heap.size + 2, 1, none⟩) (show w.heap.size + 2 ≠ (w.heap.size + 1) by omega)
    have H127 : Hid (Bk V6 (w.heap.size + 3) 47 #[.int .i64 c5, .int .u64 u5]) := by show Bk _ _ _ _; rw [← hV6]; exact bk_set_ne (bk_set_ne H126.out (p := ⟨w.heap.size + 2, 0, none⟩) (show w.heap.size + 2 ≠ (w.heap.size + 3) by omega)) (p := ⟨w.heap.size + 2, 1, none⟩) (show w.heap.size + 2 ≠ (w.heap.size + 3) by omega)
    have HB7 : Hid (Below w.heap.size w V6) := by show Below _ _ _; rw [← hV6]; exact (HB6.out.setCell (p := ⟨w.heap.size + 2, 0, none⟩) (by show _ ≤ w.heap.size + 2; omega) _).setCell (p := ⟨w.heap.size + 2, 1, none⟩) (by show _ ≤ w.heap.size + 2; omega) _
    rw [hV6]
    clear hV6 g0 g1 n0 n1 k11
    refine hK.out _ _ ?_ (fun hHeld => ?_)
    ·exact ⟨H57.out.rng, H127.out.rng⟩
    clear hK K
    try simp only [Act.put, pS]
    refine wpAnyH_done (by kernel_rfl) ?_ _
    try simp only [Act.put, pS]
    go_wp2_with (with_reducible show bodyPost _ _ _ _ _ _
                 refine bodyPost_ret (results_cc (p := 10) (u := 11) (ty := 75) (tz := 47) rfl _ _ (w.heap.size + 1) (w.heap.size + 2) 75 47 _ _ _ _ (by rfl) H107.out Tryz.underlying75 rfl info_th (by rfl) H117.out Tryz.underlying47 rfl info_res) rfl ?_
                 exact ⟨_, _, _, _, rfl, HXN.out ▸ HT7.out, ⟨_, _, rfl⟩, HB7.out⟩)
   ·clear hone
    have hn0 : (Value.pointer a0) = .pointer none := HX.out.q
    have hn1 : (Value.pointer a1) = .pointer none := HX.out.c
    injection hn0 with hn0
    subst hn0
    injection hn1 with hn1
    subst hn1
    obtain ⟨a2', ha⟩ : ∃ z, a2 = some z := by obtain ⟨b, A, n, c, e, _⟩ := HX.out.t; injection e with e; exact ⟨_, e⟩
    subst ha
    obtain ⟨a2, rfl⟩ : ∃ z, z = a2' := ⟨_, rfl⟩
    clear c0 c1 c2 k5 k10 k11 kf hsz
    have c0 := (H5.out.cell 0).trans rfl
    have c1 := (H5.out.cell 1).trans rfl
    have c2 := (H5.out.cell 2).trans rfl
    have d0 := H5.out.frozen 1
    have e0 := (H12.out.cell 0).trans rfl
    have e1 := (H12.out.cell 1).trans rfl
    have f0 := H12.out.frozen 0
    have f1 := H12.out.frozen 1
    have k5 := H5.out.lt
    have k10 := H10.out.lt
    have k11 := H11.out.lt
    have kf := H12.out.lt
    have hsz := HB.out.size
    go_upto_region 11 with (go_at_call 43; go_in)
    ·obtain ⟨V3, hV3⟩ : ∃ V3, (((W1.setCell ⟨w.heap.size + 3, 0, none⟩ (.int .i64 40)).setCell ⟨w.heap.size + 3, 1, none⟩ (.int .u64 4)).alloc (.cells #[.pointer none, .pointer none, .pointer (some a2)] 75)) = V3 := ⟨_, rfl⟩
     obtain ⟨XN, hXN⟩ : ∃ XN : Th, ⟨none, none, some tv⟩ = XN := ⟨_, rfl⟩
     have H53 : Hid (Bk V3 w.heap.size 75 #[.pointer none, .pointer none, .pointer (some a2)]) := by show Bk _ _ _ _; rw [← hV3]; exact (bk_set_ne (bk_set_ne H5.out (p := ⟨w.heap.size + 3, 0, none⟩) (show w.heap.size + 3 ≠ w.heap.size by omega)) (p := ⟨w.heap.size + 3, 1, none⟩) (show w.heap.size + 3 ≠ w.heap.size by omega)).alloc _
     have H103 : Hid (Bk V3 (w.heap.size + 1) 75 #[.pointer none, .pointer none, .pointer none]) := by show Bk _ _ _ _; rw [← hV3]; exact (bk_set_ne (bk_set_ne H10.out (p := ⟨w.heap.size + 3, 0, none⟩) (show w.heap.size + 3 ≠ (w.heap.size + 1) by omega)) (p := ⟨w.heap.size + 3, 1, none⟩) (show w.heap.size + 3 ≠ (w.heap.size + 1) by omega)).alloc _
     have H113 : Hid (Bk V3 (w.heap.size + 2) 47 #[.int .i64 0, .int .u64 0]) := by show Bk _ _ _ _; rw [← hV3]; exact (bk_set_ne (bk_set_ne H11.out (p := ⟨w.heap.size + 3, 0, none⟩) (show w.heap.size + 3 ≠ (w.heap.size + 2) by omega)) (p := ⟨w.heap.size + 3, 1, none⟩) (show w.heap.size + 3 ≠ (w.heap.size + 2) by omega)).alloc _
     have H123 : Hid (Bk V3 (w.heap.size + 3) 47 #[.int .i64 40, .int .u64 4]) := by show Bk _ _ _ _; rw [← hV3]; exact ((H12.out.set_ 0 _).set_ 1 _).alloc _
     have HT : Hid (ThIn V3 XN (.pointer none) (.pointer none) (.pointer (some a2))) := by show ThIn _ _ _ _ _; rw [← hV3, ← hXN]; exact HX.out.below (((HB.out.setCell (p := ⟨w.heap.size + 3, 0, none⟩) (by show _ ≤ w.heap.size + 3; omega) _).setCell (p := ⟨w.heap.size + 3, 1, none⟩) (by show _ ≤ w.heap.size + 3; omega) _).alloc (by simp; omega) _)
     have HB3 : Hid (Below w.heap.size w V3) := by show Below _ _ _; rw [← hV3]; exact ((HB.out.setCell (p := ⟨w.heap.size + 3, 0, none⟩) (by show _ ≤ w.heap.size + 3; omega) _).setCell (p := ⟨w.heap.size + 3, 1, none⟩) (by show _ ≤ w.heap.size + 3; omega) _).alloc (by simp; omega) _
     rw [hV3]
     have HXN0 := Lib.hid hXN
     clear hV3 hXN H5 H10 H11 H12 HB
     clear c0 c1 c2 d0 e0 e1 f0 f1 k5 k10 k11 kf hsz
     have H5 := H53
     have H10 := H103
     have H11 := H113
     have H12 := H123
     have HB := HB3
     clear H53 H103 H113 H123 HB3
     have HXN : Hid (XN = XR) := by show _ = _; rw [← HXR.out, if_neg (by simp [Th.none_]), ← HXN0.out]
     refine wp_region_held_drew (S := (fun w' => w'.rangeAt w.heap.size 0 (#[.pointer none, .pointer none, .pointer (some a2)] : Array Value).toList ∧ w'.rangeAt (w.heap.size + 3) 0 [.int .i64 40, .int .u64 4])) (by kernel_rfl) ?_ (fun hHeld => ?_)
     ·exact ⟨H5.out.rng, H12.out.rng⟩
     refine loadA 0 #[.pointer none, .pointer none, .pointer (some a2)] Tryz.underlying75 rfl (by kernel_rfl) ?_ ?_
     ·(intro w hSw; exact hSw.1)
     try simp only [Act.put, pS]
     refine loadA 1 #[.int .i64 40, .int .u64 4] Tryz.underlying47 rfl (by kernel_rfl) ?_ ?_
     ·(intro w hSw; exact hSw.2)
     try simp only [Act.put, pS]
     obtain ⟨V4, hV4⟩ : ∃ V4, V3.drew = V4 := ⟨_, rfl⟩
     have H5 : Hid (Bk V4 w.heap.size 75 #[.pointer none, .pointer none, .pointer (some a2)]) := by show Bk _ _ _ _; rw [← hV4]; exact H5.out
     have H10 : Hid (Bk V4 (w.heap.size + 1) 75 #[.pointer none, .pointer none, .pointer none]) := by show Bk _ _ _ _; rw [← hV4]; exact H10.out
     have H11 : Hid (Bk V4 (w.heap.size + 2) 47 #[.int .i64 0, .int .u64 0]) := by show Bk _ _ _ _; rw [← hV4]; exact H11.out
     have H12 : Hid (Bk V4 (w.heap.size + 3) 47 #[.int .i64 40, .int .u64 4]) := by show Bk _ _ _ _; rw [← hV4]; exact H12.out
     have HB : Hid (Below w.heap.size w V4) := by show Below _ _ _; rw [← hV4]; exact HB.out.drew
     have HT : Hid (ThIn V4 XN (.pointer none) (.pointer none) (.pointer (some a2))) := by show ThIn _ _ _ _ _; rw [← hV4]; exact HT.out.below (Below.refl _ _).drew
     rw [hV4] at hHeld ⊢
     clear hV4
     refine comeA 2 fun K hK => ?_
     have g0 := (H10.out.cell 0).trans rfl
     have g1 := (H10.out.cell 1).trans rfl
     have g2 := (H10.out.cell 2).trans rfl
     have n0 := H10.out.frozen 0
     have n1 := H10.out.frozen 1
     have n2 := H10.out.frozen 2
     have k10 := H10.out.lt
     go_simp
     obtain ⟨V5, hV5⟩ : ∃ V5, (((V4.setCell ⟨w.heap.size + 1, 0, none⟩ (.pointer none)).setCell ⟨w.heap.size + 1, 1, none⟩ (.pointer none)).setCell ⟨w.heap.size + 1, 2, none⟩ (.pointer (some a2))) = V5 := ⟨_, rfl⟩
     have HT6 : Hid (ThIn V5 XN (.pointer none) (.pointer none) (.pointer (some a2))) := by show ThIn _ _ _ _ _; rw [← hV5]; exact ((HT.out.set H10.out (by decide) (by decide) (by simp) ⟨w.heap.size + 1, 0, none⟩ rfl _).set (H10.out.set_ 0 _) (by decide) (by decide) (by simp) ⟨w.heap.size + 1, 1, none⟩ rfl _).set ((H10.out.set_ 0 _).set_ 1 _) (by decide) (by decide) (by simp) ⟨w.heap.size + 1, 2, none⟩ rfl _
     have H106 : Hid (Bk V5 (w.heap.size + 1) 75 #[.pointer none, .pointer none, .pointer (some a2)]) := by show Bk _ _ _ _; rw [← hV5]; exact ((H10.out.set_ 0 _).set_ 1 _).set_ 2 _
     have H56 : Hid (Bk V5 w.heap.size 75 #[.pointer none, .pointer none, .pointer (some a2)]) := by show Bk _ _ _ _; rw [← hV5]; exact bk_set_ne (bk_set_ne (bk_set_ne H5.out (p := ⟨w.heap.size + 1, 0, none⟩) (show w.heap.size + 1 ≠ w.heap.size by omega)) (p := ⟨w.heap.size + 1, 1, none⟩) (show w.heap.size + 1 ≠ w.heap.size by omega)) (p := ⟨w.heap.size + 1, 2, none⟩) (show w.heap.size + 1 ≠ w.heap.size by omega)
     have H116 : Hid (Bk V5 (w.heap.size + 2) 47 #[.int .i64 0, .int .u64 0]) := by show Bk _ _ _ _; rw [← hV5]; exact bk_set_ne (bk_set_ne (bk_set_ne H11.out (p := ⟨w.heap.size + 1, 0, none⟩) (show w.heap.size + 1 ≠ (w.heap.size + 2) by omega)) (p := ⟨w.heap.size + 1, 1, none⟩) (show w.heap.size + 1 ≠ (w.heap.size + 2) by omega)) (p := ⟨w.heap.size + 1, 2, none⟩) (show w.heap.size + 1 ≠ (w.heap.size + 2) by omega)
     have H126 : Hid (Bk V5 (w.heap.size + 3) 47 #[.int .i64 40, .int .u64 4]) := by show Bk _ _ _ _; rw [← hV5]; exact bk_set_ne (bk_set_ne (bk_set_ne H12.out (p := ⟨w.heap.size + 1, 0, none⟩) (show w.heap.size + 1 ≠ (w.heap.size + 3) by omega)) (p := ⟨w.heap.size + 1, 1, none⟩) (show w.heap.size + 1 ≠ (w.heap.size + 3) by omega)) (p := ⟨w.heap.size + 1, 2, none⟩) (show w.heap.size + 1 ≠ (w.heap.size + 3) by omega)
     have HB6 : Hid (Below w.heap.size w V5) := by show Below _ _ _; rw [← hV5]; exact ((HB.out.setCell (p := ⟨w.heap.size + 1, 0, none⟩) (Nat.le_succ _) _).setCell (p := ⟨w.heap.size + 1, 1, none⟩) (Nat.le_succ _) _).setCell (p := ⟨w.heap.size + 1, 2, none⟩) (Nat.le_succ _) _
     rw [hV5]
     clear hV5 g0 g1 g2 n0 n1 n2 k10 H5 H10 H11 H12 HB HT
     refine hK.out _ _ ?_ (fun hHeld => ?_)
     ·exact ⟨H56.out.rng, H126.out.rng⟩
     clear hK K
     try simp only [Act.put, pS]
     refine comeA 3 fun K hK => ?_
     have g0 := (H116.out.cell 0).trans rfl
     have g1 := (H116.out.cell 1).trans rfl
     have n0 := H116.out.frozen 0
     have n1 := H116.out.frozen 1
     have k11 := H116.out.lt
     go_simp
     obtain ⟨V6, hV6⟩ : ∃ V6, ((V5.setCell ⟨w.heap.size + 2, 0, none⟩ (.int .i64 40)).setCell ⟨w.heap.size + 2, 1, none⟩ (.int .u64 4)) = V6 := ⟨_, rfl⟩
     have HT7 : Hid (ThIn V6 XN (.pointer none) (.pointer none) (.pointer (some a2))) := by show ThIn _ _ _ _ _; rw [← hV6]; exact (HT6.out.set H116.out (by decide) (by decide) (by simp) ⟨w.heap.size + 2, 0, none⟩ rfl _).set (H116.out.set_ 0 _) (by decide) (by decide) (by simp) ⟨w.heap.size + 2, 1, none⟩ rfl _
     have H117 : Hid (Bk V6 (w.heap.size + 2) 47 #[.int .i64 40, .int .u64 4]) := by show Bk _ _ _ _; rw [← hV6]; exact (H116.out.set_ 0 _).set_ 1 _
     have H57 : Hid (Bk V6 w.heap.size 75 #[.pointer none, .pointer none, .pointer (some a2)]) := by show Bk _ _ _ _; rw [← hV6]; exact bk_set_ne (bk_set_ne H56.out (p := ⟨w.heap.size + 2, 0, none⟩) (show w.heap.size + 2 ≠ w.heap.size by omega)) (p := ⟨w.heap.size + 2, 1, none⟩) (show w.heap.size + 2 ≠ w.heap.size by omega)
     have H107 : Hid (Bk V6 (w.heap.size + 1) 75 #[.pointer none, .pointer none, .pointer (some a2)]) := by show Bk _ _ _ _; rw [← hV6]; exact bk_set_ne (bk_set_ne H106.out (p := ⟨w.heap.size + 2, 0, none⟩) (show w.heap.size + 2 ≠ (w.heap.size + 1) by omega)) (p := ⟨w.heap.size + 2, 1, none⟩) (show w.heap.size + 2 ≠ (w.heap.size + 1) by omega)
     have H127 : Hid (Bk V6 (w.heap.size + 3) 47 #[.int .i64 40, .int .u64 4]) := by show Bk _ _ _ _; rw [← hV6]; exact bk_set_ne (bk_set_ne H126.out (p := ⟨w.heap.size + 2, 0, none⟩) (show w.heap.size + 2 ≠ (w.heap.size + 3) by omega)) (p := ⟨w.heap.size + 2, 1, none⟩) (show w.heap.size + 2 ≠ (w.heap.size + 3) by omega)
     have HB7 : Hid (Below w.heap.size w V6) := by show Below _ _ _; rw [← hV6]; exact (HB6.out.setCell (p := ⟨w.heap.size + 2, 0, none⟩) (by show _ ≤ w.heap.size + 2; omega) _).setCell (p := ⟨w.heap.size + 2, 1, none⟩) (by show _ ≤ w.heap.size + 2; omega) _
     rw [hV6]
     clear hV6 g0 g1 n0 n1 k11
     refine hK.out _ _ ?_ (fun hHeld => ?_)
     ·exact ⟨H57.out.rng, H127.out.rng⟩
     clear hK K
     try simp only [Act.put, pS]
     refine wpAnyH_done (by kernel_rfl) ?_ _
     try simp only [Act.put, pS]
     go_wp2_with (with_reducible show bodyPost _ _ _ _ _ _
                  refine bodyPost_ret (results_cc (p := 10) (u := 11) (ty := 75) (tz := 47) rfl _ _ (w.heap.size + 1) (w.heap.size + 2) 75 47 _ _ _ _ (by rfl) H107.out Tryz.underlying75 rfl info_th (by rfl) H117.out Tryz.underlying47 rfl info_res) rfl ?_
                  exact ⟨_, _, _, _, rfl, HXN.out ▸ HT7.out, ⟨_, _, rfl⟩, HB7.out⟩)
    ·obtain ⟨V3, hV3⟩ : ∃ V3, (((W1.setCell ⟨w.heap.size + 3, 0, none⟩ (.int .i64 40)).setCell ⟨w.heap.size + 3, 1, none⟩ (.int .u64 6)).alloc (.cells #[.pointer none, .pointer none, .pointer (some a2)] 75)) = V3 := ⟨_, rfl⟩
     obtain ⟨XN, hXN⟩ : ∃ XN : Th, ⟨none, none, some tv⟩ = XN := ⟨_, rfl⟩
     have H53 : Hid (Bk V3 w.heap.size 75 #[.pointer none, .pointer none, .pointer (some a2)]) := by show Bk _ _ _ _; rw [← hV3]; exact (bk_set_ne (bk_set_ne H5.out (p := ⟨w.heap.size + 3, 0, none⟩) (show w.heap.size + 3 ≠ w.heap.size by omega)) (p := ⟨w.heap.size + 3, 1, none⟩) (show w.heap.size + 3 ≠ w.heap.size by omega)).alloc _
     have H103 : Hid (Bk V3 (w.heap.size + 1) 75 #[.pointer none, .pointer none, .pointer none]) := by show Bk _ _ _ _; rw [← hV3]; exact (bk_set_ne (bk_set_ne H10.out (p := ⟨w.heap.size + 3, 0, none⟩) (show w.heap.size + 3 ≠ (w.heap.size + 1) by omega)) (p := ⟨w.heap.size + 3, 1, none⟩) (show w.heap.size + 3 ≠ (w.heap.size + 1) by omega)).alloc _
     have H113 : Hid (Bk V3 (w.heap.size + 2) 47 #[.int .i64 0, .int .u64 0]) := by show Bk _ _ _ _; rw [← hV3]; exact (bk_set_ne (bk_set_ne H11.out (p := ⟨w.heap.size + 3, 0, none⟩) (show w.heap.size + 3 ≠ (w.heap.size + 2) by omega)) (p := ⟨w.heap.size + 3, 1, none⟩) (show w.heap.size + 3 ≠ (w.heap.size + 2) by omega)).alloc _
     have H123 : Hid (Bk V3 (w.heap.size + 3) 47 #[.int .i64 40, .int .u64 6]) := by show Bk _ _ _ _; rw [← hV3]; exact ((H12.out.set_ 0 _).set_ 1 _).alloc _
     have HT : Hid (ThIn V3 XN (.pointer none) (.pointer none) (.pointer (some a2))) := by show ThIn _ _ _ _ _; rw [← hV3, ← hXN]; exact HX.out.below (((HB.out.setCell (p := ⟨w.heap.size + 3, 0, none⟩) (by show _ ≤ w.heap.size + 3; omega) _).setCell (p := ⟨w.heap.size + 3, 1, none⟩) (by show _ ≤ w.heap.size + 3; omega) _).alloc (by simp; omega) _)
     have HB3 : Hid (Below w.heap.size w V3) := by show Below _ _ _; rw [← hV3]; exact ((HB.out.setCell (p := ⟨w.heap.size + 3, 0, none⟩) (by show _ ≤ w.heap.size + 3; omega) _).setCell (p := ⟨w.heap.size + 3, 1, none⟩) (by show _ ≤ w.heap.size + 3; omega) _).alloc (by simp; omega) _
     rw [hV3]
     have HXN0 := Lib.hid hXN
     clear hV3 hXN H5 H10 H11 H12 HB
     clear c0 c1 c2 d0 e0 e1 f0 f1 k5 k10 k11 kf hsz
     have H5 := H53
     have H10 := H103
     have H11 := H113
     have H12 := H123
     have HB := HB3
     clear H53 H103 H113 H123 HB3
     have HXN : Hid (XN = XR) := by show _ = _; rw [← HXR.out, if_neg (by simp [Th.none_]), ← HXN0.out]
     refine wp_region_held_drew (S := (fun w' => w'.rangeAt w.heap.size 0 (#[.pointer none, .pointer none, .pointer (some a2)] : Array Value).toList ∧ w'.rangeAt (w.heap.size + 3) 0 [.int .i64 40, .int .u64 6])) (by kernel_rfl) ?_ (fun hHeld => ?_)
     ·exact ⟨H5.out.rng, H12.out.rng⟩
     refine loadA 0 #[.pointer none, .pointer none, .pointer (some a2)] Tryz.underlying75 rfl (by kernel_rfl) ?_ ?_
     ·(intro w hSw; exact hSw.1)
     try simp only [Act.put, pS]
     refine loadA 1 #[.int .i64 40, .int .u64 6] Tryz.underlying47 rfl (by kernel_rfl) ?_ ?_
     ·(intro w hSw; exact hSw.2)
     try simp only [Act.put, pS]
     obtain ⟨V4, hV4⟩ : ∃ V4, V3.drew = V4 := ⟨_, rfl⟩
     have H5 : Hid (Bk V4 w.heap.size 75 #[.pointer none, .pointer none, .pointer (some a2)]) := by show Bk _ _ _ _; rw [← hV4]; exact H5.out
     have H10 : Hid (Bk V4 (w.heap.size + 1) 75 #[.pointer none, .pointer none, .pointer none]) := by show Bk _ _ _ _; rw [← hV4]; exact H10.out
     have H11 : Hid (Bk V4 (w.heap.size + 2) 47 #[.int .i64 0, .int .u64 0]) := by show Bk _ _ _ _; rw [← hV4]; exact H11.out
     have H12 : Hid (Bk V4 (w.heap.size + 3) 47 #[.int .i64 40, .int .u64 6]) := by show Bk _ _ _ _; rw [← hV4]; exact H12.out
     have HB : Hid (Below w.heap.size w V4) := by show Below _ _ _; rw [← hV4]; exact HB.out.drew
     have HT : Hid (ThIn V4 XN (.pointer none) (.pointer none) (.pointer (some a2))) := by show ThIn _ _ _ _ _; rw [← hV4]; exact HT.out.below (Below.refl _ _).drew
     rw [hV4] at hHeld ⊢
     clear hV4
     refine comeA 2 fun K hK => ?_
     have g0 := (H10.out.cell 0).trans rfl
     have g1 := (H10.out.cell 1).trans rfl
     have g2 := (H10.out.cell 2).trans rfl
     have n0 := H10.out.frozen 0
     have n1 := H10.out.frozen 1
     have n2 := H10.out.frozen 2
     have k10 := H10.out.lt
     go_simp
     obtain ⟨V5, hV5⟩ : ∃ V5, (((V4.setCell ⟨w.heap.size + 1, 0, none⟩ (.pointer none)).setCell ⟨w.heap.size + 1, 1, none⟩ (.pointer none)).setCell ⟨w.heap.size + 1, 2, none⟩ (.pointer (some a2))) = V5 := ⟨_, rfl⟩
     have HT6 : Hid (ThIn V5 XN (.pointer none) (.pointer none) (.pointer (some a2))) := by show ThIn _ _ _ _ _; rw [← hV5]; exact ((HT.out.set H10.out (by decide) (by decide) (by simp) ⟨w.heap.size + 1, 0, none⟩ rfl _).set (H10.out.set_ 0 _) (by decide) (by decide) (by simp) ⟨w.heap.size + 1, 1, none⟩ rfl _).set ((H10.out.set_ 0 _).set_ 1 _) (by decide) (by decide) (by simp) ⟨w.heap.size + 1, 2, none⟩ rfl _
     have H106 : Hid (Bk V5 (w.heap.size + 1) 75 #[.pointer none, .pointer none, .pointer (some a2)]) := by show Bk _ _ _ _; rw [← hV5]; exact ((H10.out.set_ 0 _).set_ 1 _).set_ 2 _
     have H56 : Hid (Bk V5 w.heap.size 75 #[.pointer none, .pointer none, .pointer (some a2)]) := by show Bk _ _ _ _; rw [← hV5]; exact bk_set_ne (bk_set_ne (bk_set_ne H5.out (p := ⟨w.heap.size + 1, 0, none⟩) (show w.heap.size + 1 ≠ w.heap.size by omega)) (p := ⟨w.heap.size + 1, 1, none⟩) (show w.heap.size + 1 ≠ w.heap.size by omega)) (p := ⟨w.heap.size + 1, 2, none⟩) (show w.heap.size + 1 ≠ w.heap.size by omega)
     have H116 : Hid (Bk V5 (w.heap.size + 2) 47 #[.int .i64 0, .int .u64 0]) := by show Bk _ _ _ _; rw [← hV5]; exact bk_set_ne (bk_set_ne (bk_set_ne H11.out (p := ⟨w.heap.size + 1, 0, none⟩) (show w.heap.size + 1 ≠ (w.heap.size + 2) by omega)) (p := ⟨w.heap.size + 1, 1, none⟩) (show w.heap.size + 1 ≠ (w.heap.size + 2) by omega)) (p := ⟨w.heap.size + 1, 2, none⟩) (show w.heap.size + 1 ≠ (w.heap.size + 2) by omega)
     have H126 : Hid (Bk V5 (w.heap.size + 3) 47 #[.int .i64 40, .int .u64 6]) := by show Bk _ _ _ _; rw [← hV5]; exact bk_set_ne (bk_set_ne (bk_set_ne H12.out (p := ⟨w.heap.size + 1, 0, none⟩) (show w.heap.size + 1 ≠ (w.heap.size + 3) by omega)) (p := ⟨w.heap.size + 1, 1, none⟩) (show w.heap.size + 1 ≠ (w.heap.size + 3) by omega)) (p := ⟨w.heap.size + 1, 2, none⟩) (show w.heap.size + 1 ≠ (w.heap.size + 3) by omega)
     have HB6 : Hid (Below w.heap.size w V5) := by show Below _ _ _; rw [← hV5]; exact ((HB.out.setCell (p := ⟨w.heap.size + 1, 0, none⟩) (Nat.le_succ _) _).setCell (p := ⟨w.heap.size + 1, 1, none⟩) (Nat.le_succ _) _).setCell (p := ⟨w.heap.size + 1, 2, none⟩) (Nat.le_succ _) _
     rw [hV5]
     clear hV5 g0 g1 g2 n0 n1 n2 k10 H5 H10 H11 H12 HB HT
     refine hK.out _ _ ?_ (fun hHeld => ?_)
     ·exact ⟨H56.out.rng, H126.out.rng⟩
     clear hK K
     try simp only [Act.put, pS]
     refine comeA 3 fun K hK => ?_
     have g0 := (H116.out.cell 0).trans rfl
     have g1 := (H116.out.cell 1).trans rfl
     have n0 := H116.out.frozen 0
     have n1 := H116.out.frozen 1
     have k11 := H116.out.lt
     go_simp
     obtain ⟨V6, hV6⟩ : ∃ V6, ((V5.setCell ⟨w.heap.size + 2, 0, none⟩ (.int .i64 40)).setCell ⟨w.heap.size + 2, 1, none⟩ (.int .u64 6)) = V6 := ⟨_, rfl⟩
     have HT7 : Hid (ThIn V6 XN (.pointer none) (.pointer none) (.pointer (some a2))) := by show ThIn _ _ _ _ _; rw [← hV6]; exact (HT6.out.set H116.out (by decide) (by decide) (by simp) ⟨w.heap.size + 2, 0, none⟩ rfl _).set (H116.out.set_ 0 _) (by decide) (by decide) (by simp) ⟨w.heap.size + 2, 1, none⟩ rfl _
     have H117 : Hid (Bk V6 (w.heap.size + 2) 47 #[.int .i64 40, .int .u64 6]) := by show Bk _ _ _ _; rw [← hV6]; exact (H116.out.set_ 0 _).set_ 1 _
     have H57 : Hid (Bk V6 w.heap.size 75 #[.pointer none, .pointer none, .pointer (some a2)]) := by show Bk _ _ _ _; rw [← hV6]; exact bk_set_ne (bk_set_ne H56.out (p := ⟨w.heap.size + 2, 0, none⟩) (show w.heap.size + 2 ≠ w.heap.size by omega)) (p := ⟨w.heap.size + 2, 1, none⟩) (show w.heap.size + 2 ≠ w.heap.size by omega)
     have H107 : Hid (Bk V6 (w.heap.size + 1) 75 #[.pointer none, .pointer none, .pointer (some a2)]) := by show Bk _ _ _ _; rw [← hV6]; exact bk_set_ne (bk_set_ne H106.out (p := ⟨w.heap.size + 2, 0, none⟩) (show w.heap.size + 2 ≠ (w.heap.size + 1) by omega)) (p := ⟨w.heap.size + 2, 1, none⟩) (show w.heap.size + 2 ≠ (w.heap.size + 1) by omega)
     have H127 : Hid (Bk V6 (w.heap.size + 3) 47 #[.int .i64 40, .int .u64 6]) := by show Bk _ _ _ _; rw [← hV6]; exact bk_set_ne (bk_set_ne H126.out (p := ⟨w.heap.size + 2, 0, none⟩) (show w.heap.size + 2 ≠ (w.heap.size + 3) by omega)) (p := ⟨w.heap.size + 2, 1, none⟩) (show w.heap.size + 2 ≠ (w.heap.size + 3) by omega)
     have HB7 : Hid (Below w.heap.size w V6) := by show Below _ _ _; rw [← hV6]; exact (HB6.out.setCell (p := ⟨w.heap.size + 2, 0, none⟩) (by show _ ≤ w.heap.size + 2; omega) _).setCell (p := ⟨w.heap.size + 2, 1, none⟩) (by show _ ≤ w.heap.size + 2; omega) _
     rw [hV6]
     clear hV6 g0 g1 n0 n1 k11
     refine hK.out _ _ ?_ (fun hHeld => ?_)
     ·exact ⟨H57.out.rng, H127.out.rng⟩
     clear hK K
     try simp only [Act.put, pS]
     refine wpAnyH_done (by kernel_rfl) ?_ _
     try simp only [Act.put, pS]
     go_wp2_with (with_reducible show bodyPost _ _ _ _ _ _
                  refine bodyPost_ret (results_cc (p := 10) (u := 11) (ty := 75) (tz := 47) rfl _ _ (w.heap.size + 1) (w.heap.size + 2) 75 47 _ _ _ _ (by rfl) H107.out Tryz.underlying75 rfl info_th (by rfl) H117.out Tryz.underlying47 rfl info_res) rfl ?_
                  exact ⟨_, _, _, _, rfl, HXN.out ▸ HT7.out, ⟨_, _, rfl⟩, HB7.out⟩)
  ·obtain rfl : t = none := by rcases hone with h | h | h <;> simp_all
   clear hone
   have hn0 : (Value.pointer a0) = .pointer none := HX.out.q
   have hn2 : (Value.pointer a2) = .pointer none := HX.out.t
   injection hn0 with hn0
   subst hn0
   injection hn2 with hn2
   subst hn2
   obtain ⟨a1', ha⟩ : ∃ z, a1 = some z := by obtain ⟨b, A, n, c, e, _⟩ := HX.out.c; injection e with e; exact ⟨_, e⟩
   subst ha
   obtain ⟨a1, rfl⟩ : ∃ z, z = a1' := ⟨_, rfl⟩
   have HCd : Hid (((⟨none, some cv, none⟩ : Th).c.isSome || (⟨none, some cv, none⟩ : Th).none_) = true) := rfl
   go_wp2_with (go_at_call 43; go_in)
   refine (HD.out _ _ W1 ((HX.out.c).below HB.out) HOk.out.c).mono ?_
   rintro e w5 ⟨p5, r5, rfl, hq5, ⟨pa5, rfl⟩, ⟨c5, u5, rfl⟩, hb5⟩
   have HQ5 := Lib.hid hq5
   have H5 := Lib.hid (H5.out.below hb5 H5.out.lt)
   have H10 := Lib.hid (H10.out.below hb5 H10.out.lt)
   have H11 := Lib.hid (H11.out.below hb5 H11.out.lt)
   have H12 := Lib.hid (H12.out.below hb5 H12.out.lt)
   have HB := Lib.hid (HB.out.trans (hb5.mono HB.out.size))
   clear hq5 hb5 c0 c1 c2 k5 k10 k11 kf hsz
   have c0 := (H5.out.cell 0).trans rfl
   have c1 := (H5.out.cell 1).trans rfl
   have c2 := (H5.out.cell 2).trans rfl
   have d0 := H5.out.frozen 1
   have e0 := (H12.out.cell 0).trans rfl
   have e1 := (H12.out.cell 1).trans rfl
   have f0 := H12.out.frozen 0
   have f1 := H12.out.frozen 1
   have k5 := H5.out.lt
   have k10 := H10.out.lt
   have k11 := H11.out.lt
   have kf := H12.out.lt
   have hsz := HB.out.size
   have HT0 : Hid (ThIn w5 ⟨none, cP k a (some cv), none⟩ (.pointer none) (.pointer pa5) (.pointer none)) := ⟨HX.out.q.below HB.out, HQ5.out, HX.out.t.below HB.out⟩
   go_upto_region 11 with fail
   obtain ⟨V3, hV3⟩ : ∃ V3, (((w5.setCell ⟨w.heap.size, 1, none⟩ (.pointer pa5)).setCell ⟨w.heap.size + 3, 0, none⟩ (.int .i64 c5)).setCell ⟨w.heap.size + 3, 1, none⟩ (.int .u64 u5)) = V3 := ⟨_, rfl⟩
   obtain ⟨XN, hXN⟩ : ∃ XN : Th, ⟨none, cP k a (some cv), none⟩ = XN := ⟨_, rfl⟩
   rw [hXN] at HT0
   have H53 : Hid (Bk V3 w.heap.size 75 #[.pointer none, .pointer pa5, .pointer none]) := by show Bk _ _ _ _; rw [← hV3]; exact bk_set_ne (bk_set_ne (H5.out.set_ 1 _) (p := ⟨w.heap.size + 3, 0, none⟩) (show w.heap.size + 3 ≠ w.heap.size by omega)) (p := ⟨w.heap.size + 3, 1, none⟩) (show w.heap.size + 3 ≠ w.heap.size by omega)
   have H103 : Hid (Bk V3 (w.heap.size + 1) 75 #[.pointer none, .pointer none, .pointer none]) := by show Bk _ _ _ _; rw [← hV3]; exact bk_set_ne (bk_set_ne (bk_set_ne H10.out (p := ⟨w.heap.size, 1, none⟩) (show w.heap.size ≠ (w.heap.size + 1) by omega)) (p := ⟨w.heap.size + 3, 0, none⟩) (show w.heap.size + 3 ≠ (w.heap.size + 1) by omega)) (p := ⟨w.heap.size + 3, 1, none⟩) (show w.heap.size + 3 ≠ (w.heap.size + 1) by omega)
   have H113 : Hid (Bk V3 (w.heap.size + 2) 47 #[.int .i64 0, .int .u64 0]) := by show Bk _ _ _ _; rw [← hV3]; exact bk_set_ne (bk_set_ne (bk_set_ne H11.out (p := ⟨w.heap.size, 1, none⟩) (show w.heap.size ≠ (w.heap.size + 2) by omega)) (p := ⟨w.heap.size + 3, 0, none⟩) (show w.heap.size + 3 ≠ (w.heap.size + 2) by omega)) (p := ⟨w.heap.size + 3, 1, none⟩) (show w.heap.size + 3 ≠ (w.heap.size + 2) by omega)
   have H12x := Lib.hid (bk_set_ne H12.out (p := ⟨w.heap.size, 1, none⟩) (u := .pointer pa5) (show w.heap.size ≠ w.heap.size + 3 by omega))
   have H123 : Hid (Bk V3 (w.heap.size + 3) 47 #[.int .i64 c5, .int .u64 u5]) := by show Bk _ _ _ _; rw [← hV3]; exact (H12x.out.set_ 0 _).set_ 1 _
   have HT : Hid (ThIn V3 XN (.pointer none) (.pointer pa5) (.pointer none)) := by show ThIn _ _ _ _ _; rw [← hV3]; exact ((HT0.out.set H5.out (by decide) (by decide) (by simp) ⟨w.heap.size, 1, none⟩ rfl _).set H12x.out (by decide) (by decide) (by simp) ⟨w.heap.size + 3, 0, none⟩ rfl _).set (H12x.out.set_ 0 _) (by decide) (by decide) (by simp) ⟨w.heap.size + 3, 1, none⟩ rfl _
   have HB3 : Hid (Below w.heap.size w V3) := by show Below _ _ _; rw [← hV3]; exact ((HB.out.setCell (p := ⟨w.heap.size, 1, none⟩) (Nat.le_refl _) _).setCell (p := ⟨w.heap.size + 3, 0, none⟩) (by show _ ≤ w.heap.size + 3; omega) _).setCell (p := ⟨w.heap.size + 3, 1, none⟩) (by show _ ≤ w.heap.size + 3; omega) _
   rw [hV3]
   have HXN0 := Lib.hid hXN
   clear hV3 hXN HT0 HQ5 H5 H10 H11 H12 H12x HB
   clear c0 c1 c2 d0 e0 e1 f0 f1 k5 k10 k11 kf hsz
   have H5 := H53
   have H10 := H103
   have H11 := H113
   have H12 := H123
   have HB := HB3
   clear H53 H103 H113 H123 HB3
   have HXN : Hid (XN = XR) := by show _ = _; rw [← HXR.out, if_pos (HCd.out), ← HXN0.out]
   refine wp_region_held_drew (S := (fun w' => w'.rangeAt w.heap.size 0 (#[.pointer none, .pointer pa5, .pointer none] : Array Value).toList ∧ w'.rangeAt (w.heap.size + 3) 0 [.int .i64 c5, .int .u64 u5])) (by kernel_rfl) ?_ (fun hHeld => ?_)
   ·exact ⟨H5.out.rng, H12.out.rng⟩
   refine loadA 0 #[.pointer none, .pointer pa5, .pointer none] Tryz.underlying75 rfl (by kernel_rfl) ?_ ?_
   ·(intro w hSw; exact hSw.1)
   try simp only [Act.put, pS]
   refine loadA 1 #[.int .i64 c5, .int .u64 u5] Tryz.underlying47 rfl (by kernel_rfl) ?_ ?_
   ·(intro w hSw; exact hSw.2)
   try simp only [Act.put, pS]
   obtain ⟨V4, hV4⟩ : ∃ V4, V3.drew = V4 := ⟨_, rfl⟩
   have H5 : Hid (Bk V4 w.heap.size 75 #[.pointer none, .pointer pa5, .pointer none]) := by show Bk _ _ _ _; rw [← hV4]; exact H5.out
   have H10 : Hid (Bk V4 (w.heap.size + 1) 75 #[.pointer none, .pointer none, .pointer none]) := by show Bk _ _ _ _; rw [← hV4]; exact H10.out
   have H11 : Hid (Bk V4 (w.heap.size + 2) 47 #[.int .i64 0, .int .u64 0]) := by show Bk _ _ _ _; rw [← hV4]; exact H11.out
   have H12 : Hid (Bk V4 (w.heap.size + 3) 47 #[.int .i64 c5, .int .u64 u5]) := by show Bk _ _ _ _; rw [← hV4]; exact H12.out
   have HB : Hid (Below w.heap.size w V4) := by show Below _ _ _; rw [← hV4]; exact HB.out.drew
   have HT : Hid (ThIn V4 XN (.pointer none) (.pointer pa5) (.pointer none)) := by show ThIn _ _ _ _ _; rw [← hV4]; exact HT.out.below (Below.refl _ _).drew
   rw [hV4] at hHeld ⊢
   clear hV4
   refine comeA 2 fun K hK => ?_
   have g0 := (H10.out.cell 0).trans rfl
   have g1 := (H10.out.cell 1).trans rfl
   have g2 := (H10.out.cell 2).trans rfl
   have n0 := H10.out.frozen 0
   have n1 := H10.out.frozen 1
   have n2 := H10.out.frozen 2
   have k10 := H10.out.lt
   go_simp
   obtain ⟨V5, hV5⟩ : ∃ V5, (((V4.setCell ⟨w.heap.size + 1, 0, none⟩ (.pointer none)).setCell ⟨w.heap.size + 1, 1, none⟩ (.pointer pa5)).setCell ⟨w.heap.size + 1, 2, none⟩ (.pointer none)) = V5 := ⟨_, rfl⟩
   have HT6 : Hid (ThIn V5 XN (.pointer none) (.pointer pa5) (.pointer none)) := by show ThIn _ _ _ _ _; rw [← hV5]; exact ((HT.out.set H10.out (by decide) (by decide) (by simp) ⟨w.heap.size + 1, 0, none⟩ rfl _).set (H10.out.set_ 0 _) (by decide) (by decide) (by simp) ⟨w.heap.size + 1, 1, none⟩ rfl _).set ((H10.out.set_ 0 _).set_ 1 _) (by decide) (by decide) (by simp) ⟨w.heap.size + 1, 2, none⟩ rfl _
   have H106 : Hid (Bk V5 (w.heap.size + 1) 75 #[.pointer none, .pointer pa5, .pointer none]) := by show Bk _ _ _ _; rw [← hV5]; exact ((H10.out.set_ 0 _).set_ 1 _).set_ 2 _
   have H56 : Hid (Bk V5 w.heap.size 75 #[.pointer none, .pointer pa5, .pointer none]) := by show Bk _ _ _ _; rw [← hV5]; exact bk_set_ne (bk_set_ne (bk_set_ne H5.out (p := ⟨w.heap.size + 1, 0, none⟩) (show w.heap.size + 1 ≠ w.heap.size by omega)) (p := ⟨w.heap.size + 1, 1, none⟩) (show w.heap.size + 1 ≠ w.heap.size by omega)) (p := ⟨w.heap.size + 1, 2, none⟩) (show w.heap.size + 1 ≠ w.heap.size by omega)
   have H116 : Hid (Bk V5 (w.heap.size + 2) 47 #[.int .i64 0, .int .u64 0]) := by show Bk _ _ _ _; rw [← hV5]; exact bk_set_ne (bk_set_ne (bk_set_ne H11.out (p := ⟨w.heap.size + 1, 0, none⟩) (show w.heap.size + 1 ≠ (w.heap.size + 2) by omega)) (p := ⟨w.heap.size + 1, 1, none⟩) (show w.heap.size + 1 ≠ (w.heap.size + 2) by omega)) (p := ⟨w.heap.size + 1, 2, none⟩) (show w.heap.size + 1 ≠ (w.heap.size + 2) by omega)
   have H126 : Hid (Bk V5 (w.heap.size + 3) 47 #[.int .i64 c5, .int .u64 u5]) := by show Bk _ _ _ _; rw [← hV5]; exact bk_set_ne (bk_set_ne (bk_set_ne H12.out (p := ⟨w.heap.size + 1, 0, none⟩) (show w.heap.size + 1 ≠ (w.heap.size + 3) by omega)) (p := ⟨w.heap.size + 1, 1, none⟩) (show w.heap.size + 1 ≠ (w.heap.size + 3) by omega)) (p := ⟨w.heap.size + 1, 2, none⟩) (show w.heap.size + 1 ≠ (w.heap.size + 3) by omega)
   have HB6 : Hid (Below w.heap.size w V5) := by show Below _ _ _; rw [← hV5]; exact ((HB.out.setCell (p := ⟨w.heap.size + 1, 0, none⟩) (Nat.le_succ _) _).setCell (p := ⟨w.heap.size + 1, 1, none⟩) (Nat.le_succ _) _).setCell (p := ⟨w.heap.size + 1, 2, none⟩) (Nat.le_succ _) _
   rw [hV5]
   clear hV5 g0 g1 g2 n0 n1 n2 k10 H5 H10 H11 H12 HB HT
   refine hK.out _ _ ?_ (fun hHeld => ?_)
   ·exact ⟨H56.out.rng, H126.out.rng⟩
   clear hK K
   try simp only [Act.put, pS]
   refine comeA 3 fun K hK => ?_
   have g0 := (H116.out.cell 0).trans rfl
   have g1 := (H116.out.cell 1).trans rfl
   have n0 := H116.out.frozen 0
   have n1 := H116.out.frozen 1
   have k11 := H116.out.lt
   go_simp
   obtain ⟨V6, hV6⟩ : ∃ V6, ((V5.setCell ⟨w.heap.size + 2, 0, none⟩ (.int .i64 c5)).setCell ⟨w.heap.size + 2, 1, none⟩ (.int .u64 u5)) = V6 := ⟨_, rfl⟩
   have HT7 : Hid (ThIn V6 XN (.pointer none) (.pointer pa5) (.pointer none)) := by show ThIn _ _ _ _ _; rw [← hV6]; exact (HT6.out.set H116.out (by decide) (by decide) (by simp) ⟨w.heap.size + 2, 0, none⟩ rfl _).set (H116.out.set_ 0 _) (by decide) (by decide) (by simp) ⟨w.heap.size + 2, 1, none⟩ rfl _
   have H117 : Hid (Bk V6 (w.heap.size + 2) 47 #[.int .i64 c5, .int .u64 u5]) := by show Bk _ _ _ _; rw [← hV6]; exact (H116.out.set_ 0 _).set_ 1 _
   have H57 : Hid (Bk V6 w.heap.size 75 #[.pointer none, .pointer pa5, .pointer none]) := by show Bk _ _ _ _; rw [← hV6]; exact bk_set_ne (bk_set_ne H56.out (p := ⟨w.heap.size + 2, 0, none⟩) (show w.heap.size + 2 ≠ w.heap.size by omega)) (p := ⟨w.heap.size + 2, 1, none⟩) (show w.heap.size + 2 ≠ w.heap.size by omega)
   have H107 : Hid (Bk V6 (w.heap.size + 1) 75 #[.pointer none, .pointer pa5, .pointer none]) := by show Bk _ _ _ _; rw [← hV6]; exact bk_set_ne (bk_set_ne H106.out (p := ⟨w.heap.size + 2, 0, none⟩) (show w.heap.size + 2 ≠ (w.heap.size + 1) by omega)) (p := ⟨w.heap.size + 2, 1, none⟩) (show w.heap.size + 2 ≠ (w.heap.size + 1) by omega)
   have H127 : Hid (Bk V6 (w.heap.size + 3) 47 #[.int .i64 c5, .int .u64 u5]) := by show Bk _ _ _ _; rw [← hV6]; exact bk_set_ne (bk_set_ne H126.out (p := ⟨w.heap.size + 2, 0, none⟩) (show w.heap.size + 2 ≠ (w.heap.size + 3) by omega)) (p := ⟨w.heap.size + 2, 1, none⟩) (show w.heap.size + 2 ≠ (w.heap.size + 3) by omega)
   have HB7 : Hid (Below w.heap.size w V6) := by show Below _ _ _; rw [← hV6]; exact (HB6.out.setCell (p := ⟨w.heap.size + 2, 0, none⟩) (by show _ ≤ w.heap.size + 2; omega) _).setCell (p := ⟨w.heap.size + 2, 1, none⟩) (by show _ ≤ w.heap.size + 2; omega) _
   rw [hV6]
   clear hV6 g0 g1 n0 n1 k11
   refine hK.out _ _ ?_ (fun hHeld => ?_)
   ·exact ⟨H57.out.rng, H127.out.rng⟩
   clear hK K
   try simp only [Act.put, pS]
   refine wpAnyH_done (by kernel_rfl) ?_ _
   try simp only [Act.put, pS]
   go_wp2_with (with_reducible show bodyPost _ _ _ _ _ _
                refine bodyPost_ret (results_cc (p := 10) (u := 11) (ty := 75) (tz := 47) rfl _ _ (w.heap.size + 1) (w.heap.size + 2) 75 47 _ _ _ _ (by rfl) H107.out Tryz.underlying75 rfl info_th (by rfl) H117.out Tryz.underlying47 rfl info_res) rfl ?_
                exact ⟨_, _, _, _, rfl, HXN.out ▸ HT7.out, ⟨_, _, rfl⟩, HB7.out⟩)
 ·obtain ⟨rfl, rfl⟩ : c = none ∧ t = none := by rcases hone with h | h | h <;> simp_all
  clear hone
  have hn1 : (Value.pointer a1) = .pointer none := HX.out.c
  have hn2 : (Value.pointer a2) = .pointer none := HX.out.t
  injection hn1 with hn1
  subst hn1
  injection hn2 with hn2
  subst hn2
  obtain ⟨a0', ha⟩ : ∃ z, a0 = some z := by obtain ⟨b, A, n, c, e, _⟩ := HX.out.q; injection e with e; exact ⟨_, e⟩
  subst ha
  obtain ⟨a0, rfl⟩ : ∃ z, z = a0' := ⟨_, rfl⟩
  clear c0 c1 c2 k5 k10 k11 kf hsz
  have c0 := (H5.out.cell 0).trans rfl
  have c1 := (H5.out.cell 1).trans rfl
  have c2 := (H5.out.cell 2).trans rfl
  have d0 := H5.out.frozen 1
  have e0 := (H12.out.cell 0).trans rfl
  have e1 := (H12.out.cell 1).trans rfl
  have f0 := H12.out.frozen 0
  have f1 := H12.out.frozen 1
  have k5 := H5.out.lt
  have k10 := H10.out.lt
  have k11 := H11.out.lt
  have kf := H12.out.lt
  have hsz := HB.out.size
  go_upto_region 11 with (go_at_call 43; go_in)
  ·obtain ⟨V3, hV3⟩ : ∃ V3, (((W1.setCell ⟨w.heap.size + 3, 0, none⟩ (.int .i64 40)).setCell ⟨w.heap.size + 3, 1, none⟩ (.int .u64 4)).alloc (.cells #[.pointer (some a0), .pointer none, .pointer none] 75)) = V3 := ⟨_, rfl⟩
   obtain ⟨XN, hXN⟩ : ∃ XN : Th, ⟨some qv, none, none⟩ = XN := ⟨_, rfl⟩
   have H53 : Hid (Bk V3 w.heap.size 75 #[.pointer (some a0), .pointer none, .pointer none]) := by show Bk _ _ _ _; rw [← hV3]; exact (bk_set_ne (bk_set_ne H5.out (p := ⟨w.heap.size + 3, 0, none⟩) (show w.heap.size + 3 ≠ w.heap.size by omega)) (p := ⟨w.heap.size + 3, 1, none⟩) (show w.heap.size + 3 ≠ w.heap.size by omega)).alloc _
   have H103 : Hid (Bk V3 (w.heap.size + 1) 75 #[.pointer none, .pointer none, .pointer none]) := by show Bk _ _ _ _; rw [← hV3]; exact (bk_set_ne (bk_set_ne H10.out (p := ⟨w.heap.size + 3, 0, none⟩) (show w.heap.size + 3 ≠ (w.heap.size + 1) by omega)) (p := ⟨w.heap.size + 3, 1, none⟩) (show w.heap.size + 3 ≠ (w.heap.size + 1) by omega)).alloc _
   have H113 : Hid (Bk V3 (w.heap.size + 2) 47 #[.int .i64 0, .int .u64 0]) := by show Bk _ _ _ _; rw [← hV3]; exact (bk_set_ne (bk_set_ne H11.out (p := ⟨w.heap.size + 3, 0, none⟩) (show w.heap.size + 3 ≠ (w.heap.size + 2) by omega)) (p := ⟨w.heap.size + 3, 1, none⟩) (show w.heap.size + 3 ≠ (w.heap.size + 2) by omega)).alloc _
   have H123 : Hid (Bk V3 (w.heap.size + 3) 47 #[.int .i64 40, .int .u64 4]) := by show Bk _ _ _ _; rw [← hV3]; exact ((H12.out.set_ 0 _).set_ 1 _).alloc _
   have HT : Hid (ThIn V3 XN (.pointer (some a0)) (.pointer none) (.pointer none)) := by show ThIn _ _ _ _ _; rw [← hV3, ← hXN]; exact HX.out.below (((HB.out.setCell (p := ⟨w.heap.size + 3, 0, none⟩) (by show _ ≤ w.heap.size + 3; omega) _).setCell (p := ⟨w.heap.size + 3, 1, none⟩) (by show _ ≤ w.heap.size + 3; omega) _).alloc (by simp; omega) _)
   have HB3 : Hid (Below w.heap.size w V3) := by show Below _ _ _; rw [← hV3]; exact ((HB.out.setCell (p := ⟨w.heap.size + 3, 0, none⟩) (by show _ ≤ w.heap.size + 3; omega) _).setCell (p := ⟨w.heap.size + 3, 1, none⟩) (by show _ ≤ w.heap.size + 3; omega) _).alloc (by simp; omega) _
   rw [hV3]
   have HXN0 := Lib.hid hXN
   clear hV3 hXN H5 H10 H11 H12 HB
   clear c0 c1 c2 d0 e0 e1 f0 f1 k5 k10 k11 kf hsz
   have H5 := H53
   have H10 := H103
   have H11 := H113
   have H12 := H123
   have HB := HB3
   clear H53 H103 H113 H123 HB3
   have HXN : Hid (XN = XR) := by show _ = _; rw [← HXR.out, if_neg (by simp [Th.none_]), ← HXN0.out]
   refine wp_region_held_drew (S := (fun w' => w'.rangeAt w.heap.size 0 (#[.pointer (some a0), .pointer none, .pointer none] : Array Value).toList ∧ w'.rangeAt (w.heap.size + 3) 0 [.int .i64 40, .int .u64 4])) (by kernel_rfl) ?_ (fun hHeld => ?_)
   ·exact ⟨H5.out.rng, H12.out.rng⟩
   refine loadA 0 #[.pointer (some a0), .pointer none, .pointer none] Tryz.underlying75 rfl (by kernel_rfl) ?_ ?_
   ·(intro w hSw; exact hSw.1)
   try simp only [Act.put, pS]
   refine loadA 1 #[.int .i64 40, .int .u64 4] Tryz.underlying47 rfl (by kernel_rfl) ?_ ?_
   ·(intro w hSw; exact hSw.2)
   try simp only [Act.put, pS]
   obtain ⟨V4, hV4⟩ : ∃ V4, V3.drew = V4 := ⟨_, rfl⟩
   have H5 : Hid (Bk V4 w.heap.size 75 #[.pointer (some a0), .pointer none, .pointer none]) := by show Bk _ _ _ _; rw [← hV4]; exact H5.out
   have H10 : Hid (Bk V4 (w.heap.size + 1) 75 #[.pointer none, .pointer none, .pointer none]) := by show Bk _ _ _ _; rw [← hV4]; exact H10.out
   have H11 : Hid (Bk V4 (w.heap.size + 2) 47 #[.int .i64 0, .int .u64 0]) := by show Bk _ _ _ _; rw [← hV4]; exact H11.out
   have H12 : Hid (Bk V4 (w.heap.size + 3) 47 #[.int .i64 40, .int .u64 4]) := by show Bk _ _ _ _; rw [← hV4]; exact H12.out
   have HB : Hid (Below w.heap.size w V4) := by show Below _ _ _; rw [← hV4]; exact HB.out.drew
   have HT : Hid (ThIn V4 XN (.pointer (some a0)) (.pointer none) (.pointer none)) := by show ThIn _ _ _ _ _; rw [← hV4]; exact HT.out.below (Below.refl _ _).drew
   rw [hV4] at hHeld ⊢
   clear hV4
   refine comeA 2 fun K hK => ?_
   have g0 := (H10.out.cell 0).trans rfl
   have g1 := (H10.out.cell 1).trans rfl
   have g2 := (H10.out.cell 2).trans rfl
   have n0 := H10.out.frozen 0
   have n1 := H10.out.frozen 1
   have n2 := H10.out.frozen 2
   have k10 := H10.out.lt
   go_simp
   obtain ⟨V5, hV5⟩ : ∃ V5, (((V4.setCell ⟨w.heap.size + 1, 0, none⟩ (.pointer (some a0))).setCell ⟨w.heap.size + 1, 1, none⟩ (.pointer none)).setCell ⟨w.heap.size + 1, 2, none⟩ (.pointer none)) = V5 := ⟨_, rfl⟩
   have HT6 : Hid (ThIn V5 XN (.pointer (some a0)) (.pointer none) (.pointer none)) := by show ThIn _ _ _ _ _; rw [← hV5]; exact ((HT.out.set H10.out (by decide) (by decide) (by simp) ⟨w.heap.size + 1, 0, none⟩ rfl _).set (H10.out.set_ 0 _) (by decide) (by decide) (by simp) ⟨w.heap.size + 1, 1, none⟩ rfl _).set ((H10.out.set_ 0 _).set_ 1 _) (by decide) (by decide) (by simp) ⟨w.heap.size + 1, 2, none⟩ rfl _
   have H106 : Hid (Bk V5 (w.heap.size + 1) 75 #[.pointer (some a0), .pointer none, .pointer none]) := by show Bk _ _ _ _; rw [← hV5]; exact ((H10.out.set_ 0 _).set_ 1 _).set_ 2 _
   have H56 : Hid (Bk V5 w.heap.size 75 #[.pointer (some a0), .pointer none, .pointer none]) := by show Bk _ _ _ _; rw [← hV5]; exact bk_set_ne (bk_set_ne (bk_set_ne H5.out (p := ⟨w.heap.size + 1, 0, none⟩) (show w.heap.size + 1 ≠ w.heap.size by omega)) (p := ⟨w.heap.size + 1, 1, none⟩) (show w.heap.size + 1 ≠ w.heap.size by omega)) (p := ⟨w.heap.size + 1, 2, none⟩) (show w.heap.size + 1 ≠ w.heap.size by omega)
   have H116 : Hid (Bk V5 (w.heap.size + 2) 47 #[.int .i64 0, .int .u64 0]) := by show Bk _ _ _ _; rw [← hV5]; exact bk_set_ne (bk_set_ne (bk_set_ne H11.out (p := ⟨w.heap.size + 1, 0, none⟩) (show w.heap.size + 1 ≠ (w.heap.size + 2) by omega)) (p := ⟨w.heap.size + 1, 1, none⟩) (show w.heap.size + 1 ≠ (w.heap.size + 2) by omega)) (p := ⟨w.heap.size + 1, 2, none⟩) (show w.heap.size + 1 ≠ (w.heap.size + 2) by omega)
   have H126 : Hid (Bk V5 (w.heap.size + 3) 47 #[.int .i64 40, .int .u64 4]) := by show Bk _ _ _ _; rw [← hV5]; exact bk_set_ne (bk_set_ne (bk_set_ne H12.out (p := ⟨w.heap.size + 1, 0, none⟩) (show w.heap.size + 1 ≠ (w.heap.size + 3) by omega)) (p := ⟨w.heap.size + 1, 1, none⟩) (show w.heap.size + 1 ≠ (w.heap.size + 3) by omega)) (p := ⟨w.heap.size + 1, 2, none⟩) (show w.heap.size + 1 ≠ (w.heap.size + 3) by omega)
   have HB6 : Hid (Below w.heap.size w V5) := by show Below _ _ _; rw [← hV5]; exact ((HB.out.setCell (p := ⟨w.heap.size + 1, 0, none⟩) (Nat.le_succ _) _).setCell (p := ⟨w.heap.size + 1, 1, none⟩) (Nat.le_succ _) _).setCell (p := ⟨w.heap.size + 1, 2, none⟩) (Nat.le_succ _) _
   rw [hV5]
   clear hV5 g0 g1 g2 n0 n1 n2 k10 H5 H10 H11 H12 HB HT
   refine hK.out _ _ ?_ (fun hHeld => ?_)
   ·exact ⟨H56.out.rng, H126.out.rng⟩
   clear hK K
   try simp only [Act.put, pS]
   refine comeA 3 fun K hK => ?_
   have g0 := (H116.out.cell 0).trans rfl
   have g1 := (H116.out.cell 1).trans rfl
   have n0 := H116.out.frozen 0
   have n1 := H116.out.frozen 1
   have k11 := H116.out.lt
   go_simp
   obtain ⟨V6, hV6⟩ : ∃ V6, ((V5.setCell ⟨w.heap.size + 2, 0, none⟩ (.int .i64 40)).setCell ⟨w.heap.size + 2, 1, none⟩ (.int .u64 4)) = V6 := ⟨_, rfl⟩
   have HT7 : Hid (ThIn V6 XN (.pointer (some a0)) (.pointer none) (.pointer none)) := by show ThIn _ _ _ _ _; rw [← hV6]; exact (HT6.out.set H116.out (by decide) (by decide) (by simp) ⟨w.heap.size + 2, 0, none⟩ rfl _).set (H116.out.set_ 0 _) (by decide) (by decide) (by simp) ⟨w.heap.size + 2, 1, none⟩ rfl _
   have H117 : Hid (Bk V6 (w.heap.size + 2) 47 #[.int .i64 40, .int .u64 4]) := by show Bk _ _ _ _; rw [← hV6]; exact (H116.out.set_ 0 _).set_ 1 _
   have H57 : Hid (Bk V6 w.heap.size 75 #[.pointer (some a0), .pointer none, .pointer none]) := by show Bk _ _ _ _; rw [← hV6]; exact bk_set_ne (bk_set_ne H56.out (p := ⟨w.heap.size + 2, 0, none⟩) (show w.heap.size + 2 ≠ w.heap.size by omega)) (p := ⟨w.heap.size + 2, 1, none⟩) (show w.heap.size + 2 ≠ w.heap.size by omega)
   have H107 : Hid (Bk V6 (w.heap.size + 1) 75 #[.pointer (some a0), .pointer none, .pointer none]) := by show Bk _ _ _ _; rw [← hV6]; exact bk_set_ne (bk_set_ne H106.out (p := ⟨w.heap.size + 2, 0, none⟩) (show w.heap.size + 2 ≠ (w.heap.size + 1) by omega)) (p := ⟨w.heap.size + 2, 1, none⟩) (show w.heap.size + 2 ≠ (w.heap.size + 1) by omega)
   have H127 : Hid (Bk V6 (w.heap.size + 3) 47 #[.int .i64 40, .int .u64 4]) := by show Bk _ _ _ _; rw [← hV6]; exact bk_set_ne (bk_set_ne H126.out (p := ⟨w.heap.size + 2, 0, none⟩) (show w.heap.size + 2 ≠ (w.heap.size + 3) by omega)) (p := ⟨w.heap.size + 2, 1, none⟩) (show w.heap.size + 2 ≠ (w.heap.size + 3) by omega)
   have HB7 : Hid (Below w.heap.size w V6) := by show Below _ _ _; rw [← hV6]; exact (HB6.out.setCell (p := ⟨w.heap.size + 2, 0, none⟩) (by show _ ≤ w.heap.size + 2; omega) _).setCell (p := ⟨w.heap.size + 2, 1, none⟩) (by show _ ≤ w.heap.size + 2; omega) _
   rw [hV6]
   clear hV6 g0 g1 n0 n1 k11
   refine hK.out _ _ ?_ (fun hHeld => ?_)
   ·exact ⟨H57.out.rng, H127.out.rng⟩
   clear hK K
   try simp only [Act.put, pS]
   refine wpAnyH_done (by kernel_rfl) ?_ _
   try simp only [Act.put, pS]
   go_wp2_with (with_reducible show bodyPost _ _ _ _ _ _
                refine bodyPost_ret (results_cc (p := 10) (u := 11) (ty := 75) (tz := 47) rfl _ _ (w.heap.size + 1) (w.heap.size + 2) 75 47 _ _ _ _ (by rfl) H107.out Tryz.underlying75 rfl info_th (by rfl) H117.out Tryz.underlying47 rfl info_res) rfl ?_
                exact ⟨_, _, _, _, rfl, HXN.out ▸ HT7.out, ⟨_, _, rfl⟩, HB7.out⟩)
  ·obtain ⟨V3, hV3⟩ : ∃ V3, (((W1.setCell ⟨w.heap.size + 3, 0, none⟩ (.int .i64 40)).setCell ⟨w.heap.size + 3, 1, none⟩ (.int .u64 6)).alloc (.cells #[.pointer (some a0), .pointer none, .pointer none] 75)) = V3 := ⟨_, rfl⟩
   obtain ⟨XN, hXN⟩ : ∃ XN : Th, ⟨some qv, none, none⟩ = XN := ⟨_, rfl⟩
   have H53 : Hid (Bk V3 w.heap.size 75 #[.pointer (some a0), .pointer none, .pointer none]) := by show Bk _ _ _ _; rw [← hV3]; exact (bk_set_ne (bk_set_ne H5.out (p := ⟨w.heap.size + 3, 0, none⟩) (show w.heap.size + 3 ≠ w.heap.size by omega)) (p := ⟨w.heap.size + 3, 1, none⟩) (show w.heap.size + 3 ≠ w.heap.size by omega)).alloc _
   have H103 : Hid (Bk V3 (w.heap.size + 1) 75 #[.pointer none, .pointer none, .pointer none]) := by show Bk _ _ _ _; rw [← hV3]; exact (bk_set_ne (bk_set_ne H10.out (p := ⟨w.heap.size + 3, 0, none⟩) (show w.heap.size + 3 ≠ (w.heap.size + 1) by omega)) (p := ⟨w.heap.size + 3, 1, none⟩) (show w.heap.size + 3 ≠ (w.heap.size + 1) by omega)).alloc _
   have H113 : Hid (Bk V3 (w.heap.size + 2) 47 #[.int .i64 0, .int .u64 0]) := by show Bk _ _ _ _; rw [← hV3]; exact (bk_set_ne (bk_set_ne H11.out (p := ⟨w.heap.size + 3, 0, none⟩) (show w.heap.size + 3 ≠ (w.heap.size + 2) by omega)) (p := ⟨w.heap.size + 3, 1, none⟩) (show w.heap.size + 3 ≠ (w.heap.size + 2) by omega)).alloc _
   have H123 : Hid (Bk V3 (w.heap.size + 3) 47 #[.int .i64 40, .int .u64 6]) := by show Bk _ _ _ _; rw [← hV3]; exact ((H12.out.set_ 0 _).set_ 1 _).alloc _
   have HT : Hid (ThIn V3 XN (.pointer (some a0)) (.pointer none) (.pointer none)) := by show ThIn _ _ _ _ _; rw [← hV3, ← hXN]; exact HX.out.below (((HB.out.setCell (p := ⟨w.heap.size + 3, 0, none⟩) (by show _ ≤ w.heap.size + 3; omega) _).setCell (p := ⟨w.heap.size + 3, 1, none⟩) (by show _ ≤ w.heap.size + 3; omega) _).alloc (by simp; omega) _)
   have HB3 : Hid (Below w.heap.size w V3) := by show Below _ _ _; rw [← hV3]; exact ((HB.out.setCell (p := ⟨w.heap.size + 3, 0, none⟩) (by show _ ≤ w.heap.size + 3; omega) _).setCell (p := ⟨w.heap.size + 3, 1, none⟩) (by show _ ≤ w.heap.size + 3; omega) _).alloc (by simp; omega) _
   rw [hV3]
   have HXN0 := Lib.hid hXN
   clear hV3 hXN H5 H10 H11 H12 HB
   clear c0 c1 c2 d0 e0 e1 f0 f1 k5 k10 k11 kf hsz
   have H5 := H53
   have H10 := H103
   have H11 := H113
   have H12 := H123
   have HB := HB3
   clear H53 H103 H113 H123 HB3
   have HXN : Hid (XN = XR) := by show _ = _; rw [← HXR.out, if_neg (by simp [Th.none_]), ← HXN0.out]
   refine wp_region_held_drew (S := (fun w' => w'.rangeAt w.heap.size 0 (#[.pointer (some a0), .pointer none, .pointer none] : Array Value).toList ∧ w'.rangeAt (w.heap.size + 3) 0 [.int .i64 40, .int .u64 6])) (by kernel_rfl) ?_ (fun hHeld => ?_)
   ·exact ⟨H5.out.rng, H12.out.rng⟩
   refine loadA 0 #[.pointer (some a0), .pointer none, .pointer none] Tryz.underlying75 rfl (by kernel_rfl) ?_ ?_
   ·(intro w hSw; exact hSw.1)
   try simp only [Act.put, pS]
   refine loadA 1 #[.int .i64 40, .int .u64 6] Tryz.underlying47 rfl (by kernel_rfl) ?_ ?_
   ·(intro w hSw; exact hSw.2)
   try simp only [Act.put, pS]
   obtain ⟨V4, hV4⟩ : ∃ V4, V3.drew = V4 := ⟨_, rfl⟩
   have H5 : Hid (Bk V4 w.heap.size 75 #[.pointer (some a0), .pointer none, .pointer none]) := by show Bk _ _ _ _; rw [← hV4]; exact H5.out
   have H10 : Hid (Bk V4 (w.heap.size + 1) 75 #[.pointer none, .pointer none, .pointer none]) := by show Bk _ _ _ _; rw [← hV4]; exact H10.out
   have H11 : Hid (Bk V4 (w.heap.size + 2) 47 #[.int .i64 0, .int .u64 0]) := by show Bk _ _ _ _; rw [← hV4]; exact H11.out
   have H12 : Hid (Bk V4 (w.heap.size + 3) 47 #[.int .i64 40, .int .u64 6]) := by show Bk _ _ _ _; rw [← hV4]; exact H12.out
   have HB : Hid (Below w.heap.size w V4) := by show Below _ _ _; rw [← hV4]; exact HB.out.drew
   have HT : Hid (ThIn V4 XN (.pointer (some a0)) (.pointer none) (.pointer none)) := by show ThIn _ _ _ _ _; rw [← hV4]; exact HT.out.below (Below.refl _ _).drew
   rw [hV4] at hHeld ⊢
   clear hV4
   refine comeA 2 fun K hK => ?_
   have g0 := (H10.out.cell 0).trans rfl
   have g1 := (H10.out.cell 1).trans rfl
   have g2 := (H10.out.cell 2).trans rfl
   have n0 := H10.out.frozen 0
   have n1 := H10.out.frozen 1
   have n2 := H10.out.frozen 2
   have k10 := H10.out.lt
   go_simp
   obtain ⟨V5, hV5⟩ : ∃ V5, (((V4.setCell ⟨w.heap.size + 1, 0, none⟩ (.pointer (some a0))).setCell ⟨w.heap.size + 1, 1, none⟩ (.pointer none)).setCell ⟨w.heap.size + 1, 2, none⟩ (.pointer none)) = V5 := ⟨_, rfl⟩
   have HT6 : Hid (ThIn V5 XN (.pointer (some a0)) (.pointer none) (.pointer none)) := by show ThIn _ _ _ _ _; rw [← hV5]; exact ((HT.out.set H10.out (by decide) (by decide) (by simp) ⟨w.heap.size + 1, 0, none⟩ rfl _).set (H10.out.set_ 0 _) (by decide) (by decide) (by simp) ⟨w.heap.size + 1, 1, none⟩ rfl _).set ((H10.out.set_ 0 _).set_ 1 _) (by decide) (by decide) (by simp) ⟨w.heap.size + 1, 2, none⟩ rfl _
   have H106 : Hid (Bk V5 (w.heap.size + 1) 75 #[.pointer (some a0), .pointer none, .pointer none]) := by show Bk _ _ _ _; rw [← hV5]; exact ((H10.out.set_ 0 _).set_ 1 _).set_ 2 _
   have H56 : Hid (Bk V5 w.heap.size 75 #[.pointer (some a0), .pointer none, .pointer none]) := by show Bk _ _ _ _; rw [← hV5]; exact bk_set_ne (bk_set_ne (bk_set_ne H5.out (p := ⟨w.heap.size + 1, 0, none⟩) (show w.heap.size + 1 ≠ w.heap.size by omega)) (p := ⟨w.heap.size + 1, 1, none⟩) (show w.heap.size + 1 ≠ w.heap.size by omega)) (p := ⟨w.heap.size + 1, 2, none⟩) (show w.heap.size + 1 ≠ w.heap.size by omega)
   have H116 : Hid (Bk V5 (w.heap.size + 2) 47 #[.int .i64 0, .int .u64 0]) := by show Bk _ _ _ _; rw [← hV5]; exact bk_set_ne (bk_set_ne (bk_set_ne H11.out (p := ⟨w.heap.size + 1, 0, none⟩) (show w.heap.size + 1 ≠ (w.heap.size + 2) by omega)) (p := ⟨w.heap.size + 1, 1, none⟩) (show w.heap.size + 1 ≠ (w.heap.size + 2) by omega)) (p := ⟨w.heap.size + 1, 2, none⟩) (show w.heap.size + 1 ≠ (w.heap.size + 2) by omega)
   have H126 : Hid (Bk V5 (w.heap.size + 3) 47 #[.int .i64 40, .int .u64 6]) := by show Bk _ _ _ _; rw [← hV5]; exact bk_set_ne (bk_set_ne (bk_set_ne H12.out (p := ⟨w.heap.size + 1, 0, none⟩) (show w.heap.size + 1 ≠ (w.heap.size + 3) by omega)) (p := ⟨w.heap.size + 1, 1, none⟩) (show w.heap.size + 1 ≠ (w.heap.size + 3) by omega)) (p := ⟨w.heap.size + 1, 2, none⟩) (show w.heap.size + 1 ≠ (w.heap.size + 3) by omega)
   have HB6 : Hid (Below w.heap.size w V5) := by show Below _ _ _; rw [← hV5]; exact ((HB.out.setCell (p := ⟨w.heap.size + 1, 0, none⟩) (Nat.le_succ _) _).setCell (p := ⟨w.heap.size + 1, 1, none⟩) (Nat.le_succ _) _).setCell (p := ⟨w.heap.size + 1, 2, none⟩) (Nat.le_succ _) _
   rw [hV5]
   clear hV5 g0 g1 g2 n0 n1 n2 k10 H5 H10 H11 H12 HB HT
   refine hK.out _ _ ?_ (fun hHeld => ?_)
   ·exact ⟨H56.out.rng, H126.out.rng⟩
   clear hK K
   try simp only [Act.put, pS]
   refine comeA 3 fun K hK => ?_
   have g0 := (H116.out.cell 0).trans rfl
   have g1 := (H116.out.cell 1).trans rfl
   have n0 := H116.out.frozen 0
   have n1 := H116.out.frozen 1
   have k11 := H116.out.lt
   go_simp
   obtain ⟨V6, hV6⟩ : ∃ V6, ((V5.setCell ⟨w.heap.size + 2, 0, none⟩ (.int .i64 40)).setCell ⟨w.heap.size + 2, 1, none⟩ (.int .u64 6)) = V6 := ⟨_, rfl⟩
   have HT7 : Hid (ThIn V6 XN (.pointer (some a0)) (.pointer none) (.pointer none)) := by show ThIn _ _ _ _ _; rw [← hV6]; exact (HT6.out.set H116.out (by decide) (by decide) (by simp) ⟨w.heap.size + 2, 0, none⟩ rfl _).set (H116.out.set_ 0 _) (by decide) (by decide) (by simp) ⟨w.heap.size + 2, 1, none⟩ rfl _
   have H117 : Hid (Bk V6 (w.heap.size + 2) 47 #[.int .i64 40, .int .u64 6]) := by show Bk _ _ _ _; rw [← hV6]; exact (H116.out.set_ 0 _).set_ 1 _
   have H57 : Hid (Bk V6 w.heap.size 75 #[.pointer (some a0), .pointer none, .pointer none]) := by show Bk _ _ _ _; rw [← hV6]; exact bk_set_ne (bk_set_ne H56.out (p := ⟨w.heap.size + 2, 0, none⟩) (show w.heap.size + 2 ≠ w.heap.size by omega)) (p := ⟨w.heap.size + 2, 1, none⟩) (show w.heap.size + 2 ≠ w.heap.size by omega)
   have H107 : Hid (Bk V6 (w.heap.size + 1) 75 #[.pointer (some a0), .pointer none, .pointer none]) := by show Bk _ _ _ _; rw [← hV6]; exact bk_set_ne (bk_set_ne H106.out (p := ⟨w.heap.size + 2, 0, none⟩) (show w.heap.size + 2 ≠ (w.heap.size + 1) by omega)) (p := ⟨w.heap.size + 2, 1, none⟩) (show w.heap.size + 2 ≠ (w.heap.size + 1) by omega)
   have H127 : Hid (Bk V6 (w.heap.size + 3) 47 #[.int .i64 40, .int .u64 6]) := by show Bk _ _ _ _; rw [← hV6]; exact bk_set_ne (bk_set_ne H126.out (p := ⟨w.heap.size + 2, 0, none⟩) (show w.heap.size + 2 ≠ (w.heap.size + 3) by omega)) (p := ⟨w.heap.size + 2, 1, none⟩) (show w.heap.size + 2 ≠ (w.heap.size + 3) by omega)
   have HB7 : Hid (Below w.heap.size w V6) := by show Below _ _ _; rw [← hV6]; exact (HB6.out.setCell (p := ⟨w.heap.size + 2, 0, none⟩) (by show _ ≤ w.heap.size + 2; omega) _).setCell (p := ⟨w.heap.size + 2, 1, none⟩) (by show _ ≤ w.heap.size + 2; omega) _
   rw [hV6]
   clear hV6 g0 g1 n0 n1 k11
   refine hK.out _ _ ?_ (fun hHeld => ?_)
   ·exact ⟨H57.out.rng, H127.out.rng⟩
   clear hK K
   try simp only [Act.put, pS]
   refine wpAnyH_done (by kernel_rfl) ?_ _
   try simp only [Act.put, pS]
   go_wp2_with (with_reducible show bodyPost _ _ _ _ _ _
                refine bodyPost_ret (results_cc (p := 10) (u := 11) (ty := 75) (tz := 47) rfl _ _ (w.heap.size + 1) (w.heap.size + 2) 75 47 _ _ _ _ (by rfl) H107.out Tryz.underlying75 rfl info_th (by rfl) H117.out Tryz.underlying47 rfl info_res) rfl ?_
                exact ⟨_, _, _, _, rfl, HXN.out ▸ HT7.out, ⟨_, _, rfl⟩, HB7.out⟩)
set_option maxRecDepth 100000 in
set_option maxHeartbeats 8000000 in
theorem does_t (x : Th) (what : ByteArray) (k : Nat) (a b : Int) (a0 a1 a2 : Option Addr) (w : World) (hx : ThIn w x (.pointer a0) (.pointer a1) (.pointer a2)) (hok : x.Ok 100) (hd : ∀ (o : PO) (p : Value) (W : World), TIn W p o → TOk 100 o → Calls Tryz.prog 46 #[p, .string what, .int .u64 a, .int .u64 b] W (DoesT W (tP k a b o))) :
 Calls Tryz.prog 20 #[.agg #[.pointer a0, .pointer a1, .pointer a2], .string ⟨#[116, 97, 98, 108, 101]⟩, .string what, .int .u64 a, .int .u64 b] w (DoesTh w (if x.t.isSome || x.none_ then { x with t := tP k a b x.t } else x)) := by
 have HX := Lib.hid hx
 have HOk := Lib.hid hok
 have HD := Lib.hid hd
 clear hd
 obtain ⟨W1, hW1⟩ : ∃ W1, (((w.alloc (.cells #[.pointer a0, .pointer a1, .pointer a2] 75)).alloc (.cells #[.pointer none, .pointer none, .pointer none] 75)).alloc (.cells #[.int .i64 0, .int .u64 0] 47)).alloc (.cells #[.int .i64 0, .int .u64 0] 47) = W1 := ⟨_, rfl⟩
 have hfb := four_blocks w #[.pointer a0, .pointer a1, .pointer a2] #[.pointer none, .pointer none, .pointer none] #[.int .i64 0, .int .u64 0] #[.int .i64 0, .int .u64 0] 75 75 47 47
 simp only [hW1] at hfb
 have H5 := Lib.hid hfb.1
 have H10 := Lib.hid hfb.2.1
 have H11 := Lib.hid hfb.2.2.1
 have H12 := Lib.hid hfb.2.2.2.1
 have HB := Lib.hid hfb.2.2.2.2
 have HW1 := Lib.hid hW1
 clear hfb hW1
 have c0 := (H5.out.cell 0).trans rfl
 have c1 := (H5.out.cell 1).trans rfl
 have c2 := (H5.out.cell 2).trans rfl
 have k5 := H5.out.lt
 have k10 := H10.out.lt
 have k11 := H11.out.lt
 have kf := H12.out.lt
 have hsz := HB.out.size
 obtain ⟨XR, hXR⟩ : ∃ XR, (if x.t.isSome || x.none_ then { x with t := tP k a b x.t } else x) = XR := ⟨_, rfl⟩
 rw [hXR]
 have HXR := Lib.hid hXR
 clear hXR
 obtain ⟨q, c, t⟩ := x
 have hone := hok.one
 simp only at hone
 go_enter Tryz.func20, Tryz.ntmps20
 go_upto_region 3 with fail
 rw [HW1.out]
 clear HW1
 clear hx
 rcases q with _ | qv
 ·rcases c with _ | cv
  ·rcases t with _ | tv
   ·clear hone
    have hn0 : (Value.pointer a0) = .pointer none := HX.out.q
    have hn1 : (Value.pointer a1) = .pointer none := HX.out.c
    have hn2 : (Value.pointer a2) = .pointer none := HX.out.t
    injection hn0 with hn0
    subst hn0
    injection hn1 with hn1
    subst hn1
    injection hn2 with hn2
    subst hn2
    have HCd : Hid (((⟨none, none, none⟩ : Th).t.isSome || (⟨none, none, none⟩ : Th).none_) = true) := rfl
    go_wp2_with (go_at_call 43; go_in)
    have HBx := Lib.hid (HB.out.alloc HB.out.size (.cells #[.pointer none, .pointer none, .pointer none] 75))
    have H5 := Lib.hid (H5.out.alloc (.cells #[.pointer none, .pointer none, .pointer none] 75))
    have H10 := Lib.hid (H10.out.alloc (.cells #[.pointer none, .pointer none, .pointer none] 75))
    have H11 := Lib.hid (H11.out.alloc (.cells #[.pointer none, .pointer none, .pointer none] 75))
    have H12 := Lib.hid (H12.out.alloc (.cells #[.pointer none, .pointer none, .pointer none] 75))
    clear HB
    have HB := HBx
    clear HBx
    refine (HD.out _ _ (W1.alloc (.cells #[.pointer none, .pointer none, .pointer none] 75)) ((HX.out.t).below HB.out) HOk.out.t).mono ?_
    rintro e w5 ⟨p5, r5, rfl, hq5, ⟨pa5, rfl⟩, ⟨c5, u5, rfl⟩, hb5⟩
    have HQ5 := Lib.hid hq5
    have H5 := Lib.hid (H5.out.below hb5 H5.out.lt)
    have H10 := Lib.hid (H10.out.below hb5 H10.out.lt)
    have H11 := Lib.hid (H11.out.below hb5 H11.out.lt)
    have H12 := Lib.hid (H12.out.below hb5 H12.out.lt)
    have HB := Lib.hid (HB.out.trans (hb5.mono HB.out.size))
    clear hq5 hb5 c0 c1 c2 k5 k10 k11 kf hsz
    have c0 := (H5.out.cell 0).trans rfl
    have c1 := (H5.out.cell 1).trans rfl
    have c2 := (H5.out.cell 2).trans rfl
    have d0 := H5.out.frozen 2
    have e0 := (H12.out.cell 0).trans rfl
    have e1 := (H12.out.cell 1).trans rfl
    have f0 := H12.out.frozen 0
    have f1 := H12.out.frozen 1
    have k5 := H5.out.lt
    have k10 := H10.out.lt
    have k11 := H11.out.lt
    have kf := H12.out.lt
    have hsz := HB.out.size
    have HT0 : Hid (ThIn w5 ⟨none, none, tP k a b (none)⟩ (.pointer none) (.pointer none) (.pointer pa5)) := ⟨HX.out.q.below HB.out, HX.out.c.below HB.out, HQ5.out⟩
    go_upto_region 11 with fail
    obtain ⟨V3, hV3⟩ : ∃ V3, (((w5.setCell ⟨w.heap.size, 2, none⟩ (.pointer pa5)).setCell ⟨w.heap.size + 3, 0, none⟩ (.int .i64 c5)).setCell ⟨w.heap.size + 3, 1, none⟩ (.int .u64 u5)) = V3 := ⟨_, rfl⟩
    obtain ⟨XN, hXN⟩ : ∃ XN : Th, ⟨none, none, tP k a b (none)⟩ = XN := ⟨_, rfl⟩
    rw [hXN] at HT0
    have H53 : Hid (Bk V3 w.heap.size 75 #[.pointer none, .pointer none, .pointer pa5]) := by show Bk _ _ _ _; rw [← hV3]; exact bk_set_ne (bk_set_ne (H5.out.set_ 2 _) (p := ⟨w.heap.size + 3, 0, none⟩) (show w.heap.size + 3 ≠ w.heap.size by omega)) (p := ⟨w.heap.size + 3, 1, none⟩) (show w.heap.size + 3 ≠ w.heap.size by omega)
    have H103 : Hid (Bk V3 (w.heap.size + 1) 75 #[.pointer none, .pointer none, .pointer none]) := by show Bk _ _ _ _; rw [← hV3]; exact bk_set_ne (bk_set_ne (bk_set_ne H10.out (p := ⟨w.heap.size, 2, none⟩) (show w.heap.size ≠ (w.heap.size + 1) by omega)) (p := ⟨w.heap.size + 3, 0, none⟩) (show w.heap.size + 3 ≠ (w.heap.size + 1) by omega)) (p := ⟨w.heap.size + 3, 1, none⟩) (show w.heap.size + 3 ≠ (w.heap.size + 1) by omega)
    have H113 : Hid (Bk V3 (w.heap.size + 2) 47 #[.int .i64 0, .int .u64 0]) := by show Bk _ _ _ _; rw [← hV3]; exact bk_set_ne (bk_set_ne (bk_set_ne H11.out (p := ⟨w.heap.size, 2, none⟩) (show w.heap.size ≠ (w.heap.size + 2) by omega)) (p := ⟨w.heap.size + 3, 0, none⟩) (show w.heap.size + 3 ≠ (w.heap.size + 2) by omega)) (p := ⟨w.heap.size + 3, 1, none⟩) (show w.heap.size + 3 ≠ (w.heap.size + 2) by omega)
    have H12x := Lib.hid (bk_set_ne H12.out (p := ⟨w.heap.size, 2, none⟩) (u := .pointer pa5) (show w.heap.size ≠ w.heap.size + 3 by omega))
    have H123 : Hid (Bk V3 (w.heap.size + 3) 47 #[.int .i64 c5, .int .u64 u5]) := by show Bk _ _ _ _; rw [← hV3]; exact (H12x.out.set_ 0 _).set_ 1 _
    have HT : Hid (ThIn V3 XN (.pointer none) (.pointer none) (.pointer pa5)) := by show ThIn _ _ _ _ _; rw [← hV3]; exact ((HT0.out.set H5.out (by decide) (by decide) (by simp) ⟨w.heap.size, 2, none⟩ rfl _).set H12x.out (by decide) (by decide) (by simp) ⟨w.heap.size + 3, 0, none⟩ rfl _).set (H12x.out.set_ 0 _) (by decide) (by decide) (by simp) ⟨w.heap.size + 3, 1, none⟩ rfl _
    have HB3 : Hid (Below w.heap.size w V3) := by show Below _ _ _; rw [← hV3]; exact ((HB.out.setCell (p := ⟨w.heap.size, 2, none⟩) (Nat.le_refl _) _).setCell (p := ⟨w.heap.size + 3, 0, none⟩) (by show _ ≤ w.heap.size + 3; omega) _).setCell (p := ⟨w.heap.size + 3, 1, none⟩) (by show _ ≤ w.heap.size + 3; omega) _
    rw [hV3]
    have HXN0 := Lib.hid hXN
    clear hV3 hXN HT0 HQ5 H5 H10 H11 H12 H12x HB
    clear c0 c1 c2 d0 e0 e1 f0 f1 k5 k10 k11 kf hsz
    have H5 := H53
    have H10 := H103
    have H11 := H113
    have H12 := H123
    have HB := HB3
    clear H53 H103 H113 H123 HB3
    have HXN : Hid (XN = XR) := by show _ = _; rw [← HXR.out, if_pos (HCd.out), ← HXN0.out]
    refine wp_region_held_drew (S := (fun w' => w'.rangeAt w.heap.size 0 (#[.pointer none, .pointer none, .pointer pa5] : Array Value).toList ∧ w'.rangeAt (w.heap.size + 3) 0 [.int .i64 c5, .int .u64 u5])) (by kernel_rfl) ?_ (fun hHeld => ?_)
    ·exact ⟨H5.out.rng, H12.out.rng⟩
    refine loadA 0 #[.pointer none, .pointer none, .pointer pa5] Tryz.underlying75 rfl (by kernel_rfl) ?_ ?_
    ·(intro w hSw; exact hSw.1)
    try simp only [Act.put, pS]
    refine loadA 1 #[.int .i64 c5, .int .u64 u5] Tryz.underlying47 rfl (by kernel_rfl) ?_ ?_
    ·(intro w hSw; exact hSw.2)
    try simp only [Act.put, pS]
    obtain ⟨V4, hV4⟩ : ∃ V4, V3.drew = V4 := ⟨_, rfl⟩
    have H5 : Hid (Bk V4 w.heap.size 75 #[.pointer none, .pointer none, .pointer pa5]) := by show Bk _ _ _ _; rw [← hV4]; exact H5.out
    have H10 : Hid (Bk V4 (w.heap.size + 1) 75 #[.pointer none, .pointer none, .pointer none]) := by show Bk _ _ _ _; rw [← hV4]; exact H10.out
    have H11 : Hid (Bk V4 (w.heap.size + 2) 47 #[.int .i64 0, .int .u64 0]) := by show Bk _ _ _ _; rw [← hV4]; exact H11.out
    have H12 : Hid (Bk V4 (w.heap.size + 3) 47 #[.int .i64 c5, .int .u64 u5]) := by show Bk _ _ _ _; rw [← hV4]; exact H12.out
    have HB : Hid (Below w.heap.size w V4) := by show Below _ _ _; rw [← hV4]; exact HB.out.drew
    have HT : Hid (ThIn V4 XN (.pointer none) (.pointer none) (.pointer pa5)) := by show ThIn _ _ _ _ _; rw [← hV4]; exact HT.out.below (Below.refl _ _).drew
    rw [hV4] at hHeld ⊢
    clear hV4
    refine comeA 2 fun K hK => ?_
    have g0 := (H10.out.cell 0).trans rfl
    have g1 := (H10.out.cell 1).trans rfl
    have g2 := (H10.out.cell 2).trans rfl
    have n0 := H10.out.frozen 0
    have n1 := H10.out.frozen 1
    have n2 := H10.out.frozen 2
    have k10 := H10.out.lt
    go_simp
    obtain ⟨V5, hV5⟩ : ∃ V5, (((V4.setCell ⟨w.heap.size + 1, 0, none⟩ (.pointer none)).setCell ⟨w.heap.size + 1, 1, none⟩ (.pointer none)).setCell ⟨w.heap.size + 1, 2, none⟩ (.pointer pa5)) = V5 := ⟨_, rfl⟩
    have HT6 : Hid (ThIn V5 XN (.pointer none) (.pointer none) (.pointer pa5)) := by show ThIn _ _ _ _ _; rw [← hV5]; exact ((HT.out.set H10.out (by decide) (by decide) (by simp) ⟨w.heap.size + 1, 0, none⟩ rfl _).set (H10.out.set_ 0 _) (by decide) (by decide) (by simp) ⟨w.heap.size + 1, 1, none⟩ rfl _).set ((H10.out.set_ 0 _).set_ 1 _) (by decide) (by decide) (by simp) ⟨w.heap.size + 1, 2, none⟩ rfl _
    have H106 : Hid (Bk V5 (w.heap.size + 1) 75 #[.pointer none, .pointer none, .pointer pa5]) := by show Bk _ _ _ _; rw [← hV5]; exact ((H10.out.set_ 0 _).set_ 1 _).set_ 2 _
    have H56 : Hid (Bk V5 w.heap.size 75 #[.pointer none, .pointer none, .pointer pa5]) := by show Bk _ _ _ _; rw [← hV5]; exact bk_set_ne (bk_set_ne (bk_set_ne H5.out (p := ⟨w.heap.size + 1, 0, none⟩) (show w.heap.size + 1 ≠ w.heap.size by omega)) (p := ⟨w.heap.size + 1, 1, none⟩) (show w.heap.size + 1 ≠ w.heap.size by omega)) (p := ⟨w.heap.size + 1, 2, none⟩) (show w.heap.size + 1 ≠ w.heap.size by omega)
    have H116 : Hid (Bk V5 (w.heap.size + 2) 47 #[.int .i64 0, .int .u64 0]) := by show Bk _ _ _ _; rw [← hV5]; exact bk_set_ne (bk_set_ne (bk_set_ne H11.out (p := ⟨w.heap.size + 1, 0, none⟩) (show w.heap.size + 1 ≠ (w.heap.size + 2) by omega)) (p := ⟨w.heap.size + 1, 1, none⟩) (show w.heap.size + 1 ≠ (w.heap.size + 2) by omega)) (p := ⟨w.heap.size + 1, 2, none⟩) (show w.heap.size + 1 ≠ (w.heap.size + 2) by omega)
    have H126 : Hid (Bk V5 (w.heap.size + 3) 47 #[.int .i64 c5, .int .u64 u5]) := by show Bk _ _ _ _; rw [← hV5]; exact bk_set_ne (bk_set_ne (bk_set_ne H12.out (p := ⟨w.heap.size + 1, 0, none⟩) (show w.heap.size + 1 ≠ (w.heap.size + 3) by omega)) (p := ⟨w.heap.size + 1, 1, none⟩) (show w.heap.size + 1 ≠ (w.heap.size + 3) by omega)) (p := ⟨w.heap.size + 1, 2, none⟩) (show w.heap.size + 1 ≠ (w.heap.size + 3) by omega)
    have HB6 : Hid (Below w.heap.size w V5) := by show Below _ _ _; rw [← hV5]; exact ((HB.out.setCell (p := ⟨w.heap.size + 1, 0, none⟩) (Nat.le_succ _) _).setCell (p := ⟨w.heap.size + 1, 1, none⟩) (Nat.le_succ _) _).setCell (p := ⟨w.heap.size + 1, 2, none⟩) (Nat.le_succ _) _
    rw [hV5]
    clear hV5 g0 g1 g2 n0 n1 n2 k10 H5 H10 H11 H12 HB HT
    refine hK.out _ _ ?_ (fun hHeld => ?_)
    ·exact ⟨H56.out.rng, H126.out.rng⟩
    clear hK K
    try simp only [Act.put, pS]
    refine comeA 3 fun K hK => ?_
    have g0 := (H116.out.cell 0).trans rfl
    have g1 := (H116.out.cell 1).trans rfl
    have n0 := H116.out.frozen 0
    have n1 := H116.out.frozen 1
    have k11 := H116.out.lt
    go_simp
    obtain ⟨V6, hV6⟩ : ∃ V6, ((V5.setCell ⟨w.heap.size + 2, 0, none⟩ (.int .i64 c5)).setCell ⟨w.heap.size + 2, 1, none⟩ (.int .u64 u5)) = V6 := ⟨_, rfl⟩
    have HT7 : Hid (ThIn V6 XN (.pointer none) (.pointer none) (.pointer pa5)) := by show ThIn _ _ _ _ _; rw [← hV6]; exact (HT6.out.set H116.out (by decide) (by decide) (by simp) ⟨w.heap.size + 2, 0, none⟩ rfl _).set (H116.out.set_ 0 _) (by decide) (by decide) (by simp) ⟨w.heap.size + 2, 1, none⟩ rfl _
    have H117 : Hid (Bk V6 (w.heap.size + 2) 47 #[.int .i64 c5, .int .u64 u5]) := by show Bk _ _ _ _; rw [← hV6]; exact (H116.out.set_ 0 _).set_ 1 _
    have H57 : Hid (Bk V6 w.heap.size 75 #[.pointer none, .pointer none, .pointer pa5]) := by show Bk _ _ _ _; rw [← hV6]; exact bk_set_ne (bk_set_ne H56.out (p := ⟨w.heap.size + 2, 0, none⟩) (show w.heap.size + 2 ≠ w.heap.size by omega)) (p := ⟨w.heap.size + 2, 1, none⟩) (show w.heap.size + 2 ≠ w.heap.size by omega)
    have H107 : Hid (Bk V6 (w.heap.size + 1) 75 #[.pointer none, .pointer none, .pointer pa5]) := by show Bk _ _ _ _; rw [← hV6]; exact bk_set_ne (bk_set_ne H106.out (p := ⟨w.heap.size + 2, 0, none⟩) (show w.heap.size + 2 ≠ (w.heap.size + 1) by omega)) (p := ⟨w.heap.size + 2, 1, none⟩) (show w.heap.size + 2 ≠ (w.heap.size + 1) by omega)
    have H127 : Hid (Bk V6 (w.heap.size + 3) 47 #[.int .i64 c5, .int .u64 u5]) := by show Bk _ _ _ _; rw [← hV6]; exact bk_set_ne (bk_set_ne H126.out (p := ⟨w.heap.size + 2, 0, none⟩) (show w.heap.size + 2 ≠ (w.heap.size + 3) by omega)) (p := ⟨w.heap.size + 2, 1, none⟩) (show w.heap.size + 2 ≠ (w.heap.size + 3) by omega)
    have HB7 : Hid (Below w.heap.size w V6) := by show Below _ _ _; rw [← hV6]; exact (HB6.out.setCell (p := ⟨w.heap.size + 2, 0, none⟩) (by show _ ≤ w.heap.size + 2; omega) _).setCell (p := ⟨w.heap.size + 2, 1, none⟩) (by show _ ≤ w.heap.size + 2; omega) _
    rw [hV6]
    clear hV6 g0 g1 n0 n1 k11
    refine hK.out _ _ ?_ (fun hHeld => ?_)
    ·exact ⟨H57.out.rng, H127.out.rng⟩
    clear hK K
    try simp only [Act.put, pS]
    refine wpAnyH_done (by kernel_rfl) ?_ _
    try simp only [Act.put, pS]
    go_wp2_with (with_reducible show bodyPost _ _ _ _ _ _
                 refine bodyPost_ret (results_cc (p := 10) (u := 11) (ty := 75) (tz := 47) rfl _ _ (w.heap.size + 1) (w.heap.size + 2) 75 47 _ _ _ _ (by rfl) H107.out Tryz.underlying75 rfl info_th (by rfl) H117.out Tryz.underlying47 rfl info_res) rfl ?_
                 exact ⟨_, _, _, _, rfl, HXN.out ▸ HT7.out, ⟨_, _, rfl⟩, HB7.out⟩)
   ·clear hone
    have hn0 : (Value.pointer a0) = .pointer none := HX.out.q
    have hn1 : (Value.pointer a1) = .pointer none := HX.out.c
    injection hn0 with hn0
    subst hn0
    injection hn1 with hn1
    subst hn1
    obtain ⟨a2', ha⟩ : ∃ z, a2 = some z := by obtain ⟨b, A, n, c, e, _⟩ := HX.out.t; injection e with e; exact ⟨_, e⟩
    subst ha
    obtain ⟨a2, rfl⟩ : ∃ z, z = a2' := ⟨_, rfl⟩
    have HCd : Hid (((⟨none, none, some tv⟩ : Th).t.isSome || (⟨none, none, some tv⟩ : Th).none_) = true) := rfl
    go_wp2_with (go_at_call 43; go_in)
    refine (HD.out _ _ W1 ((HX.out.t).below HB.out) HOk.out.t).mono ?_
    rintro e w5 ⟨p5, r5, rfl, hq5, ⟨pa5, rfl⟩, ⟨c5, u5, rfl⟩, hb5⟩
    have HQ5 := Lib.hid hq5
    have H5 := Lib.hid (H5.out.below hb5 H5.out.lt)
    have H10 := Lib.hid (H10.out.below hb5 H10.out.lt)
    have H11 := Lib.hid (H11.out.below hb5 H11.out.lt)
    have H12 := Lib.hid (H12.out.below hb5 H12.out.lt)
    have HB := Lib.hid (HB.out.trans (hb5.mono HB.out.size))
    clear hq5 hb5 c0 c1 c2 k5 k10 k11 kf hsz
    have c0 := (H5.out.cell 0).trans rfl
    have c1 := (H5.out.cell 1).trans rfl
    have c2 := (H5.out.cell 2).trans rfl
    have d0 := H5.out.frozen 2
    have e0 := (H12.out.cell 0).trans rfl
    have e1 := (H12.out.cell 1).trans rfl
    have f0 := H12.out.frozen 0
    have f1 := H12.out.frozen 1
    have k5 := H5.out.lt
    have k10 := H10.out.lt
    have k11 := H11.out.lt
    have kf := H12.out.lt
    have hsz := HB.out.size
    have HT0 : Hid (ThIn w5 ⟨none, none, tP k a b (some tv)⟩ (.pointer none) (.pointer none) (.pointer pa5)) := ⟨HX.out.q.below HB.out, HX.out.c.below HB.out, HQ5.out⟩
    go_upto_region 11 with fail
    obtain ⟨V3, hV3⟩ : ∃ V3, (((w5.setCell ⟨w.heap.size, 2, none⟩ (.pointer pa5)).setCell ⟨w.heap.size + 3, 0, none⟩ (.int .i64 c5)).setCell ⟨w.heap.size + 3, 1, none⟩ (.int .u64 u5)) = V3 := ⟨_, rfl⟩
    obtain ⟨XN, hXN⟩ : ∃ XN : Th, ⟨none, none, tP k a b (some tv)⟩ = XN := ⟨_, rfl⟩
    rw [hXN] at HT0
    have H53 : Hid (Bk V3 w.heap.size 75 #[.pointer none, .pointer none, .pointer pa5]) := by show Bk _ _ _ _; rw [← hV3]; exact bk_set_ne (bk_set_ne (H5.out.set_ 2 _) (p := ⟨w.heap.size + 3, 0, none⟩) (show w.heap.size + 3 ≠ w.heap.size by omega)) (p := ⟨w.heap.size + 3, 1, none⟩) (show w.heap.size + 3 ≠ w.heap.size by omega)
    have H103 : Hid (Bk V3 (w.heap.size + 1) 75 #[.pointer none, .pointer none, .pointer none]) := by show Bk _ _ _ _; rw [← hV3]; exact bk_set_ne (bk_set_ne (bk_set_ne H10.out (p := ⟨w.heap.size, 2, none⟩) (show w.heap.size ≠ (w.heap.size + 1) by omega)) (p := ⟨w.heap.size + 3, 0, none⟩) (show w.heap.size + 3 ≠ (w.heap.size + 1) by omega)) (p := ⟨w.heap.size + 3, 1, none⟩) (show w.heap.size + 3 ≠ (w.heap.size + 1) by omega)
    have H113 : Hid (Bk V3 (w.heap.size + 2) 47 #[.int .i64 0, .int .u64 0]) := by show Bk _ _ _ _; rw [← hV3]; exact bk_set_ne (bk_set_ne (bk_set_ne H11.out (p := ⟨w.heap.size, 2, none⟩) (show w.heap.size ≠ (w.heap.size + 2) by omega)) (p := ⟨w.heap.size + 3, 0, none⟩) (show w.heap.size + 3 ≠ (w.heap.size + 2) by omega)) (p := ⟨w.heap.size + 3, 1, none⟩) (show w.heap.size + 3 ≠ (w.heap.size + 2) by omega)
    have H12x := Lib.hid (bk_set_ne H12.out (p := ⟨w.heap.size, 2, none⟩) (u := .pointer pa5) (show w.heap.size ≠ w.heap.size + 3 by omega))
    have H123 : Hid (Bk V3 (w.heap.size + 3) 47 #[.int .i64 c5, .int .u64 u5]) := by show Bk _ _ _ _; rw [← hV3]; exact (H12x.out.set_ 0 _).set_ 1 _
    have HT : Hid (ThIn V3 XN (.pointer none) (.pointer none) (.pointer pa5)) := by show ThIn _ _ _ _ _; rw [← hV3]; exact ((HT0.out.set H5.out (by decide) (by decide) (by simp) ⟨w.heap.size, 2, none⟩ rfl _).set H12x.out (by decide) (by decide) (by simp) ⟨w.heap.size + 3, 0, none⟩ rfl _).set (H12x.out.set_ 0 _) (by decide) (by decide) (by simp) ⟨w.heap.size + 3, 1, none⟩ rfl _
    have HB3 : Hid (Below w.heap.size w V3) := by show Below _ _ _; rw [← hV3]; exact ((HB.out.setCell (p := ⟨w.heap.size, 2, none⟩) (Nat.le_refl _) _).setCell (p := ⟨w.heap.size + 3, 0, none⟩) (by show _ ≤ w.heap.size + 3; omega) _).setCell (p := ⟨w.heap.size + 3, 1, none⟩) (by show _ ≤ w.heap.size + 3; omega) _
    rw [hV3]
    have HXN0 := Lib.hid hXN
    clear hV3 hXN HT0 HQ5 H5 H10 H11 H12 H12x HB
    clear c0 c1 c2 d0 e0 e1 f0 f1 k5 k10 k11 kf hsz
    have H5 := H53
    have H10 := H103
    have H11 := H113
    have H12 := H123
    have HB := HB3
    clear H53 H103 H113 H123 HB3
    have HXN : Hid (XN = XR) := by show _ = _; rw [← HXR.out, if_pos (HCd.out), ← HXN0.out]
    refine wp_region_held_drew (S := (fun w' => w'.rangeAt w.heap.size 0 (#[.pointer none, .pointer none, .pointer pa5] : Array Value).toList ∧ w'.rangeAt (w.heap.size + 3) 0 [.int .i64 c5, .int .u64 u5])) (by kernel_rfl) ?_ (fun hHeld => ?_)
    ·exact ⟨H5.out.rng, H12.out.rng⟩
    refine loadA 0 #[.pointer none, .pointer none, .pointer pa5] Tryz.underlying75 rfl (by kernel_rfl) ?_ ?_
    ·(intro w hSw; exact hSw.1)
    try simp only [Act.put, pS]
    refine loadA 1 #[.int .i64 c5, .int .u64 u5] Tryz.underlying47 rfl (by kernel_rfl) ?_ ?_
    ·(intro w hSw; exact hSw.2)
    try simp only [Act.put, pS]
    obtain ⟨V4, hV4⟩ : ∃ V4, V3.drew = V4 := ⟨_, rfl⟩
    have H5 : Hid (Bk V4 w.heap.size 75 #[.pointer none, .pointer none, .pointer pa5]) := by show Bk _ _ _ _; rw [← hV4]; exact H5.out
    have H10 : Hid (Bk V4 (w.heap.size + 1) 75 #[.pointer none, .pointer none, .pointer none]) := by show Bk _ _ _ _; rw [← hV4]; exact H10.out
    have H11 : Hid (Bk V4 (w.heap.size + 2) 47 #[.int .i64 0, .int .u64 0]) := by show Bk _ _ _ _; rw [← hV4]; exact H11.out
    have H12 : Hid (Bk V4 (w.heap.size + 3) 47 #[.int .i64 c5, .int .u64 u5]) := by show Bk _ _ _ _; rw [← hV4]; exact H12.out
    have HB : Hid (Below w.heap.size w V4) := by show Below _ _ _; rw [← hV4]; exact HB.out.drew
    have HT : Hid (ThIn V4 XN (.pointer none) (.pointer none) (.pointer pa5)) := by show ThIn _ _ _ _ _; rw [← hV4]; exact HT.out.below (Below.refl _ _).drew
    rw [hV4] at hHeld ⊢
    clear hV4
    refine comeA 2 fun K hK => ?_
    have g0 := (H10.out.cell 0).trans rfl
    have g1 := (H10.out.cell 1).trans rfl
    have g2 := (H10.out.cell 2).trans rfl
    have n0 := H10.out.frozen 0
    have n1 := H10.out.frozen 1
    have n2 := H10.out.frozen 2
    have k10 := H10.out.lt
    go_simp
    obtain ⟨V5, hV5⟩ : ∃ V5, (((V4.setCell ⟨w.heap.size + 1, 0, none⟩ (.pointer none)).setCell ⟨w.heap.size + 1, 1, none⟩ (.pointer none)).setCell ⟨w.heap.size + 1, 2, none⟩ (.pointer pa5)) = V5 := ⟨_, rfl⟩
    have HT6 : Hid (ThIn V5 XN (.pointer none) (.pointer none) (.pointer pa5)) := by show ThIn _ _ _ _ _; rw [← hV5]; exact ((HT.out.set H10.out (by decide) (by decide) (by simp) ⟨w.heap.size + 1, 0, none⟩ rfl _).set (H10.out.set_ 0 _) (by decide) (by decide) (by simp) ⟨w.heap.size + 1, 1, none⟩ rfl _).set ((H10.out.set_ 0 _).set_ 1 _) (by decide) (by decide) (by simp) ⟨w.heap.size + 1, 2, none⟩ rfl _
    have H106 : Hid (Bk V5 (w.heap.size + 1) 75 #[.pointer none, .pointer none, .pointer pa5]) := by show Bk _ _ _ _; rw [← hV5]; exact ((H10.out.set_ 0 _).set_ 1 _).set_ 2 _
    have H56 : Hid (Bk V5 w.heap.size 75 #[.pointer none, .pointer none, .pointer pa5]) := by show Bk _ _ _ _; rw [← hV5]; exact bk_set_ne (bk_set_ne (bk_set_ne H5.out (p := ⟨w.heap.size + 1, 0, none⟩) (show w.heap.size + 1 ≠ w.heap.size by omega)) (p := ⟨w.heap.size + 1, 1, none⟩) (show w.heap.size + 1 ≠ w.heap.size by omega)) (p := ⟨w.heap.size + 1, 2, none⟩) (show w.heap.size + 1 ≠ w.heap.size by omega)
    have H116 : Hid (Bk V5 (w.heap.size + 2) 47 #[.int .i64 0, .int .u64 0]) := by show Bk _ _ _ _; rw [← hV5]; exact bk_set_ne (bk_set_ne (bk_set_ne H11.out (p := ⟨w.heap.size + 1, 0, none⟩) (show w.heap.size + 1 ≠ (w.heap.size + 2) by omega)) (p := ⟨w.heap.size + 1, 1, none⟩) (show w.heap.size + 1 ≠ (w.heap.size + 2) by omega)) (p := ⟨w.heap.size + 1, 2, none⟩) (show w.heap.size + 1 ≠ (w.heap.size + 2) by omega)
    have H126 : Hid (Bk V5 (w.heap.size + 3) 47 #[.int .i64 c5, .int .u64 u5]) := by show Bk _ _ _ _; rw [← hV5]; exact bk_set_ne (bk_set_ne (bk_set_ne H12.out (p := ⟨w.heap.size + 1, 0, none⟩) (show w.heap.size + 1 ≠ (w.heap.size + 3) by omega)) (p := ⟨w.heap.size + 1, 1, none⟩) (show w.heap.size + 1 ≠ (w.heap.size + 3) by omega)) (p := ⟨w.heap.size + 1, 2, none⟩) (show w.heap.size + 1 ≠ (w.heap.size + 3) by omega)
    have HB6 : Hid (Below w.heap.size w V5) := by show Below _ _ _; rw [← hV5]; exact ((HB.out.setCell (p := ⟨w.heap.size + 1, 0, none⟩) (Nat.le_succ _) _).setCell (p := ⟨w.heap.size + 1, 1, none⟩) (Nat.le_succ _) _).setCell (p := ⟨w.heap.size + 1, 2, none⟩) (Nat.le_succ _) _
    rw [hV5]
    clear hV5 g0 g1 g2 n0 n1 n2 k10 H5 H10 H11 H12 HB HT
    refine hK.out _ _ ?_ (fun hHeld => ?_)
    ·exact ⟨H56.out.rng, H126.out.rng⟩
    clear hK K
    try simp only [Act.put, pS]
    refine comeA 3 fun K hK => ?_
    have g0 := (H116.out.cell 0).trans rfl
    have g1 := (H116.out.cell 1).trans rfl
    have n0 := H116.out.frozen 0
    have n1 := H116.out.frozen 1
    have k11 := H116.out.lt
    go_simp
    obtain ⟨V6, hV6⟩ : ∃ V6, ((V5.setCell ⟨w.heap.size + 2, 0, none⟩ (.int .i64 c5)).setCell ⟨w.heap.size + 2, 1, none⟩ (.int .u64 u5)) = V6 := ⟨_, rfl⟩
    have HT7 : Hid (ThIn V6 XN (.pointer none) (.pointer none) (.pointer pa5)) := by show ThIn _ _ _ _ _; rw [← hV6]; exact (HT6.out.set H116.out (by decide) (by decide) (by simp) ⟨w.heap.size + 2, 0, none⟩ rfl _).set (H116.out.set_ 0 _) (by decide) (by decide) (by simp) ⟨w.heap.size + 2, 1, none⟩ rfl _
    have H117 : Hid (Bk V6 (w.heap.size + 2) 47 #[.int .i64 c5, .int .u64 u5]) := by show Bk _ _ _ _; rw [← hV6]; exact (H116.out.set_ 0 _).set_ 1 _
    have H57 : Hid (Bk V6 w.heap.size 75 #[.pointer none, .pointer none, .pointer pa5]) := by show Bk _ _ _ _; rw [← hV6]; exact bk_set_ne (bk_set_ne H56.out (p := ⟨w.heap.size + 2, 0, none⟩) (show w.heap.size + 2 ≠ w.heap.size by omega)) (p := ⟨w.heap.size + 2, 1, none⟩) (show w.heap.size + 2 ≠ w.heap.size by omega)
    have H107 : Hid (Bk V6 (w.heap.size + 1) 75 #[.pointer none, .pointer none, .pointer pa5]) := by show Bk _ _ _ _; rw [← hV6]; exact bk_set_ne (bk_set_ne H106.out (p := ⟨w.heap.size + 2, 0, none⟩) (show w.heap.size + 2 ≠ (w.heap.size + 1) by omega)) (p := ⟨w.heap.size + 2, 1, none⟩) (show w.heap.size + 2 ≠ (w.heap.size + 1) by omega)
    have H127 : Hid (Bk V6 (w.heap.size + 3) 47 #[.int .i64 c5, .int .u64 u5]) := by show Bk _ _ _ _; rw [← hV6]; exact bk_set_ne (bk_set_ne H126.out (p := ⟨w.heap.size + 2, 0, none⟩) (show w.heap.size + 2 ≠ (w.heap.size + 3) by omega)) (p := ⟨w.heap.size + 2, 1, none⟩) (show w.heap.size + 2 ≠ (w.heap.size + 3) by omega)
    have HB7 : Hid (Below w.heap.size w V6) := by show Below _ _ _; rw [← hV6]; exact (HB6.out.setCell (p := ⟨w.heap.size + 2, 0, none⟩) (by show _ ≤ w.heap.size + 2; omega) _).setCell (p := ⟨w.heap.size + 2, 1, none⟩) (by show _ ≤ w.heap.size + 2; omega) _
    rw [hV6]
    clear hV6 g0 g1 n0 n1 k11
    refine hK.out _ _ ?_ (fun hHeld => ?_)
    ·exact ⟨H57.out.rng, H127.out.rng⟩
    clear hK K
    try simp only [Act.put, pS]
    refine wpAnyH_done (by kernel_rfl) ?_ _
    try simp only [Act.put, pS]
    go_wp2_with (with_reducible show bodyPost _ _ _ _ _ _
                 refine bodyPost_ret (results_cc (p := 10) (u := 11) (ty := 75) (tz := 47) rfl _ _ (w.heap.size + 1) (w.heap.size + 2) 75 47 _ _ _ _ (by rfl) H107.out Tryz.underlying75 rfl info_th (by rfl) H117.out Tryz.underlying47 rfl info_res) rfl ?_
                 exact ⟨_, _, _, _, rfl, HXN.out ▸ HT7.out, ⟨_, _, rfl⟩, HB7.out⟩)
  ·obtain rfl : t = none := by rcases hone with h | h | h <;> simp_all
   clear hone
   have hn0 : (Value.pointer a0) = .pointer none := HX.out.q
   have hn2 : (Value.pointer a2) = .pointer none := HX.out.t
   injection hn0 with hn0
   subst hn0
   injection hn2 with hn2
   subst hn2
   obtain ⟨a1', ha⟩ : ∃ z, a1 = some z := by obtain ⟨b, A, n, c, e, _⟩ := HX.out.c; injection e with e; exact ⟨_, e⟩
   subst ha
   obtain ⟨a1, rfl⟩ : ∃ z, z = a1' := ⟨_, rfl⟩
   clear c0 c1 c2 k5 k10 k11 kf hsz
   have c0 := (H5.out.cell 0).trans rfl
   have c1 := (H5.out.cell 1).trans rfl
   have c2 := (H5.out.cell 2).trans rfl
   have d0 := H5.out.frozen 2
   have e0 := (H12.out.cell 0).trans rfl
   have e1 := (H12.out.cell 1).trans rfl
   have f0 := H12.out.frozen 0
   have f1 := H12.out.frozen 1
   have k5 := H5.out.lt
   have k10 := H10.out.lt
   have k11 := H11.out.lt
   have kf := H12.out.lt
   have hsz := HB.out.size
   go_upto_region 11 with (go_at_call 43; go_in)
   ·obtain ⟨V3, hV3⟩ : ∃ V3, (((W1.setCell ⟨w.heap.size + 3, 0, none⟩ (.int .i64 40)).setCell ⟨w.heap.size + 3, 1, none⟩ (.int .u64 4)).alloc (.cells #[.pointer none, .pointer (some a1), .pointer none] 75)) = V3 := ⟨_, rfl⟩
    obtain ⟨XN, hXN⟩ : ∃ XN : Th, ⟨none, some cv, none⟩ = XN := ⟨_, rfl⟩
    have H53 : Hid (Bk V3 w.heap.size 75 #[.pointer none, .pointer (some a1), .pointer none]) := by show Bk _ _ _ _; rw [← hV3]; exact (bk_set_ne (bk_set_ne H5.out (p := ⟨w.heap.size + 3, 0, none⟩) (show w.heap.size + 3 ≠ w.heap.size by omega)) (p := ⟨w.heap.size + 3, 1, none⟩) (show w.heap.size + 3 ≠ w.heap.size by omega)).alloc _
    have H103 : Hid (Bk V3 (w.heap.size + 1) 75 #[.pointer none, .pointer none, .pointer none]) := by show Bk _ _ _ _; rw [← hV3]; exact (bk_set_ne (bk_set_ne H10.out (p := ⟨w.heap.size + 3, 0, none⟩) (show w.heap.size + 3 ≠ (w.heap.size + 1) by omega)) (p := ⟨w.heap.size + 3, 1, none⟩) (show w.heap.size + 3 ≠ (w.heap.size + 1) by omega)).alloc _
    have H113 : Hid (Bk V3 (w.heap.size + 2) 47 #[.int .i64 0, .int .u64 0]) := by show Bk _ _ _ _; rw [← hV3]; exact (bk_set_ne (bk_set_ne H11.out (p := ⟨w.heap.size + 3, 0, none⟩) (show w.heap.size + 3 ≠ (w.heap.size + 2) by omega)) (p := ⟨w.heap.size + 3, 1, none⟩) (show w.heap.size + 3 ≠ (w.heap.size + 2) by omega)).alloc _
    have H123 : Hid (Bk V3 (w.heap.size + 3) 47 #[.int .i64 40, .int .u64 4]) := by show Bk _ _ _ _; rw [← hV3]; exact ((H12.out.set_ 0 _).set_ 1 _).alloc _
    have HT : Hid (ThIn V3 XN (.pointer none) (.pointer (some a1)) (.pointer none)) := by show ThIn _ _ _ _ _; rw [← hV3, ← hXN]; exact HX.out.below (((HB.out.setCell (p := ⟨w.heap.size + 3, 0, none⟩) (by show _ ≤ w.heap.size + 3; omega) _).setCell (p := ⟨w.heap.size + 3, 1, none⟩) (by show _ ≤ w.heap.size + 3; omega) _).alloc (by simp; omega) _)
    have HB3 : Hid (Below w.heap.size w V3) := by show Below _ _ _; rw [← hV3]; exact ((HB.out.setCell (p := ⟨w.heap.size + 3, 0, none⟩) (by show _ ≤ w.heap.size + 3; omega) _).setCell (p := ⟨w.heap.size + 3, 1, none⟩) (by show _ ≤ w.heap.size + 3; omega) _).alloc (by simp; omega) _
    rw [hV3]
    have HXN0 := Lib.hid hXN
    clear hV3 hXN H5 H10 H11 H12 HB
    clear c0 c1 c2 d0 e0 e1 f0 f1 k5 k10 k11 kf hsz
    have H5 := H53
    have H10 := H103
    have H11 := H113
    have H12 := H123
    have HB := HB3
    clear H53 H103 H113 H123 HB3
    have HXN : Hid (XN = XR) := by show _ = _; rw [← HXR.out, if_neg (by simp [Th.none_]), ← HXN0.out]
    refine wp_region_held_drew (S := (fun w' => w'.rangeAt w.heap.size 0 (#[.pointer none, .pointer (some a1), .pointer none] : Array Value).toList ∧ w'.rangeAt (w.heap.size + 3) 0 [.int .i64 40, .int .u64 4])) (by kernel_rfl) ?_ (fun hHeld => ?_)
    ·exact ⟨H5.out.rng, H12.out.rng⟩
    refine loadA 0 #[.pointer none, .pointer (some a1), .pointer none] Tryz.underlying75 rfl (by kernel_rfl) ?_ ?_
    ·(intro w hSw; exact hSw.1)
    try simp only [Act.put, pS]
    refine loadA 1 #[.int .i64 40, .int .u64 4] Tryz.underlying47 rfl (by kernel_rfl) ?_ ?_
    ·(intro w hSw; exact hSw.2)
    try simp only [Act.put, pS]
    obtain ⟨V4, hV4⟩ : ∃ V4, V3.drew = V4 := ⟨_, rfl⟩
    have H5 : Hid (Bk V4 w.heap.size 75 #[.pointer none, .pointer (some a1), .pointer none]) := by show Bk _ _ _ _; rw [← hV4]; exact H5.out
    have H10 : Hid (Bk V4 (w.heap.size + 1) 75 #[.pointer none, .pointer none, .pointer none]) := by show Bk _ _ _ _; rw [← hV4]; exact H10.out
    have H11 : Hid (Bk V4 (w.heap.size + 2) 47 #[.int .i64 0, .int .u64 0]) := by show Bk _ _ _ _; rw [← hV4]; exact H11.out
    have H12 : Hid (Bk V4 (w.heap.size + 3) 47 #[.int .i64 40, .int .u64 4]) := by show Bk _ _ _ _; rw [← hV4]; exact H12.out
    have HB : Hid (Below w.heap.size w V4) := by show Below _ _ _; rw [← hV4]; exact HB.out.drew
    have HT : Hid (ThIn V4 XN (.pointer none) (.pointer (some a1)) (.pointer none)) := by show ThIn _ _ _ _ _; rw [← hV4]; exact HT.out.below (Below.refl _ _).drew
    rw [hV4] at hHeld ⊢
    clear hV4
    refine comeA 2 fun K hK => ?_
    have g0 := (H10.out.cell 0).trans rfl
    have g1 := (H10.out.cell 1).trans rfl
    have g2 := (H10.out.cell 2).trans rfl
    have n0 := H10.out.frozen 0
    have n1 := H10.out.frozen 1
    have n2 := H10.out.frozen 2
    have k10 := H10.out.lt
    go_simp
    obtain ⟨V5, hV5⟩ : ∃ V5, (((V4.setCell ⟨w.heap.size + 1, 0, none⟩ (.pointer none)).setCell ⟨w.heap.size + 1, 1, none⟩ (.pointer (some a1))).setCell ⟨w.heap.size + 1, 2, none⟩ (.pointer none)) = V5 := ⟨_, rfl⟩
    have HT6 : Hid (ThIn V5 XN (.pointer none) (.pointer (some a1)) (.pointer none)) := by show ThIn _ _ _ _ _; rw [← hV5]; exact ((HT.out.set H10.out (by decide) (by decide) (by simp) ⟨w.heap.size + 1, 0, none⟩ rfl _).set (H10.out.set_ 0 _) (by decide) (by decide) (by simp) ⟨w.heap.size + 1, 1, none⟩ rfl _).set ((H10.out.set_ 0 _).set_ 1 _) (by decide) (by decide) (by simp) ⟨w.heap.size + 1, 2, none⟩ rfl _
    have H106 : Hid (Bk V5 (w.heap.size + 1) 75 #[.pointer none, .pointer (some a1), .pointer none]) := by show Bk _ _ _ _; rw [← hV5]; exact ((H10.out.set_ 0 _).set_ 1 _).set_ 2 _
    have H56 : Hid (Bk V5 w.heap.size 75 #[.pointer none, .pointer (some a1), .pointer none]) := by show Bk _ _ _ _; rw [← hV5]; exact bk_set_ne (bk_set_ne (bk_set_ne H5.out (p := ⟨w.heap.size + 1, 0, none⟩) (show w.heap.size + 1 ≠ w.heap.size by omega)) (p := ⟨w.heap.size + 1, 1, none⟩) (show w.heap.size + 1 ≠ w.heap.size by omega)) (p := ⟨w.heap.size + 1, 2, none⟩) (show w.heap.size + 1 ≠ w.heap.size by omega)
    have H116 : Hid (Bk V5 (w.heap.size + 2) 47 #[.int .i64 0, .int .u64 0]) := by show Bk _ _ _ _; rw [← hV5]; exact bk_set_ne (bk_set_ne (bk_set_ne H11.out (p := ⟨w.heap.size + 1, 0, none⟩) (show w.heap.size + 1 ≠ (w.heap.size + 2) by omega)) (p := ⟨w.heap.size + 1, 1, none⟩) (show w.heap.size + 1 ≠ (w.heap.size + 2) by omega)) (p := ⟨w.heap.size + 1, 2, none⟩) (show w.heap.size + 1 ≠ (w.heap.size + 2) by omega)
    have H126 : Hid (Bk V5 (w.heap.size + 3) 47 #[.int .i64 40, .int .u64 4]) := by show Bk _ _ _ _; rw [← hV5]; exact bk_set_ne (bk_set_ne (bk_set_ne H12.out (p := ⟨w.heap.size + 1, 0, none⟩) (show w.heap.size + 1 ≠ (w.heap.size + 3) by omega)) (p := ⟨w.heap.size + 1, 1, none⟩) (show w.heap.size + 1 ≠ (w.heap.size + 3) by omega)) (p := ⟨w.heap.size + 1, 2, none⟩) (show w.heap.size + 1 ≠ (w.heap.size + 3) by omega)
    have HB6 : Hid (Below w.heap.size w V5) := by show Below _ _ _; rw [← hV5]; exact ((HB.out.setCell (p := ⟨w.heap.size + 1, 0, none⟩) (Nat.le_succ _) _).setCell (p := ⟨w.heap.size + 1, 1, none⟩) (Nat.le_succ _) _).setCell (p := ⟨w.heap.size + 1, 2, none⟩) (Nat.le_succ _) _
    rw [hV5]
    clear hV5 g0 g1 g2 n0 n1 n2 k10 H5 H10 H11 H12 HB HT
    refine hK.out _ _ ?_ (fun hHeld => ?_)
    ·exact ⟨H56.out.rng, H126.out.rng⟩
    clear hK K
    try simp only [Act.put, pS]
    refine comeA 3 fun K hK => ?_
    have g0 := (H116.out.cell 0).trans rfl
    have g1 := (H116.out.cell 1).trans rfl
    have n0 := H116.out.frozen 0
    have n1 := H116.out.frozen 1
    have k11 := H116.out.lt
    go_simp
    obtain ⟨V6, hV6⟩ : ∃ V6, ((V5.setCell ⟨w.heap.size + 2, 0, none⟩ (.int .i64 40)).setCell ⟨w.heap.size + 2, 1, none⟩ (.int .u64 4)) = V6 := ⟨_, rfl⟩
    have HT7 : Hid (ThIn V6 XN (.pointer none) (.pointer (some a1)) (.pointer none)) := by show ThIn _ _ _ _ _; rw [← hV6]; exact (HT6.out.set H116.out (by decide) (by decide) (by simp) ⟨w.heap.size + 2, 0, none⟩ rfl _).set (H116.out.set_ 0 _) (by decide) (by decide) (by simp) ⟨w.heap.size + 2, 1, none⟩ rfl _
    have H117 : Hid (Bk V6 (w.heap.size + 2) 47 #[.int .i64 40, .int .u64 4]) := by show Bk _ _ _ _; rw [← hV6]; exact (H116.out.set_ 0 _).set_ 1 _
    have H57 : Hid (Bk V6 w.heap.size 75 #[.pointer none, .pointer (some a1), .pointer none]) := by show Bk _ _ _ _; rw [← hV6]; exact bk_set_ne (bk_set_ne H56.out (p := ⟨w.heap.size + 2, 0, none⟩) (show w.heap.size + 2 ≠ w.heap.size by omega)) (p := ⟨w.heap.size + 2, 1, none⟩) (show w.heap.size + 2 ≠ w.heap.size by omega)
    have H107 : Hid (Bk V6 (w.heap.size + 1) 75 #[.pointer none, .pointer (some a1), .pointer none]) := by show Bk _ _ _ _; rw [← hV6]; exact bk_set_ne (bk_set_ne H106.out (p := ⟨w.heap.size + 2, 0, none⟩) (show w.heap.size + 2 ≠ (w.heap.size + 1) by omega)) (p := ⟨w.heap.size + 2, 1, none⟩) (show w.heap.size + 2 ≠ (w.heap.size + 1) by omega)
    have H127 : Hid (Bk V6 (w.heap.size + 3) 47 #[.int .i64 40, .int .u64 4]) := by show Bk _ _ _ _; rw [← hV6]; exact bk_set_ne (bk_set_ne H126.out (p := ⟨w.heap.size + 2, 0, none⟩) (show w.heap.size + 2 ≠ (w.heap.size + 3) by omega)) (p := ⟨w.heap.size + 2, 1, none⟩) (show w.heap.size + 2 ≠ (w.heap.size + 3) by omega)
    have HB7 : Hid (Below w.heap.size w V6) := by show Below _ _ _; rw [← hV6]; exact (HB6.out.setCell (p := ⟨w.heap.size + 2, 0, none⟩) (by show _ ≤ w.heap.size + 2; omega) _).setCell (p := ⟨w.heap.size + 2, 1, none⟩) (by show _ ≤ w.heap.size + 2; omega) _
    rw [hV6]
    clear hV6 g0 g1 n0 n1 k11
    refine hK.out _ _ ?_ (fun hHeld => ?_)
    ·exact ⟨H57.out.rng, H127.out.rng⟩
    clear hK K
    try simp only [Act.put, pS]
    refine wpAnyH_done (by kernel_rfl) ?_ _
    try simp only [Act.put, pS]
    go_wp2_with (with_reducible show bodyPost _ _ _ _ _ _
                 refine bodyPost_ret (results_cc (p := 10) (u := 11) (ty := 75) (tz := 47) rfl _ _ (w.heap.size + 1) (w.heap.size + 2) 75 47 _ _ _ _ (by rfl) H107.out Tryz.underlying75 rfl info_th (by rfl) H117.out Tryz.underlying47 rfl info_res) rfl ?_
                 exact ⟨_, _, _, _, rfl, HXN.out ▸ HT7.out, ⟨_, _, rfl⟩, HB7.out⟩)
   ·obtain ⟨V3, hV3⟩ : ∃ V3, (((W1.setCell ⟨w.heap.size + 3, 0, none⟩ (.int .i64 40)).setCell ⟨w.heap.size + 3, 1, none⟩ (.int .u64 6)).alloc (.cells #[.pointer none, .pointer (some a1), .pointer none] 75)) = V3 := ⟨_, rfl⟩
    obtain ⟨XN, hXN⟩ : ∃ XN : Th, ⟨none, some cv, none⟩ = XN := ⟨_, rfl⟩
    have H53 : Hid (Bk V3 w.heap.size 75 #[.pointer none, .pointer (some a1), .pointer none]) := by show Bk _ _ _ _; rw [← hV3]; exact (bk_set_ne (bk_set_ne H5.out (p := ⟨w.heap.size + 3, 0, none⟩) (show w.heap.size + 3 ≠ w.heap.size by omega)) (p := ⟨w.heap.size + 3, 1, none⟩) (show w.heap.size + 3 ≠ w.heap.size by omega)).alloc _
    have H103 : Hid (Bk V3 (w.heap.size + 1) 75 #[.pointer none, .pointer none, .pointer none]) := by show Bk _ _ _ _; rw [← hV3]; exact (bk_set_ne (bk_set_ne H10.out (p := ⟨w.heap.size + 3, 0, none⟩) (show w.heap.size + 3 ≠ (w.heap.size + 1) by omega)) (p := ⟨w.heap.size + 3, 1, none⟩) (show w.heap.size + 3 ≠ (w.heap.size + 1) by omega)).alloc _
    have H113 : Hid (Bk V3 (w.heap.size + 2) 47 #[.int .i64 0, .int .u64 0]) := by show Bk _ _ _ _; rw [← hV3]; exact (bk_set_ne (bk_set_ne H11.out (p := ⟨w.heap.size + 3, 0, none⟩) (show w.heap.size + 3 ≠ (w.heap.size + 2) by omega)) (p := ⟨w.heap.size + 3, 1, none⟩) (show w.heap.size + 3 ≠ (w.heap.size + 2) by omega)).alloc _
    have H123 : Hid (Bk V3 (w.heap.size + 3) 47 #[.int .i64 40, .int .u64 6]) := by show Bk _ _ _ _; rw [← hV3]; exact ((H12.out.set_ 0 _).set_ 1 _).alloc _
    have HT : Hid (ThIn V3 XN (.pointer none) (.pointer (some a1)) (.pointer none)) := by show ThIn _ _ _ _ _; rw [← hV3, ← hXN]; exact HX.out.below (((HB.out.setCell (p := ⟨w.heap.size + 3, 0, none⟩) (by show _ ≤ w.heap.size + 3; omega) _).setCell (p := ⟨w.heap.size + 3, 1, none⟩) (by show _ ≤ w.heap.size + 3; omega) _).alloc (by simp; omega) _)
    have HB3 : Hid (Below w.heap.size w V3) := by show Below _ _ _; rw [← hV3]; exact ((HB.out.setCell (p := ⟨w.heap.size + 3, 0, none⟩) (by show _ ≤ w.heap.size + 3; omega) _).setCell (p := ⟨w.heap.size + 3, 1, none⟩) (by show _ ≤ w.heap.size + 3; omega) _).alloc (by simp; omega) _
    rw [hV3]
    have HXN0 := Lib.hid hXN
    clear hV3 hXN H5 H10 H11 H12 HB
    clear c0 c1 c2 d0 e0 e1 f0 f1 k5 k10 k11 kf hsz
    have H5 := H53
    have H10 := H103
    have H11 := H113
    have H12 := H123
    have HB := HB3
    clear H53 H103 H113 H123 HB3
    have HXN : Hid (XN = XR) := by show _ = _; rw [← HXR.out, if_neg (by simp [Th.none_]), ← HXN0.out]
    refine wp_region_held_drew (S := (fun w' => w'.rangeAt w.heap.size 0 (#[.pointer none, .pointer (some a1), .pointer none] : Array Value).toList ∧ w'.rangeAt (w.heap.size + 3) 0 [.int .i64 40, .int .u64 6])) (by kernel_rfl) ?_ (fun hHeld => ?_)
    ·exact ⟨H5.out.rng, H12.out.rng⟩
    refine loadA 0 #[.pointer none, .pointer (some a1), .pointer none] Tryz.underlying75 rfl (by kernel_rfl) ?_ ?_
    ·(intro w hSw; exact hSw.1)
    try simp only [Act.put, pS]
    refine loadA 1 #[.int .i64 40, .int .u64 6] Tryz.underlying47 rfl (by kernel_rfl) ?_ ?_
    ·(intro w hSw; exact hSw.2)
    try simp only [Act.put, pS]
    obtain ⟨V4, hV4⟩ : ∃ V4, V3.drew = V4 := ⟨_, rfl⟩
    have H5 : Hid (Bk V4 w.heap.size 75 #[.pointer none, .pointer (some a1), .pointer none]) := by show Bk _ _ _ _; rw [← hV4]; exact H5.out
    have H10 : Hid (Bk V4 (w.heap.size + 1) 75 #[.pointer none, .pointer none, .pointer none]) := by show Bk _ _ _ _; rw [← hV4]; exact H10.out
    have H11 : Hid (Bk V4 (w.heap.size + 2) 47 #[.int .i64 0, .int .u64 0]) := by show Bk _ _ _ _; rw [← hV4]; exact H11.out
    have H12 : Hid (Bk V4 (w.heap.size + 3) 47 #[.int .i64 40, .int .u64 6]) := by show Bk _ _ _ _; rw [← hV4]; exact H12.out
    have HB : Hid (Below w.heap.size w V4) := by show Below _ _ _; rw [← hV4]; exact HB.out.drew
    have HT : Hid (ThIn V4 XN (.pointer none) (.pointer (some a1)) (.pointer none)) := by show ThIn _ _ _ _ _; rw [← hV4]; exact HT.out.below (Below.refl _ _).drew
    rw [hV4] at hHeld ⊢
    clear hV4
    refine comeA 2 fun K hK => ?_
    have g0 := (H10.out.cell 0).trans rfl
    have g1 := (H10.out.cell 1).trans rfl
    have g2 := (H10.out.cell 2).trans rfl
    have n0 := H10.out.frozen 0
    have n1 := H10.out.frozen 1
    have n2 := H10.out.frozen 2
    have k10 := H10.out.lt
    go_simp
    obtain ⟨V5, hV5⟩ : ∃ V5, (((V4.setCell ⟨w.heap.size + 1, 0, none⟩ (.pointer none)).setCell ⟨w.heap.size + 1, 1, none⟩ (.pointer (some a1))).setCell ⟨w.heap.size + 1, 2, none⟩ (.pointer none)) = V5 := ⟨_, rfl⟩
    have HT6 : Hid (ThIn V5 XN (.pointer none) (.pointer (some a1)) (.pointer none)) := by show ThIn _ _ _ _ _; rw [← hV5]; exact ((HT.out.set H10.out (by decide) (by decide) (by simp) ⟨w.heap.size + 1, 0, none⟩ rfl _).set (H10.out.set_ 0 _) (by decide) (by decide) (by simp) ⟨w.heap.size + 1, 1, none⟩ rfl _).set ((H10.out.set_ 0 _).set_ 1 _) (by decide) (by decide) (by simp) ⟨w.heap.size + 1, 2, none⟩ rfl _
    have H106 : Hid (Bk V5 (w.heap.size + 1) 75 #[.pointer none, .pointer (some a1), .pointer none]) := by show Bk _ _ _ _; rw [← hV5]; exact ((H10.out.set_ 0 _).set_ 1 _).set_ 2 _
    have H56 : Hid (Bk V5 w.heap.size 75 #[.pointer none, .pointer (some a1), .pointer none]) := by show Bk _ _ _ _; rw [← hV5]; exact bk_set_ne (bk_set_ne (bk_set_ne H5.out (p := ⟨w.heap.size + 1, 0, none⟩) (show w.heap.size + 1 ≠ w.heap.size by omega)) (p := ⟨w.heap.size + 1, 1, none⟩) (show w.heap.size + 1 ≠ w.heap.size by omega)) (p := ⟨w.heap.size + 1, 2, none⟩) (show w.heap.size + 1 ≠ w.heap.size by omega)
    have H116 : Hid (Bk V5 (w.heap.size + 2) 47 #[.int .i64 0, .int .u64 0]) := by show Bk _ _ _ _; rw [← hV5]; exact bk_set_ne (bk_set_ne (bk_set_ne H11.out (p := ⟨w.heap.size + 1, 0, none⟩) (show w.heap.size + 1 ≠ (w.heap.size + 2) by omega)) (p := ⟨w.heap.size + 1, 1, none⟩) (show w.heap.size + 1 ≠ (w.heap.size + 2) by omega)) (p := ⟨w.heap.size + 1, 2, none⟩) (show w.heap.size + 1 ≠ (w.heap.size + 2) by omega)
    have H126 : Hid (Bk V5 (w.heap.size + 3) 47 #[.int .i64 40, .int .u64 6]) := by show Bk _ _ _ _; rw [← hV5]; exact bk_set_ne (bk_set_ne (bk_set_ne H12.out (p := ⟨w.heap.size + 1, 0, none⟩) (show w.heap.size + 1 ≠ (w.heap.size + 3) by omega)) (p := ⟨w.heap.size + 1, 1, none⟩) (show w.heap.size + 1 ≠ (w.heap.size + 3) by omega)) (p := ⟨w.heap.size + 1, 2, none⟩) (show w.heap.size + 1 ≠ (w.heap.size + 3) by omega)
    have HB6 : Hid (Below w.heap.size w V5) := by show Below _ _ _; rw [← hV5]; exact ((HB.out.setCell (p := ⟨w.heap.size + 1, 0, none⟩) (Nat.le_succ _) _).setCell (p := ⟨w.heap.size + 1, 1, none⟩) (Nat.le_succ _) _).setCell (p := ⟨w.heap.size + 1, 2, none⟩) (Nat.le_succ _) _
    rw [hV5]
    clear hV5 g0 g1 g2 n0 n1 n2 k10 H5 H10 H11 H12 HB HT
    refine hK.out _ _ ?_ (fun hHeld => ?_)
    ·exact ⟨H56.out.rng, H126.out.rng⟩
    clear hK K
    try simp only [Act.put, pS]
    refine comeA 3 fun K hK => ?_
    have g0 := (H116.out.cell 0).trans rfl
    have g1 := (H116.out.cell 1).trans rfl
    have n0 := H116.out.frozen 0
    have n1 := H116.out.frozen 1
    have k11 := H116.out.lt
    go_simp
    obtain ⟨V6, hV6⟩ : ∃ V6, ((V5.setCell ⟨w.heap.size + 2, 0, none⟩ (.int .i64 40)).setCell ⟨w.heap.size + 2, 1, none⟩ (.int .u64 6)) = V6 := ⟨_, rfl⟩
    have HT7 : Hid (ThIn V6 XN (.pointer none) (.pointer (some a1)) (.pointer none)) := by show ThIn _ _ _ _ _; rw [← hV6]; exact (HT6.out.set H116.out (by decide) (by decide) (by simp) ⟨w.heap.size + 2, 0, none⟩ rfl _).set (H116.out.set_ 0 _) (by decide) (by decide) (by simp) ⟨w.heap.size + 2, 1, none⟩ rfl _
    have H117 : Hid (Bk V6 (w.heap.size + 2) 47 #[.int .i64 40, .int .u64 6]) := by show Bk _ _ _ _; rw [← hV6]; exact (H116.out.set_ 0 _).set_ 1 _
    have H57 : Hid (Bk V6 w.heap.size 75 #[.pointer none, .pointer (some a1), .pointer none]) := by show Bk _ _ _ _; rw [← hV6]; exact bk_set_ne (bk_set_ne H56.out (p := ⟨w.heap.size + 2, 0, none⟩) (show w.heap.size + 2 ≠ w.heap.size by omega)) (p := ⟨w.heap.size + 2, 1, none⟩) (show w.heap.size + 2 ≠ w.heap.size by omega)
    have H107 : Hid (Bk V6 (w.heap.size + 1) 75 #[.pointer none, .pointer (some a1), .pointer none]) := by show Bk _ _ _ _; rw [← hV6]; exact bk_set_ne (bk_set_ne H106.out (p := ⟨w.heap.size + 2, 0, none⟩) (show w.heap.size + 2 ≠ (w.heap.size + 1) by omega)) (p := ⟨w.heap.size + 2, 1, none⟩) (show w.heap.size + 2 ≠ (w.heap.size + 1) by omega)
    have H127 : Hid (Bk V6 (w.heap.size + 3) 47 #[.int .i64 40, .int .u64 6]) := by show Bk _ _ _ _; rw [← hV6]; exact bk_set_ne (bk_set_ne H126.out (p := ⟨w.heap.size + 2, 0, none⟩) (show w.heap.size + 2 ≠ (w.heap.size + 3) by omega)) (p := ⟨w.heap.size + 2, 1, none⟩) (show w.heap.size + 2 ≠ (w.heap.size + 3) by omega)
    have HB7 : Hid (Below w.heap.size w V6) := by show Below _ _ _; rw [← hV6]; exact (HB6.out.setCell (p := ⟨w.heap.size + 2, 0, none⟩) (by show _ ≤ w.heap.size + 2; omega) _).setCell (p := ⟨w.heap.size + 2, 1, none⟩) (by show _ ≤ w.heap.size + 2; omega) _
    rw [hV6]
    clear hV6 g0 g1 n0 n1 k11
    refine hK.out _ _ ?_ (fun hHeld => ?_)
    ·exact ⟨H57.out.rng, H127.out.rng⟩
    clear hK K
    try simp only [Act.put, pS]
    refine wpAnyH_done (by kernel_rfl) ?_ _
    try simp only [Act.put, pS]
    go_wp2_with (with_reducible show bodyPost _ _ _ _ _ _
                 refine bodyPost_ret (results_cc (p := 10) (u := 11) (ty := 75) (tz := 47) rfl _ _ (w.heap.size + 1) (w.heap.size + 2) 75 47 _ _ _ _ (by rfl) H107.out Tryz.underlying75 rfl info_th (by rfl) H117.out Tryz.underlying47 rfl info_res) rfl ?_
                 exact ⟨_, _, _, _, rfl, HXN.out ▸ HT7.out, ⟨_, _, rfl⟩, HB7.out⟩)
 ·obtain ⟨rfl, rfl⟩ : c = none ∧ t = none := by rcases hone with h | h | h <;> simp_all
  clear hone
  have hn1 : (Value.pointer a1) = .pointer none := HX.out.c
  have hn2 : (Value.pointer a2) = .pointer none := HX.out.t
  injection hn1 with hn1
  subst hn1
  injection hn2 with hn2
  subst hn2
  obtain ⟨a0', ha⟩ : ∃ z, a0 = some z := by obtain ⟨b, A, n, c, e, _⟩ := HX.out.q; injection e with e; exact ⟨_, e⟩
  subst ha
  obtain ⟨a0, rfl⟩ : ∃ z, z = a0' := ⟨_, rfl⟩
  clear c0 c1 c2 k5 k10 k11 kf hsz
  have c0 := (H5.out.cell 0).trans rfl
  have c1 := (H5.out.cell 1).trans rfl
  have c2 := (H5.out.cell 2).trans rfl
  have d0 := H5.out.frozen 2
  have e0 := (H12.out.cell 0).trans rfl
  have e1 := (H12.out.cell 1).trans rfl
  have f0 := H12.out.frozen 0
  have f1 := H12.out.frozen 1
  have k5 := H5.out.lt
  have k10 := H10.out.lt
  have k11 := H11.out.lt
  have kf := H12.out.lt
  have hsz := HB.out.size
  go_upto_region 11 with (go_at_call 43; go_in)
  ·obtain ⟨V3, hV3⟩ : ∃ V3, (((W1.setCell ⟨w.heap.size + 3, 0, none⟩ (.int .i64 40)).setCell ⟨w.heap.size + 3, 1, none⟩ (.int .u64 4)).alloc (.cells #[.pointer (some a0), .pointer none, .pointer none] 75)) = V3 := ⟨_, rfl⟩
   obtain ⟨XN, hXN⟩ : ∃ XN : Th, ⟨some qv, none, none⟩ = XN := ⟨_, rfl⟩
   have H53 : Hid (Bk V3 w.heap.size 75 #[.pointer (some a0), .pointer none, .pointer none]) := by show Bk _ _ _ _; rw [← hV3]; exact (bk_set_ne (bk_set_ne H5.out (p := ⟨w.heap.size + 3, 0, none⟩) (show w.heap.size + 3 ≠ w.heap.size by omega)) (p := ⟨w.heap.size + 3, 1, none⟩) (show w.heap.size + 3 ≠ w.heap.size by omega)).alloc _
   have H103 : Hid (Bk V3 (w.heap.size + 1) 75 #[.pointer none, .pointer none, .pointer none]) := by show Bk _ _ _ _; rw [← hV3]; exact (bk_set_ne (bk_set_ne H10.out (p := ⟨w.heap.size + 3, 0, none⟩) (show w.heap.size + 3 ≠ (w.heap.size + 1) by omega)) (p := ⟨w.heap.size + 3, 1, none⟩) (show w.heap.size + 3 ≠ (w.heap.size + 1) by omega)).alloc _
   have H113 : Hid (Bk V3 (w.heap.size + 2) 47 #[.int .i64 0, .int .u64 0]) := by show Bk _ _ _ _; rw [← hV3]; exact (bk_set_ne (bk_set_ne H11.out (p := ⟨w.heap.size + 3, 0, none⟩) (show w.heap.size + 3 ≠ (w.heap.size + 2) by omega)) (p := ⟨w.heap.size + 3, 1, none⟩) (show w.heap.size + 3 ≠ (w.heap.size + 2) by omega)).alloc _
   have H123 : Hid (Bk V3 (w.heap.size + 3) 47 #[.int .i64 40, .int .u64 4]) := by show Bk _ _ _ _; rw [← hV3]; exact ((H12.out.set_ 0 _).set_ 1 _).alloc _
   have HT : Hid (ThIn V3 XN (.pointer (some a0)) (.pointer none) (.pointer none)) := by show ThIn _ _ _ _ _; rw [← hV3, ← hXN]; exact HX.out.below (((HB.out.setCell (p := ⟨w.heap.size + 3, 0, none⟩) (by show _ ≤ w.heap.size + 3; omega) _).setCell (p := ⟨w.heap.size + 3, 1, none⟩) (by show _ ≤ w.heap.size + 3; omega) _).alloc (by simp; omega) _)
   have HB3 : Hid (Below w.heap.size w V3) := by show Below _ _ _; rw [← hV3]; exact ((HB.out.setCell (p := ⟨w.heap.size + 3, 0, none⟩) (by show _ ≤ w.heap.size + 3; omega) _).setCell (p := ⟨w.heap.size + 3, 1, none⟩) (by show _ ≤ w.heap.size + 3; omega) _).alloc (by simp; omega) _
   rw [hV3]
   have HXN0 := Lib.hid hXN
   clear hV3 hXN H5 H10 H11 H12 HB
   clear c0 c1 c2 d0 e0 e1 f0 f1 k5 k10 k11 kf hsz
   have H5 := H53
   have H10 := H103
   have H11 := H113
   have H12 := H123
   have HB := HB3
   clear H53 H103 H113 H123 HB3
   have HXN : Hid (XN = XR) := by show _ = _; rw [← HXR.out, if_neg (by simp [Th.none_]), ← HXN0.out]
   refine wp_region_held_drew (S := (fun w' => w'.rangeAt w.heap.size 0 (#[.pointer (some a0), .pointer none, .pointer none] : Array Value).toList ∧ w'.rangeAt (w.heap.size + 3) 0 [.int .i64 40, .int .u64 4])) (by kernel_rfl) ?_ (fun hHeld => ?_)
   ·exact ⟨H5.out.rng, H12.out.rng⟩
   refine loadA 0 #[.pointer (some a0), .pointer none, .pointer none] Tryz.underlying75 rfl (by kernel_rfl) ?_ ?_
   ·(intro w hSw; exact hSw.1)
   try simp only [Act.put, pS]
   refine loadA 1 #[.int .i64 40, .int .u64 4] Tryz.underlying47 rfl (by kernel_rfl) ?_ ?_
   ·(intro w hSw; exact hSw.2)
   try simp only [Act.put, pS]
   obtain ⟨V4, hV4⟩ : ∃ V4, V3.drew = V4 := ⟨_, rfl⟩
   have H5 : Hid (Bk V4 w.heap.size 75 #[.pointer (some a0), .pointer none, .pointer none]) := by show Bk _ _ _ _; rw [← hV4]; exact H5.out
   have H10 : Hid (Bk V4 (w.heap.size + 1) 75 #[.pointer none, .pointer none, .pointer none]) := by show Bk _ _ _ _; rw [← hV4]; exact H10.out
   have H11 : Hid (Bk V4 (w.heap.size + 2) 47 #[.int .i64 0, .int .u64 0]) := by show Bk _ _ _ _; rw [← hV4]; exact H11.out
   have H12 : Hid (Bk V4 (w.heap.size + 3) 47 #[.int .i64 40, .int .u64 4]) := by show Bk _ _ _ _; rw [← hV4]; exact H12.out
   have HB : Hid (Below w.heap.size w V4) := by show Below _ _ _; rw [← hV4]; exact HB.out.drew
   have HT : Hid (ThIn V4 XN (.pointer (some a0)) (.pointer none) (.pointer none)) := by show ThIn _ _ _ _ _; rw [← hV4]; exact HT.out.below (Below.refl _ _).drew
   rw [hV4] at hHeld ⊢
   clear hV4
   refine comeA 2 fun K hK => ?_
   have g0 := (H10.out.cell 0).trans rfl
   have g1 := (H10.out.cell 1).trans rfl
   have g2 := (H10.out.cell 2).trans rfl
   have n0 := H10.out.frozen 0
   have n1 := H10.out.frozen 1
   have n2 := H10.out.frozen 2
   have k10 := H10.out.lt
   go_simp
   obtain ⟨V5, hV5⟩ : ∃ V5, (((V4.setCell ⟨w.heap.size + 1, 0, none⟩ (.pointer (some a0))).setCell ⟨w.heap.size + 1, 1, none⟩ (.pointer none)).setCell ⟨w.heap.size + 1, 2, none⟩ (.pointer none)) = V5 := ⟨_, rfl⟩
   have HT6 : Hid (ThIn V5 XN (.pointer (some a0)) (.pointer none) (.pointer none)) := by show ThIn _ _ _ _ _; rw [← hV5]; exact ((HT.out.set H10.out (by decide) (by decide) (by simp) ⟨w.heap.size + 1, 0, none⟩ rfl _).set (H10.out.set_ 0 _) (by decide) (by decide) (by simp) ⟨w.heap.size + 1, 1, none⟩ rfl _).set ((H10.out.set_ 0 _).set_ 1 _) (by decide) (by decide) (by simp) ⟨w.heap.size + 1, 2, none⟩ rfl _
   have H106 : Hid (Bk V5 (w.heap.size + 1) 75 #[.pointer (some a0), .pointer none, .pointer none]) := by show Bk _ _ _ _; rw [← hV5]; exact ((H10.out.set_ 0 _).set_ 1 _).set_ 2 _
   have H56 : Hid (Bk V5 w.heap.size 75 #[.pointer (some a0), .pointer none, .pointer none]) := by show Bk _ _ _ _; rw [← hV5]; exact bk_set_ne (bk_set_ne (bk_set_ne H5.out (p := ⟨w.heap.size + 1, 0, none⟩) (show w.heap.size + 1 ≠ w.heap.size by omega)) (p := ⟨w.heap.size + 1, 1, none⟩) (show w.heap.size + 1 ≠ w.heap.size by omega)) (p := ⟨w.heap.size + 1, 2, none⟩) (show w.heap.size + 1 ≠ w.heap.size by omega)
   have H116 : Hid (Bk V5 (w.heap.size + 2) 47 #[.int .i64 0, .int .u64 0]) := by show Bk _ _ _ _; rw [← hV5]; exact bk_set_ne (bk_set_ne (bk_set_ne H11.out (p := ⟨w.heap.size + 1, 0, none⟩) (show w.heap.size + 1 ≠ (w.heap.size + 2) by omega)) (p := ⟨w.heap.size + 1, 1, none⟩) (show w.heap.size + 1 ≠ (w.heap.size + 2) by omega)) (p := ⟨w.heap.size + 1, 2, none⟩) (show w.heap.size + 1 ≠ (w.heap.size + 2) by omega)
   have H126 : Hid (Bk V5 (w.heap.size + 3) 47 #[.int .i64 40, .int .u64 4]) := by show Bk _ _ _ _; rw [← hV5]; exact bk_set_ne (bk_set_ne (bk_set_ne H12.out (p := ⟨w.heap.size + 1, 0, none⟩) (show w.heap.size + 1 ≠ (w.heap.size + 3) by omega)) (p := ⟨w.heap.size + 1, 1, none⟩) (show w.heap.size + 1 ≠ (w.heap.size + 3) by omega)) (p := ⟨w.heap.size + 1, 2, none⟩) (show w.heap.size + 1 ≠ (w.heap.size + 3) by omega)
   have HB6 : Hid (Below w.heap.size w V5) := by show Below _ _ _; rw [← hV5]; exact ((HB.out.setCell (p := ⟨w.heap.size + 1, 0, none⟩) (Nat.le_succ _) _).setCell (p := ⟨w.heap.size + 1, 1, none⟩) (Nat.le_succ _) _).setCell (p := ⟨w.heap.size + 1, 2, none⟩) (Nat.le_succ _) _
   rw [hV5]
   clear hV5 g0 g1 g2 n0 n1 n2 k10 H5 H10 H11 H12 HB HT
   refine hK.out _ _ ?_ (fun hHeld => ?_)
   ·exact ⟨H56.out.rng, H126.out.rng⟩
   clear hK K
   try simp only [Act.put, pS]
   refine comeA 3 fun K hK => ?_
   have g0 := (H116.out.cell 0).trans rfl
   have g1 := (H116.out.cell 1).trans rfl
   have n0 := H116.out.frozen 0
   have n1 := H116.out.frozen 1
   have k11 := H116.out.lt
   go_simp
   obtain ⟨V6, hV6⟩ : ∃ V6, ((V5.setCell ⟨w.heap.size + 2, 0, none⟩ (.int .i64 40)).setCell ⟨w.heap.size + 2, 1, none⟩ (.int .u64 4)) = V6 := ⟨_, rfl⟩
   have HT7 : Hid (ThIn V6 XN (.pointer (some a0)) (.pointer none) (.pointer none)) := by show ThIn _ _ _ _ _; rw [← hV6]; exact (HT6.out.set H116.out (by decide) (by decide) (by simp) ⟨w.heap.size + 2, 0, none⟩ rfl _).set (H116.out.set_ 0 _) (by decide) (by decide) (by simp) ⟨w.heap.size + 2, 1, none⟩ rfl _
   have H117 : Hid (Bk V6 (w.heap.size + 2) 47 #[.int .i64 40, .int .u64 4]) := by show Bk _ _ _ _; rw [← hV6]; exact (H116.out.set_ 0 _).set_ 1 _
   have H57 : Hid (Bk V6 w.heap.size 75 #[.pointer (some a0), .pointer none, .pointer none]) := by show Bk _ _ _ _; rw [← hV6]; exact bk_set_ne (bk_set_ne H56.out (p := ⟨w.heap.size + 2, 0, none⟩) (show w.heap.size + 2 ≠ w.heap.size by omega)) (p := ⟨w.heap.size + 2, 1, none⟩) (show w.heap.size + 2 ≠ w.heap.size by omega)
   have H107 : Hid (Bk V6 (w.heap.size + 1) 75 #[.pointer (some a0), .pointer none, .pointer none]) := by show Bk _ _ _ _; rw [← hV6]; exact bk_set_ne (bk_set_ne H106.out (p := ⟨w.heap.size + 2, 0, none⟩) (show w.heap.size + 2 ≠ (w.heap.size + 1) by omega)) (p := ⟨w.heap.size + 2, 1, none⟩) (show w.heap.size + 2 ≠ (w.heap.size + 1) by omega)
   have H127 : Hid (Bk V6 (w.heap.size + 3) 47 #[.int .i64 40, .int .u64 4]) := by show Bk _ _ _ _; rw [← hV6]; exact bk_set_ne (bk_set_ne H126.out (p := ⟨w.heap.size + 2, 0, none⟩) (show w.heap.size + 2 ≠ (w.heap.size + 3) by omega)) (p := ⟨w.heap.size + 2, 1, none⟩) (show w.heap.size + 2 ≠ (w.heap.size + 3) by omega)
   have HB7 : Hid (Below w.heap.size w V6) := by show Below _ _ _; rw [← hV6]; exact (HB6.out.setCell (p := ⟨w.heap.size + 2, 0, none⟩) (by show _ ≤ w.heap.size + 2; omega) _).setCell (p := ⟨w.heap.size + 2, 1, none⟩) (by show _ ≤ w.heap.size + 2; omega) _
   rw [hV6]
   clear hV6 g0 g1 n0 n1 k11
   refine hK.out _ _ ?_ (fun hHeld => ?_)
   ·exact ⟨H57.out.rng, H127.out.rng⟩
   clear hK K
   try simp only [Act.put, pS]
   refine wpAnyH_done (by kernel_rfl) ?_ _
   try simp only [Act.put, pS]
   go_wp2_with (with_reducible show bodyPost _ _ _ _ _ _
                refine bodyPost_ret (results_cc (p := 10) (u := 11) (ty := 75) (tz := 47) rfl _ _ (w.heap.size + 1) (w.heap.size + 2) 75 47 _ _ _ _ (by rfl) H107.out Tryz.underlying75 rfl info_th (by rfl) H117.out Tryz.underlying47 rfl info_res) rfl ?_
                exact ⟨_, _, _, _, rfl, HXN.out ▸ HT7.out, ⟨_, _, rfl⟩, HB7.out⟩)
  ·obtain ⟨V3, hV3⟩ : ∃ V3, (((W1.setCell ⟨w.heap.size + 3, 0, none⟩ (.int .i64 40)).setCell ⟨w.heap.size + 3, 1, none⟩ (.int .u64 6)).alloc (.cells #[.pointer (some a0), .pointer none, .pointer none] 75)) = V3 := ⟨_, rfl⟩
   obtain ⟨XN, hXN⟩ : ∃ XN : Th, ⟨some qv, none, none⟩ = XN := ⟨_, rfl⟩
   have H53 : Hid (Bk V3 w.heap.size 75 #[.pointer (some a0), .pointer none, .pointer none]) := by show Bk _ _ _ _; rw [← hV3]; exact (bk_set_ne (bk_set_ne H5.out (p := ⟨w.heap.size + 3, 0, none⟩) (show w.heap.size + 3 ≠ w.heap.size by omega)) (p := ⟨w.heap.size + 3, 1, none⟩) (show w.heap.size + 3 ≠ w.heap.size by omega)).alloc _
   have H103 : Hid (Bk V3 (w.heap.size + 1) 75 #[.pointer none, .pointer none, .pointer none]) := by show Bk _ _ _ _; rw [← hV3]; exact (bk_set_ne (bk_set_ne H10.out (p := ⟨w.heap.size + 3, 0, none⟩) (show w.heap.size + 3 ≠ (w.heap.size + 1) by omega)) (p := ⟨w.heap.size + 3, 1, none⟩) (show w.heap.size + 3 ≠ (w.heap.size + 1) by omega)).alloc _
   have H113 : Hid (Bk V3 (w.heap.size + 2) 47 #[.int .i64 0, .int .u64 0]) := by show Bk _ _ _ _; rw [← hV3]; exact (bk_set_ne (bk_set_ne H11.out (p := ⟨w.heap.size + 3, 0, none⟩) (show w.heap.size + 3 ≠ (w.heap.size + 2) by omega)) (p := ⟨w.heap.size + 3, 1, none⟩) (show w.heap.size + 3 ≠ (w.heap.size + 2) by omega)).alloc _
   have H123 : Hid (Bk V3 (w.heap.size + 3) 47 #[.int .i64 40, .int .u64 6]) := by show Bk _ _ _ _; rw [← hV3]; exact ((H12.out.set_ 0 _).set_ 1 _).alloc _
   have HT : Hid (ThIn V3 XN (.pointer (some a0)) (.pointer none) (.pointer none)) := by show ThIn _ _ _ _ _; rw [← hV3, ← hXN]; exact HX.out.below (((HB.out.setCell (p := ⟨w.heap.size + 3, 0, none⟩) (by show _ ≤ w.heap.size + 3; omega) _).setCell (p := ⟨w.heap.size + 3, 1, none⟩) (by show _ ≤ w.heap.size + 3; omega) _).alloc (by simp; omega) _)
   have HB3 : Hid (Below w.heap.size w V3) := by show Below _ _ _; rw [← hV3]; exact ((HB.out.setCell (p := ⟨w.heap.size + 3, 0, none⟩) (by show _ ≤ w.heap.size + 3; omega) _).setCell (p := ⟨w.heap.size + 3, 1, none⟩) (by show _ ≤ w.heap.size + 3; omega) _).alloc (by simp; omega) _
   rw [hV3]
   have HXN0 := Lib.hid hXN
   clear hV3 hXN H5 H10 H11 H12 HB
   clear c0 c1 c2 d0 e0 e1 f0 f1 k5 k10 k11 kf hsz
   have H5 := H53
   have H10 := H103
   have H11 := H113
   have H12 := H123
   have HB := HB3
   clear H53 H103 H113 H123 HB3
   have HXN : Hid (XN = XR) := by show _ = _; rw [← HXR.out, if_neg (by simp [Th.none_]), ← HXN0.out]
   refine wp_region_held_drew (S := (fun w' => w'.rangeAt w.heap.size 0 (#[.pointer (some a0), .pointer none, .pointer none] : Array Value).toList ∧ w'.rangeAt (w.heap.size + 3) 0 [.int .i64 40, .int .u64 6])) (by kernel_rfl) ?_ (fun hHeld => ?_)
   ·exact ⟨H5.out.rng, H12.out.rng⟩
   refine loadA 0 #[.pointer (some a0), .pointer none, .pointer none] Tryz.underlying75 rfl (by kernel_rfl) ?_ ?_
   ·(intro w hSw; exact hSw.1)
   try simp only [Act.put, pS]
   refine loadA 1 #[.int .i64 40, .int .u64 6] Tryz.underlying47 rfl (by kernel_rfl) ?_ ?_
   ·(intro w hSw; exact hSw.2)
   try simp only [Act.put, pS]
   obtain ⟨V4, hV4⟩ : ∃ V4, V3.drew = V4 := ⟨_, rfl⟩
   have H5 : Hid (Bk V4 w.heap.size 75 #[.pointer (some a0), .pointer none, .pointer none]) := by show Bk _ _ _ _; rw [← hV4]; exact H5.out
   have H10 : Hid (Bk V4 (w.heap.size + 1) 75 #[.pointer none, .pointer none, .pointer none]) := by show Bk _ _ _ _; rw [← hV4]; exact H10.out
   have H11 : Hid (Bk V4 (w.heap.size + 2) 47 #[.int .i64 0, .int .u64 0]) := by show Bk _ _ _ _; rw [← hV4]; exact H11.out
   have H12 : Hid (Bk V4 (w.heap.size + 3) 47 #[.int .i64 40, .int .u64 6]) := by show Bk _ _ _ _; rw [← hV4]; exact H12.out
   have HB : Hid (Below w.heap.size w V4) := by show Below _ _ _; rw [← hV4]; exact HB.out.drew
   have HT : Hid (ThIn V4 XN (.pointer (some a0)) (.pointer none) (.pointer none)) := by show ThIn _ _ _ _ _; rw [← hV4]; exact HT.out.below (Below.refl _ _).drew
   rw [hV4] at hHeld ⊢
   clear hV4
   refine comeA 2 fun K hK => ?_
   have g0 := (H10.out.cell 0).trans rfl
   have g1 := (H10.out.cell 1).trans rfl
   have g2 := (H10.out.cell 2).trans rfl
   have n0 := H10.out.frozen 0
   have n1 := H10.out.frozen 1
   have n2 := H10.out.frozen 2
   have k10 := H10.out.lt
   go_simp
   obtain ⟨V5, hV5⟩ : ∃ V5, (((V4.setCell ⟨w.heap.size + 1, 0, none⟩ (.pointer (some a0))).setCell ⟨w.heap.size + 1, 1, none⟩ (.pointer none)).setCell ⟨w.heap.size + 1, 2, none⟩ (.pointer none)) = V5 := ⟨_, rfl⟩
   have HT6 : Hid (ThIn V5 XN (.pointer (some a0)) (.pointer none) (.pointer none)) := by show ThIn _ _ _ _ _; rw [← hV5]; exact ((HT.out.set H10.out (by decide) (by decide) (by simp) ⟨w.heap.size + 1, 0, none⟩ rfl _).set (H10.out.set_ 0 _) (by decide) (by decide) (by simp) ⟨w.heap.size + 1, 1, none⟩ rfl _).set ((H10.out.set_ 0 _).set_ 1 _) (by decide) (by decide) (by simp) ⟨w.heap.size + 1, 2, none⟩ rfl _
   have H106 : Hid (Bk V5 (w.heap.size + 1) 75 #[.pointer (some a0), .pointer none, .pointer none]) := by show Bk _ _ _ _; rw [← hV5]; exact ((H10.out.set_ 0 _).set_ 1 _).set_ 2 _
   have H56 : Hid (Bk V5 w.heap.size 75 #[.pointer (some a0), .pointer none, .pointer none]) := by show Bk _ _ _ _; rw [← hV5]; exact bk_set_ne (bk_set_ne (bk_set_ne H5.out (p := ⟨w.heap.size + 1, 0, none⟩) (show w.heap.size + 1 ≠ w.heap.size by omega)) (p := ⟨w.heap.size + 1, 1, none⟩) (show w.heap.size + 1 ≠ w.heap.size by omega)) (p := ⟨w.heap.size + 1, 2, none⟩) (show w.heap.size + 1 ≠ w.heap.size by omega)
   have H116 : Hid (Bk V5 (w.heap.size + 2) 47 #[.int .i64 0, .int .u64 0]) := by show Bk _ _ _ _; rw [← hV5]; exact bk_set_ne (bk_set_ne (bk_set_ne H11.out (p := ⟨w.heap.size + 1, 0, none⟩) (show w.heap.size + 1 ≠ (w.heap.size + 2) by omega)) (p := ⟨w.heap.size + 1, 1, none⟩) (show w.heap.size + 1 ≠ (w.heap.size + 2) by omega)) (p := ⟨w.heap.size + 1, 2, none⟩) (show w.heap.size + 1 ≠ (w.heap.size + 2) by omega)
   have H126 : Hid (Bk V5 (w.heap.size + 3) 47 #[.int .i64 40, .int .u64 6]) := by show Bk _ _ _ _; rw [← hV5]; exact bk_set_ne (bk_set_ne (bk_set_ne H12.out (p := ⟨w.heap.size + 1, 0, none⟩) (show w.heap.size + 1 ≠ (w.heap.size + 3) by omega)) (p := ⟨w.heap.size + 1, 1, none⟩) (show w.heap.size + 1 ≠ (w.heap.size + 3) by omega)) (p := ⟨w.heap.size + 1, 2, none⟩) (show w.heap.size + 1 ≠ (w.heap.size + 3) by omega)
   have HB6 : Hid (Below w.heap.size w V5) := by show Below _ _ _; rw [← hV5]; exact ((HB.out.setCell (p := ⟨w.heap.size + 1, 0, none⟩) (Nat.le_succ _) _).setCell (p := ⟨w.heap.size + 1, 1, none⟩) (Nat.le_succ _) _).setCell (p := ⟨w.heap.size + 1, 2, none⟩) (Nat.le_succ _) _
   rw [hV5]
   clear hV5 g0 g1 g2 n0 n1 n2 k10 H5 H10 H11 H12 HB HT
   refine hK.out _ _ ?_ (fun hHeld => ?_)
   ·exact ⟨H56.out.rng, H126.out.rng⟩
   clear hK K
   try simp only [Act.put, pS]
   refine comeA 3 fun K hK => ?_
   have g0 := (H116.out.cell 0).trans rfl
   have g1 := (H116.out.cell 1).trans rfl
   have n0 := H116.out.frozen 0
   have n1 := H116.out.frozen 1
   have k11 := H116.out.lt
   go_simp
   obtain ⟨V6, hV6⟩ : ∃ V6, ((V5.setCell ⟨w.heap.size + 2, 0, none⟩ (.int .i64 40)).setCell ⟨w.heap.size + 2, 1, none⟩ (.int .u64 6)) = V6 := ⟨_, rfl⟩
   have HT7 : Hid (ThIn V6 XN (.pointer (some a0)) (.pointer none) (.pointer none)) := by show ThIn _ _ _ _ _; rw [← hV6]; exact (HT6.out.set H116.out (by decide) (by decide) (by simp) ⟨w.heap.size + 2, 0, none⟩ rfl _).set (H116.out.set_ 0 _) (by decide) (by decide) (by simp) ⟨w.heap.size + 2, 1, none⟩ rfl _
   have H117 : Hid (Bk V6 (w.heap.size + 2) 47 #[.int .i64 40, .int .u64 6]) := by show Bk _ _ _ _; rw [← hV6]; exact (H116.out.set_ 0 _).set_ 1 _
   have H57 : Hid (Bk V6 w.heap.size 75 #[.pointer (some a0), .pointer none, .pointer none]) := by show Bk _ _ _ _; rw [← hV6]; exact bk_set_ne (bk_set_ne H56.out (p := ⟨w.heap.size + 2, 0, none⟩) (show w.heap.size + 2 ≠ w.heap.size by omega)) (p := ⟨w.heap.size + 2, 1, none⟩) (show w.heap.size + 2 ≠ w.heap.size by omega)
   have H107 : Hid (Bk V6 (w.heap.size + 1) 75 #[.pointer (some a0), .pointer none, .pointer none]) := by show Bk _ _ _ _; rw [← hV6]; exact bk_set_ne (bk_set_ne H106.out (p := ⟨w.heap.size + 2, 0, none⟩) (show w.heap.size + 2 ≠ (w.heap.size + 1) by omega)) (p := ⟨w.heap.size + 2, 1, none⟩) (show w.heap.size + 2 ≠ (w.heap.size + 1) by omega)
   have H127 : Hid (Bk V6 (w.heap.size + 3) 47 #[.int .i64 40, .int .u64 6]) := by show Bk _ _ _ _; rw [← hV6]; exact bk_set_ne (bk_set_ne H126.out (p := ⟨w.heap.size + 2, 0, none⟩) (show w.heap.size + 2 ≠ (w.heap.size + 3) by omega)) (p := ⟨w.heap.size + 2, 1, none⟩) (show w.heap.size + 2 ≠ (w.heap.size + 3) by omega)
   have HB7 : Hid (Below w.heap.size w V6) := by show Below _ _ _; rw [← hV6]; exact (HB6.out.setCell (p := ⟨w.heap.size + 2, 0, none⟩) (by show _ ≤ w.heap.size + 2; omega) _).setCell (p := ⟨w.heap.size + 2, 1, none⟩) (by show _ ≤ w.heap.size + 2; omega) _
   rw [hV6]
   clear hV6 g0 g1 n0 n1 k11
   refine hK.out _ _ ?_ (fun hHeld => ?_)
   ·exact ⟨H57.out.rng, H127.out.rng⟩
   clear hK K
   try simp only [Act.put, pS]
   refine wpAnyH_done (by kernel_rfl) ?_ _
   try simp only [Act.put, pS]
   go_wp2_with (with_reducible show bodyPost _ _ _ _ _ _
                refine bodyPost_ret (results_cc (p := 10) (u := 11) (ty := 75) (tz := 47) rfl _ _ (w.heap.size + 1) (w.heap.size + 2) 75 47 _ _ _ _ (by rfl) H107.out Tryz.underlying75 rfl info_th (by rfl) H117.out Tryz.underlying47 rfl info_res) rfl ?_
                exact ⟨_, _, _, _, rfl, HXN.out ▸ HT7.out, ⟨_, _, rfl⟩, HB7.out⟩)
end Go.Proofs.YtiiaingepbkikaaGreatDoor
