import Derived.Test.YtiiaingepbkikaaGreatDoorWoAW
import Derived.Test.YtiiaingepbkikaaGreatDoorWoAX
import Derived.Test.YtiiaingepbkikaaGreatDoorWoAY
import Derived.Laws.CopyOwn
import Derived.Test.YtiiaingepbkikaaGreatDoorWoAH
namespace Go.Proofs.YtiiaingepbkikaaGreatDoor
open Go.RowKit
set_option linter.unusedVariables false
set_option linter.unusedSimpArgs false
theorem z144_size : (Tryz.zeroCells45).size = 144 := by kernel_rfl
structure D4 (w V : World) (M A Z R : Array Value) : Prop where
 hm : Bk V w.heap.size 45 M
 ha : Bk V (w.heap.size + 1) 49 A
 hz : Bk V (w.heap.size + 2) 45 Z
 h7 : Bk V (w.heap.size + 3) 47 R
 hb : Below w.heap.size w V
theorem d4_new (w : World) (M A Z R : Array Value) : D4 w ((((w.alloc (.cells M 45)).alloc (.cells A 49)).alloc (.cells Z 45)).alloc (.cells R 47)) M A Z R := by
 have h1 := two_blocks w M A 45 49
 have h2 := Bk.new ((w.alloc (.cells M 45)).alloc (.cells A 49)) 45 Z
 have h3 := Bk.new (((w.alloc (.cells M 45)).alloc (.cells A 49)).alloc (.cells Z 45)) 47 R
 exact ⟨(h1.1.alloc _).alloc _, (h1.2.1.alloc _).alloc _, (by simpa using h2.alloc _), by simpa using h3, (h1.2.2.1.alloc (by simp; omega) _).alloc (by simp; omega) _⟩
theorem D4.row {w V : World} {M A Z R : Array Value} (h : D4 w V M A Z R) : D4 w (V.setRow (w.heap.size + 2) M) M A M R :=
 ⟨(setRow_other _ _ _ _ (by omega)).trans h.hm, (setRow_other _ _ _ _ (by omega)).trans h.ha, setRow_heap _ _ Z M _ _ h.hz, (setRow_other _ _ _ _ (by omega)).trans h.h7, below_setRow h.hb (by omega) M⟩
theorem D4.res {w V : World} {M A Z : Array Value} {p q : Value} (h : D4 w V M A Z #[p, q]) (x y : Value) : D4 w ((V.setCell ⟨w.heap.size + 3, 0, none⟩ x).setCell ⟨w.heap.size + 3, 1, none⟩ y) M A Z #[x, y] :=
 ⟨bk_set_ne (bk_set_ne h.hm (show w.heap.size + 3 ≠ _ by omega)) (show w.heap.size + 3 ≠ _ by omega), bk_set_ne (bk_set_ne h.ha (show w.heap.size + 3 ≠ _ by omega)) (show w.heap.size + 3 ≠ _ by omega), bk_set_ne (bk_set_ne h.hz (show w.heap.size + 3 ≠ _ by omega)) (show w.heap.size + 3 ≠ _ by omega), (h.h7.set_ 0 x).set_ 1 y,
  (h.hb.setCell (show w.heap.size ≤ w.heap.size + 3 by omega) _).setCell (show w.heap.size ≤ w.heap.size + 3 by omega) _⟩
theorem D4.below {w V V' : World} {M A Z R : Array Value} (h : D4 w V M A Z R) (hb : Below V.heap.size V V') : D4 w V' M A Z R := ⟨h.hm.below hb h.hm.lt, h.ha.below hb h.ha.lt, h.hz.below hb h.hz.lt, h.h7.below hb h.h7.lt, h.hb.trans (hb.mono h.hb.size)⟩
theorem D4.drew {w V : World} {M A Z R : Array Value} (h : D4 w V M A Z R) : D4 w V.drew M A Z R := ⟨h.hm, h.ha, h.hz, h.h7, h.hb.drew⟩
theorem D4.set_ {w V : World} {M A Z R : Array Value} (h : D4 w V M A Z R) {p : Addr} (hp : w.heap.size + 3 < p.block) (u : Value) : D4 w (V.setCell p u) M A Z R :=
 ⟨bk_set_ne h.hm (by omega), bk_set_ne h.ha (by omega), bk_set_ne h.hz (by omega), bk_set_ne h.h7 (by omega), h.hb.setCell (by omega) u⟩
theorem D4.one {w V : World} {M A Z R : Array Value} (h : D4 w V M A Z R) (i : Nat) (u : Value) : D4 w (V.setCell ⟨w.heap.size, i, none⟩ u) (M.setIfInBounds i u) A Z R :=
 ⟨h.hm.set_ i u, bk_set_ne h.ha (show w.heap.size ≠ _ by omega), bk_set_ne h.hz (show w.heap.size ≠ _ by omega), bk_set_ne h.h7 (show w.heap.size ≠ _ by omega), h.hb.setCell (Nat.le_refl _) u⟩
def set9 (V : World) (g o : Nat) (y : C9) : World := ((((((((V.setCell ⟨g, o, none⟩ (.bool y.b0)).setCell ⟨g, o + 1, none⟩ (.int .u64 y.k0)).setCell ⟨g, o + 2, none⟩ (.slice y.A0 y.n0 y.c0)).setCell ⟨g, o + 3, none⟩ (.bool y.b1)).setCell ⟨g, o + 4, none⟩ (.int .u64 y.k1)).setCell ⟨g, o + 5, none⟩ (.slice y.A1 y.n1 y.c1)).setCell ⟨g, o + 6, none⟩ (.bool y.b2)).setCell ⟨g, o + 7, none⟩ (.int .u64 y.k2)).setCell ⟨g, o + 8, none⟩ (.slice y.A2 y.n2 y.c2)
theorem D4.put {w V : World} {M A Z R : Array Value} (h : D4 w V M A Z R) (o : Nat) (y : C9) : D4 w (set9 V w.heap.size o y) (put9 M o y) A Z R := ((((((((h.one _ _).one _ _).one _ _).one _ _).one _ _).one _ _).one _ _).one _ _).one _ _
theorem bk_set9 {V : World} {g k o : Nat} {t : TypeId} {cs : Array Value} (h : Bk V g t cs) (hne : k ≠ g) (y : C9) : Bk (set9 V k o y) g t cs := bk_set_ne (bk_set_ne (bk_set_ne (bk_set_ne (bk_set_ne (bk_set_ne (bk_set_ne (bk_set_ne (bk_set_ne h hne) hne) hne) hne) hne) hne) hne) hne) hne
structure R3o (L B K : Nat) (w : World) (y : C9) (x : Th) : Prop where
 q : RQo L B K w #[.bool y.b0, .int .u64 y.k0, .slice y.A0 y.n0 y.c0] x.q
 c : RQo L B K w #[.bool y.b1, .int .u64 y.k1, .slice y.A1 y.n1 y.c1] x.c
 t : RTo L B K w #[.bool y.b2, .int .u64 y.k2, .slice y.A2 y.n2 y.c2] x.t
section
variable {L B K : Nat} {w : World} {y : C9} {x : Th}
theorem R3o.set_ (h : R3o L B K w y x) {p : Addr} (h1 : B ≤ p.block) (h2 : p.block < K) (u : Value) : R3o L B K (w.setCell p u) y x := ⟨h.q.set h1 h2 u, h.c.set h1 h2 u, h.t.set h1 h2 u⟩
theorem R3o.row (h : R3o L B K w y x) {g : Nat} (h1 : B ≤ g) (h2 : g < K) (cs : Array Value) : R3o L B K (w.setRow g cs) y x := ⟨h.q.row h1 h2 cs, h.c.row h1 h2 cs, h.t.row h1 h2 cs⟩
theorem R3o.drew (h : R3o L B K w y x) : R3o L B K w.drew y x := ⟨h.q.drew, h.c.drew, h.t.drew⟩
theorem R3o.put (h : R3o L B K w y x) {g o : Nat} (h1 : B ≤ g) (h2 : g < K) (z : C9) : R3o L B K (set9 w g o z) y x := ((((((((h.set_ h1 h2 _).set_ h1 h2 _).set_ h1 h2 _).set_ h1 h2 _).set_ h1 h2 _).set_ h1 h2 _).set_ h1 h2 _).set_ h1 h2 _).set_ h1 h2 _
theorem R3o.all (h : R3o L B K w y x) (hB : B ≤ w.heap.size) : RTh L w.heap.size w y x := ⟨h.q.all hB, h.c.all hB, h.t.all hB⟩
end
theorem RQo.low {L B K K' : Nat} {w : World} {vs : Array Value} {o : QO} (h : RQo L B K w vs o) (hK : K' ≤ K) : RQo L B K' w vs o := by
 rcases o with _ | ⟨cap, l⟩
 ·exact h
 ·obtain ⟨A, n, c, e, hs, hr | ho⟩ := h
  ·exact ⟨A, n, c, e, hs, .inl hr⟩
  ·exact ⟨A, n, c, e, hs, .inr (own_base ho hK)⟩
theorem RTo.low {L B K K' : Nat} {w : World} {vs : Array Value} {o : PO} (h : RTo L B K w vs o) (hK : K' ≤ K) : RTo L B K' w vs o := by
 rcases o with _ | ⟨cap, l⟩
 ·exact h
 ·obtain ⟨A, n, c, e, hs, hr | ho⟩ := h
  ·exact ⟨A, n, c, e, hs, .inl hr⟩
  ·exact ⟨A, n, c, e, hs, .inr (own_base ho hK)⟩
theorem R3o.low {L B K K' : Nat} {w : World} {y : C9} {x : Th} (h : R3o L B K w y x) (hK : K' ≤ K) : R3o L B K' w y x := ⟨h.q.low hK, h.c.low hK, h.t.low hK⟩
theorem R3o.of {L B : Nat} {w : World} {y : C9} {x : Th} (K : Nat) (h : RTh L B w y x) : R3o L B K w y x := ⟨RQo.of K h.q, RQo.of K h.c, RTo.of K h.t⟩
structure RWo (L B K : Nat) (w : World) (M : Array Value) (ths : List Th) : Prop where
 size : M.size = 144
 len : ths.length = 16
 one : ∀ (j : Nat) (v : Value), M[j]? = some v → v.oneCell' = true
 th : ∀ k x, ths[k]? = some x → ∃ y : C9, (∀ j v, y.v[j]? = some v → M[k * 9 + j]? = some v) ∧ R3o L B K w y x
section
variable {L B K : Nat} {w : World} {M : Array Value} {ths : List Th}
theorem RWo.of (K : Nat) (h : RWd L B w M ths) : RWo L B K w M ths := ⟨h.size, h.len, h.one, fun k x hx => by obtain ⟨y, h1, h2⟩ := h.th k x hx; exact ⟨y, h1, R3o.of K h2⟩⟩
theorem RWo.set_ (h : RWo L B K w M ths) {p : Addr} (h1 : B ≤ p.block) (h2 : p.block < K) (u : Value) : RWo L B K (w.setCell p u) M ths := ⟨h.size, h.len, h.one, fun k x hx => by obtain ⟨y, h3, h4⟩ := h.th k x hx; exact ⟨y, h3, h4.set_ h1 h2 u⟩⟩
theorem RWo.row (h : RWo L B K w M ths) {g : Nat} (h1 : B ≤ g) (h2 : g < K) (cs : Array Value) : RWo L B K (w.setRow g cs) M ths := ⟨h.size, h.len, h.one, fun k x hx => by obtain ⟨y, h3, h4⟩ := h.th k x hx; exact ⟨y, h3, h4.row h1 h2 cs⟩⟩
theorem RWo.all (h : RWo L B K w M ths) (hB : B ≤ w.heap.size) : RWd L w.heap.size w M ths := ⟨h.size, h.len, h.one, fun k x hx => by obtain ⟨y, h1, h2⟩ := h.th k x hx; exact ⟨y, h1, h2.all hB⟩⟩
theorem RWo.put {k : Nat} {x : Th} {y : C9} (h : RWo L B K w M ths) (hk : k < 16) (hy : R3o L B K w y x) : RWo L B K w (put9 M (k * 9) y) (ths.set k x) := by
 have hs := h.size
 have hl := h.len
 refine ⟨(put9_size _ _ _).trans hs, by simpa using hl, put9_one hs hk h.one y, fun i z hz => ?_⟩
 rw [List.getElem?_set] at hz
 by_cases hki : k = i
 ·subst hki
  rw [if_pos rfl, if_pos (by omega)] at hz
  injection hz with hz
  subst hz
  exact ⟨y, fun j v hv => put9_at (by omega) hv, hy⟩
 ·rw [if_neg hki] at hz
  obtain ⟨y9, h1, h2⟩ := h.th i z hz
  refine ⟨y9, fun j v hv => ?_, h2⟩
  have hj : j < 9 := (List.getElem?_eq_some_iff.1 hv).1
  rw [put9_other (by omega)]
  exact h1 j v hv
end
def DoesRW (L B : Nat) (w : World) (ths : List Th) (e : Ending) (w' : World) : Prop := ∃ M r, e = .returned (.tuple #[.agg M, r]) ∧ RWo L B w.heap.size w' M ths ∧ ResV r ∧ Below w.heap.size w w'
theorem cells9 {V : World} {g : Nat} {t : TypeId} {M : Array Value} (h : Bk V g t M) {k : Nat} {y : C9} (hy : ∀ j v, y.v[j]? = some v → M[k + j]? = some v) : ∀ j v, y.v[j]? = some v → V.cell? ⟨g, k + j, none⟩ = some v := fun j v hv => (h.cell _).trans (hy j v hv)
def isT (x : Th) : Int := isN x.q.isSome x.c.isSome x.t.isSome
theorem is_th {L B : Nat} {w : World} {y : C9} {x : Th} (h : RTh L B w y x) : isN y.b0 y.b1 y.b2 = isT x := by
 obtain ⟨q, c, t⟩ := x
 obtain ⟨b0, k0, A0, n0, c0, b1, k1, A1, n1, c1, b2, k2, A2, n2, c2⟩ := y
 obtain ⟨hq, hc, ht⟩ := h
 simp only at hq hc ht
 have e0 : b0 = q.isSome := by
  rcases q with _ | ⟨cap, l⟩
  ·exact (rq_none hq).1
  ·exact (rq_some hq).1
 have e1 : b1 = c.isSome := by
  rcases c with _ | ⟨cap, l⟩
  ·exact (rq_none hc).1
  ·exact (rq_some hc).1
 have e2 : b2 = t.isSome := by
  rcases t with _ | ⟨cap, l⟩
  ·exact (rt_none ht).1
  ·exact (rt_some ht).1
 show isN b0 b1 b2 = isN q.isSome c.isSome t.isSome
 rw [e0, e1, e2]
theorem rw_one {L B : Nat} {w : World} {M : Array Value} {ths : List Th} (h : RWd L B w M ths) : M.all (·.oneCell') = true := by
 rw [Array.all_eq_true_iff_forall_mem]
 intro v hv
 obtain ⟨j, hj, rfl⟩ := Array.mem_iff_getElem.1 hv
 exact h.one j _ (Array.getElem?_eq_getElem hj)
set_option maxRecDepth 100000 in
set_option maxHeartbeats 8000000 in
theorem rdo_out (ths : List Th) (M : Array Value) (n a0 a1 a2 a3 : Int) (L B : Nat) (w : World) (hx : RWd L B w M ths) (hL : L ≤ w.heap.size) (hB : B ≤ w.heap.size) (hn : n < 0 ∨ 18 < n) :
 Calls Tryz.prog 7 #[.agg M, .int .i64 n, .agg #[.int .u64 a0, .int .u64 a1, .int .u64 a2, .int .u64 a3]] w (DoesRW L B w ths) := by
 have HX := Lib.hid hx
 have hsz := hx.size
 have hi144 : (Tryz.prog.info? 45).map (·.size) = some M.size := by rw [hsz]; kernel_rfl
 have HI144 := Lib.hid hi144
 have HSz := Lib.hid hsz
 obtain ⟨W1, hW1⟩ : ∃ W1, (((w.alloc (.cells M 45)).alloc (.cells #[.int .u64 a0, .int .u64 a1, .int .u64 a2, .int .u64 a3] 49)).alloc (.cells Tryz.zeroCells45 45)).alloc (.cells #[.int .i64 0, .int .u64 0] 47) = W1 := ⟨_, rfl⟩
 have HD : Hid (D4 w W1 M #[.int .u64 a0, .int .u64 a1, .int .u64 a2, .int .u64 a3] Tryz.zeroCells45 #[.int .i64 0, .int .u64 0]) := by show D4 _ _ _ _ _ _; rw [← hW1]; exact d4_new w M #[.int .u64 a0, .int .u64 a1, .int .u64 a2, .int .u64 a3] Tryz.zeroCells45 #[.int .i64 0, .int .u64 0]
 have HW1 := Lib.hid hW1
 clear hW1 hi144 hsz hx
 go_enter Tryz.func7, Tryz.ntmps7
 go_upto_region 1 with fail
 rw [HW1.out]
 clear HW1
 rcases hn with hn | hn
 ·go_upto_region 2 with fail
  obtain ⟨V1, hV1⟩ : ∃ V, W1.setRow (w.heap.size + 1 + 1) M = V := ⟨_, rfl⟩
  have HE1 : Hid (D4 w V1 M #[.int .u64 a0, .int .u64 a1, .int .u64 a2, .int .u64 a3] M #[.int .i64 0, .int .u64 0]) := by show D4 _ _ _ _ _ _; rw [← hV1]; exact HD.out.row
  have HV1 := Lib.hid hV1
  clear hV1
  have e0 := HE1.out.h7.cell 0; have e1 := HE1.out.h7.cell 1; have f0 := HE1.out.h7.frozen 0; have f1 := HE1.out.h7.frozen 1; have kf := HE1.out.h7.lt
  simp at e0 e1
  obtain ⟨V, hV⟩ : ∃ V, (V1.setCell ⟨(w.heap.size + 1 + 1 + 1), 0, none⟩ (.int .i64 4)).setCell ⟨(w.heap.size + 1 + 1 + 1), 1, none⟩ (.int .u64 0) = V := ⟨_, rfl⟩
  have HE : Hid (D4 w V M #[.int .u64 a0, .int .u64 a1, .int .u64 a2, .int .u64 a3] M #[.int .i64 4, .int .u64 0]) := by show D4 _ _ _ _ _ _; rw [← hV]; exact HE1.out.res _ _
  have HV := Lib.hid hV
  have HRW := Lib.hid (RWo.of w.heap.size (HX.out.below HE.out.hb hB))
  clear hV
  go_wp2_with (first
   | (refine wpList_load_row (by rfl) 45 (.tmp 3) (by rfl) w.heap.size (by rfl) 45 M (0, 0) _ HD.out.hm Tryz.underlying45 (by rfl) HI144.out ?_)
   | (refine wpList_store_row (by rfl) 45 (.tmp 6) (.tmp 17) (by rfl) (w.heap.size + 1 + 1) M (by rfl) (by rfl) 45 (Tryz.zeroCells45) HD.out.hz HI144.out (by rw [HSz.out]; exact z144_size) (rw_one HX.out) ?_; rw [HV1.out])
   | ((with_reducible show bodyPost _ _ _ _ _ _); rw [HV.out]; refine bodyPost_ret (results_cc rfl _ V (w.heap.size + 1 + 1) (w.heap.size + 1 + 1 + 1) 45 47 M #[.int .i64 4, .int .u64 0] _ _ (by rfl) HE.out.hz Tryz.underlying45 rfl HI144.out (by rfl) HE.out.h7 Tryz.underlying47 rfl (by kernel_rfl)) rfl ?_; exact ⟨_, _, rfl, HRW.out, ⟨_, _, rfl⟩, HE.out.hb⟩))
 ·have hn0 : ¬ n < 0 := by omega
  go_upto_region 2 with fail
  obtain ⟨V1, hV1⟩ : ∃ V, W1.setRow (w.heap.size + 1 + 1) M = V := ⟨_, rfl⟩
  have HE1 : Hid (D4 w V1 M #[.int .u64 a0, .int .u64 a1, .int .u64 a2, .int .u64 a3] M #[.int .i64 0, .int .u64 0]) := by show D4 _ _ _ _ _ _; rw [← hV1]; exact HD.out.row
  have HV1 := Lib.hid hV1
  clear hV1
  have e0 := HE1.out.h7.cell 0; have e1 := HE1.out.h7.cell 1; have f0 := HE1.out.h7.frozen 0; have f1 := HE1.out.h7.frozen 1; have kf := HE1.out.h7.lt
  simp at e0 e1
  obtain ⟨V, hV⟩ : ∃ V, (V1.setCell ⟨(w.heap.size + 1 + 1 + 1), 0, none⟩ (.int .i64 4)).setCell ⟨(w.heap.size + 1 + 1 + 1), 1, none⟩ (.int .u64 0) = V := ⟨_, rfl⟩
  have HE : Hid (D4 w V M #[.int .u64 a0, .int .u64 a1, .int .u64 a2, .int .u64 a3] M #[.int .i64 4, .int .u64 0]) := by show D4 _ _ _ _ _ _; rw [← hV]; exact HE1.out.res _ _
  have HV := Lib.hid hV
  have HRW := Lib.hid (RWo.of w.heap.size (HX.out.below HE.out.hb hB))
  clear hV
  go_wp2_with (first
   | (refine wpList_load_row (by rfl) 45 (.tmp 3) (by rfl) w.heap.size (by rfl) 45 M (0, 0) _ HD.out.hm Tryz.underlying45 (by rfl) HI144.out ?_)
   | (refine wpList_store_row (by rfl) 45 (.tmp 6) (.tmp 17) (by rfl) (w.heap.size + 1 + 1) M (by rfl) (by rfl) 45 (Tryz.zeroCells45) HD.out.hz HI144.out (by rw [HSz.out]; exact z144_size) (rw_one HX.out) ?_; rw [HV1.out])
   | ((with_reducible show bodyPost _ _ _ _ _ _); rw [HV.out]; refine bodyPost_ret (results_cc rfl _ V (w.heap.size + 1 + 1) (w.heap.size + 1 + 1 + 1) 45 47 M #[.int .i64 4, .int .u64 0] _ _ (by rfl) HE.out.hz Tryz.underlying45 rfl HI144.out (by rfl) HE.out.h7 Tryz.underlying47 rfl (by kernel_rfl)) rfl ?_; exact ⟨_, _, rfl, HRW.out, ⟨_, _, rfl⟩, HE.out.hb⟩))
set_option maxRecDepth 100000 in
set_option maxHeartbeats 8000000 in
theorem rdo_far (ths : List Th) (M : Array Value) (n a0 a1 a2 a3 : Int) (L B : Nat) (w : World) (hx : RWd L B w M ths) (hL : L ≤ w.heap.size) (hB : B ≤ w.heap.size) (hl : 0 ≤ n) (hh : n ≤ 18) (ha : 15 < a0) :
 Calls Tryz.prog 7 #[.agg M, .int .i64 n, .agg #[.int .u64 a0, .int .u64 a1, .int .u64 a2, .int .u64 a3]] w (DoesRW L B w ths) := by
 have HX := Lib.hid hx
 have hsz := hx.size
 have hi144 : (Tryz.prog.info? 45).map (·.size) = some M.size := by rw [hsz]; kernel_rfl
 have HI144 := Lib.hid hi144
 have HSz := Lib.hid hsz
 obtain ⟨W1, hW1⟩ : ∃ W1, (((w.alloc (.cells M 45)).alloc (.cells #[.int .u64 a0, .int .u64 a1, .int .u64 a2, .int .u64 a3] 49)).alloc (.cells Tryz.zeroCells45 45)).alloc (.cells #[.int .i64 0, .int .u64 0] 47) = W1 := ⟨_, rfl⟩
 have HD : Hid (D4 w W1 M #[.int .u64 a0, .int .u64 a1, .int .u64 a2, .int .u64 a3] Tryz.zeroCells45 #[.int .i64 0, .int .u64 0]) := by show D4 _ _ _ _ _ _; rw [← hW1]; exact d4_new w M #[.int .u64 a0, .int .u64 a1, .int .u64 a2, .int .u64 a3] Tryz.zeroCells45 #[.int .i64 0, .int .u64 0]
 have HW1 := Lib.hid hW1
 clear hW1 hi144 hsz hx
 go_enter Tryz.func7, Tryz.ntmps7
 go_upto_region 1 with fail
 rw [HW1.out]
 clear HW1
 have q0 : W1.cell? ⟨w.heap.size + 1, 0, none⟩ = some (.int .u64 a0) := HD.out.ha.cell 0
 have hn0 : ¬ n < 0 := by omega
 have hn1 : ¬ (n > 18) := by omega
 have hfar : a0 > 15 := ha
 go_upto_region 4 with fail
 obtain ⟨V1, hV1⟩ : ∃ V, W1.setRow (w.heap.size + 1 + 1) M = V := ⟨_, rfl⟩
 have HE1 : Hid (D4 w V1 M #[.int .u64 a0, .int .u64 a1, .int .u64 a2, .int .u64 a3] M #[.int .i64 0, .int .u64 0]) := by show D4 _ _ _ _ _ _; rw [← hV1]; exact HD.out.row
 have HV1 := Lib.hid hV1
 clear hV1
 have e0 := HE1.out.h7.cell 0; have e1 := HE1.out.h7.cell 1; have f0 := HE1.out.h7.frozen 0; have f1 := HE1.out.h7.frozen 1; have kf := HE1.out.h7.lt
 simp at e0 e1
 obtain ⟨V, hV⟩ : ∃ V, (V1.setCell ⟨(w.heap.size + 1 + 1 + 1), 0, none⟩ (.int .i64 44)).setCell ⟨(w.heap.size + 1 + 1 + 1), 1, none⟩ (.int .u64 0) = V := ⟨_, rfl⟩
 have HE : Hid (D4 w V M #[.int .u64 a0, .int .u64 a1, .int .u64 a2, .int .u64 a3] M #[.int .i64 44, .int .u64 0]) := by show D4 _ _ _ _ _ _; rw [← hV]; exact HE1.out.res _ _
 have HV := Lib.hid hV
 have HRW := Lib.hid (RWo.of w.heap.size (HX.out.below HE.out.hb hB))
 clear hV
 go_wp2_with (first
  | (refine wpList_load_row (by rfl) 45 (.tmp 3) (by rfl) w.heap.size (by rfl) 45 M (0, 0) _ HD.out.hm Tryz.underlying45 (by rfl) HI144.out ?_)
  | (refine wpList_store_row (by rfl) 45 (.tmp 6) (.tmp 22) (by rfl) (w.heap.size + 1 + 1) M (by rfl) (by rfl) 45 (Tryz.zeroCells45) HD.out.hz HI144.out (by rw [HSz.out]; exact z144_size) (rw_one HX.out) ?_; rw [HV1.out])
  | ((with_reducible show bodyPost _ _ _ _ _ _); rw [HV.out]; refine bodyPost_ret (results_cc rfl _ V (w.heap.size + 1 + 1) (w.heap.size + 1 + 1 + 1) 45 47 M #[.int .i64 44, .int .u64 0] _ _ (by rfl) HE.out.hz Tryz.underlying45 rfl HI144.out (by rfl) HE.out.h7 Tryz.underlying47 rfl (by kernel_rfl)) rfl ?_; exact ⟨_, _, rfl, HRW.out, ⟨_, _, rfl⟩, HE.out.hb⟩))
theorem cell_of {V : World} {g : Nat} {t : TypeId} {cs : Array Value} (h : Bk V g t cs) : ∀ (j : Nat) (v : Value), cs[j]? = some v → V.cell? ⟨g, j, none⟩ = some v := fun j v hv => (h.cell _).trans hv
set_option maxRecDepth 100000 in
set_option maxHeartbeats 8000000 in
theorem rdo_bad (ths : List Th) (M : Array Value) (n k : Nat) (a1 a2 a3 : Int) (x : Th) (nm : ByteArray) (L B : Nat) (w : World) (hx : RWd L B w M ths) (hL : L ≤ w.heap.size) (hB : B ≤ w.heap.size) (hn : n ≤ 18) (hk : k < 16) (hxk : ths[k]? = some x) (hnm : rNm[n]? = some (.string nm)) (kd : Int) (hkn : kindN n = kd) (hi0 : isT x ≠ 0) (hi1 : isT x ≠ kd) (hkd : 1 ≤ kd) (b : Bool) (hb : (nm.toList == [110, 101, 119]) = b) :
 Calls Tryz.prog 7 #[.agg M, .int .i64 n, .agg #[.int .u64 k, .int .u64 a1, .int .u64 a2, .int .u64 a3]] w (DoesRW L B w ths) := by
 have HKn := Lib.hid hkn
 obtain ⟨I, hI⟩ : ∃ I, isT x = I := ⟨_, rfl⟩
 rw [hI] at hi0 hi1
 have hi2 : (I != 0) = true := by simpa using hi0
 have hi3 : (I != kd) = true := by simpa using hi1
 clear hi0 hi1
 have HX := Lib.hid hx
 have hsz := hx.size
 have hi144 : (Tryz.prog.info? 45).map (·.size) = some M.size := by rw [hsz]; kernel_rfl
 have HI144 := Lib.hid hi144
 have HSz := Lib.hid hsz
 obtain ⟨W1, hW1⟩ : ∃ W1, (((w.alloc (.cells M 45)).alloc (.cells #[.int .u64 k, .int .u64 a1, .int .u64 a2, .int .u64 a3] 49)).alloc (.cells Tryz.zeroCells45 45)).alloc (.cells #[.int .i64 0, .int .u64 0] 47) = W1 := ⟨_, rfl⟩
 have HD : Hid (D4 w W1 M #[.int .u64 k, .int .u64 a1, .int .u64 a2, .int .u64 a3] Tryz.zeroCells45 #[.int .i64 0, .int .u64 0]) := by show D4 _ _ _ _ _ _; rw [← hW1]; exact d4_new w M #[.int .u64 k, .int .u64 a1, .int .u64 a2, .int .u64 a3] Tryz.zeroCells45 #[.int .i64 0, .int .u64 0]
 have HW1 := Lib.hid hW1
 clear hW1 hi144 hsz hx
 go_enter Tryz.func7, Tryz.ntmps7
 go_upto_region 1 with fail
 rw [HW1.out]
 clear HW1
 have q0 : W1.cell? ⟨w.heap.size + 1, 0, none⟩ = some (.int .u64 k) := HD.out.ha.cell 0
 have q1 : W1.cell? ⟨w.heap.size + 1, 1, none⟩ = some (.int .u64 a1) := HD.out.ha.cell 1
 have q2 : W1.cell? ⟨w.heap.size + 1, 2, none⟩ = some (.int .u64 a2) := HD.out.ha.cell 2
 have HNm := Lib.hid hnm
 have hni : (n : Int) < 19 := by omega
 have hn0 : ¬ ((n : Int) < 0) := by omega
 have hn1 : ¬ ((n : Int) > 18) := by omega
 have hki : (k : Int) < 16 := by omega
 have hk1 : ¬ ((k : Int) > 15) := by omega
 obtain ⟨y, hcy, hy⟩ := HX.out.th k x hxk
 have HY := Lib.hid hy
 have HCy := Lib.hid hcy
 have HIs := Lib.hid ((is_th hy).trans hI)
 have d := cells9 HD.out.hm HCy.out
 have d0 := d 0 _ rfl
 have d1 := d 1 _ rfl
 have d2 := d 2 _ rfl
 have d3 := d 3 _ rfl
 have d4 := d 4 _ rfl
 have d5 := d 5 _ rfl
 have d6 := d 6 _ rfl
 have d7 := d 7 _ rfl
 have d8 := d 8 _ rfl
 rw [Nat.add_zero] at d0
 clear d hcy hy
 go_upto_region 6 with fail
 clear d0 d1 d2 d3 d4 d5 d6 d7 d8 q0 q1 q2
 obtain ⟨W2, hW2⟩ : ∃ W2, W1.alloc (.cells #[.bool y.b0, .int .u64 y.k0, .slice y.A0 y.n0 y.c0, .bool y.b1, .int .u64 y.k1, .slice y.A1 y.n1 y.c1, .bool y.b2, .int .u64 y.k2, .slice y.A2 y.n2 y.c2] 42) = W2 := ⟨_, rfl⟩
 have H8 : Hid (Bk W2 W1.heap.size 42 #[.bool y.b0, .int .u64 y.k0, .slice y.A0 y.n0 y.c0, .bool y.b1, .int .u64 y.k1, .slice y.A1 y.n1 y.c1, .bool y.b2, .int .u64 y.k2, .slice y.A2 y.n2 y.c2]) := by show Bk _ _ _ _; rw [← hW2]; exact Bk.new _ _ _
 have hb : Below W1.heap.size W1 W2 := by rw [← hW2]; exact (Below.refl _ _).alloc (Nat.le_refl _) _
 have HG8 : Hid (w.heap.size + 3 < W1.heap.size) := HD.out.h7.lt
 have HD := Lib.hid (HD.out.below hb)
 rw [hW2]
 clear hW2 hb
 go_wp2_with fail
 refine (rnames_any W2).mono ?_
 rintro e W3 ⟨rfl, hW3⟩
 have hb : Below W2.heap.size W2 W3 := by rw [hW3]; exact (Below.refl _ _).alloc (Nat.le_refl _) _
 have qn : W3.cell? ⟨W2.heap.size, n, none⟩ = some (.string nm) := by rw [hW3]; exact ((Bk.new _ _ _).cell n).trans HNm.out
 have HD := Lib.hid (HD.out.below hb)
 have H8 := Lib.hid (H8.out.below hb H8.out.lt)
 have e8 := cell_of H8.out
 have e0 := e8 0 _ rfl
 have e1 := e8 1 _ rfl
 have e2 := e8 2 _ rfl
 have e3 := e8 3 _ rfl
 have e4 := e8 4 _ rfl
 have e5 := e8 5 _ rfl
 have e6 := e8 6 _ rfl
 have e7 := e8 7 _ rfl
 have e8 := e8 8 _ rfl
 clear hW3 hb e8
 go_wp2_with fail
 refine (ris23_any y.b0 y.b1 y.b2 _ _ _ _ _ _ _).mono ?_
 rintro e W4 ⟨rfl, hb⟩
 rw [HIs.out]
 have HD := Lib.hid (HD.out.below hb)
 have H8 := Lib.hid (H8.out.below hb H8.out.lt)
 clear hb e0 e1 e2 e3 e4 e5 e6 e7
 have e8 := cell_of H8.out
 have e0 := e8 0 _ rfl
 have e1 := e8 1 _ rfl
 have e2 := e8 2 _ rfl
 have e3 := e8 3 _ rfl
 have e4 := e8 4 _ rfl
 have e5 := e8 5 _ rfl
 have e6 := e8 6 _ rfl
 have e7 := e8 7 _ rfl
 have e8 := e8 8 _ rfl
 clear e8
 go_wp2_with fail
 refine (ris23_any y.b0 y.b1 y.b2 _ _ _ _ _ _ _).mono ?_
 rintro e W5 ⟨rfl, hb⟩
 rw [HIs.out]
 have HD := Lib.hid (HD.out.below hb)
 have H8 := Lib.hid (H8.out.below hb H8.out.lt)
 clear hb e0 e1 e2 e3 e4 e5 e6 e7
 have e8 := cell_of H8.out
 have e0 := e8 0 _ rfl
 have e1 := e8 1 _ rfl
 have e2 := e8 2 _ rfl
 have e3 := e8 3 _ rfl
 have e4 := e8 4 _ rfl
 have e5 := e8 5 _ rfl
 have e6 := e8 6 _ rfl
 have e7 := e8 7 _ rfl
 have e8 := e8 8 _ rfl
 clear e8
 go_wp2_with fail
 refine (rkind_any n _).mono ?_
 rintro e Wk ⟨rfl, hWk⟩
 rw [hWk, HKn.out]
 clear hWk Wk
 rcases b with _ | _
 ·go_upto_region 10 with fail
  obtain ⟨V1, hV1⟩ : ∃ V, W5.setRow (w.heap.size + 1 + 1) M = V := ⟨_, rfl⟩
  have HE1 : Hid (D4 w V1 M #[.int .u64 k, .int .u64 a1, .int .u64 a2, .int .u64 a3] M #[.int .i64 0, .int .u64 0]) := by show D4 _ _ _ _ _ _; rw [← hV1]; exact HD.out.row
  have HV1 := Lib.hid hV1
  clear hV1
  have e0 := HE1.out.h7.cell 0; have e1 := HE1.out.h7.cell 1; have f0 := HE1.out.h7.frozen 0; have f1 := HE1.out.h7.frozen 1; have kf := HE1.out.h7.lt
  simp at e0 e1
  obtain ⟨V, hV⟩ : ∃ V, (V1.setCell ⟨(w.heap.size + 1 + 1 + 1), 0, none⟩ (.int .i64 40)).setCell ⟨(w.heap.size + 1 + 1 + 1), 1, none⟩ (.int .u64 6) = V := ⟨_, rfl⟩
  have HE : Hid (D4 w V M #[.int .u64 k, .int .u64 a1, .int .u64 a2, .int .u64 a3] M #[.int .i64 40, .int .u64 6]) := by show D4 _ _ _ _ _ _; rw [← hV]; exact HE1.out.res _ _
  have HV := Lib.hid hV
  have HRW := Lib.hid (RWo.of w.heap.size (HX.out.below HE.out.hb hB))
  clear hV
  go_wp2_with (first
   | (refine wpList_load_row (by rfl) 45 (.tmp 3) (by rfl) w.heap.size (by rfl) 45 M (0, 0) _ HD.out.hm Tryz.underlying45 (by rfl) HI144.out ?_)
   | (refine wpList_store_row (by rfl) 45 (.tmp 6) (.tmp 47) (by rfl) (w.heap.size + 1 + 1) M (by rfl) (by rfl) 45 (Tryz.zeroCells45) HD.out.hz HI144.out (by rw [HSz.out]; exact z144_size) (rw_one HX.out) ?_; rw [HV1.out])
   | ((with_reducible show bodyPost _ _ _ _ _ _); rw [HV.out]; refine bodyPost_ret (results_cc rfl _ V (w.heap.size + 1 + 1) (w.heap.size + 1 + 1 + 1) 45 47 M #[.int .i64 40, .int .u64 6] _ _ (by rfl) HE.out.hz Tryz.underlying45 rfl HI144.out (by rfl) HE.out.h7 Tryz.underlying47 rfl (by kernel_rfl)) rfl ?_; exact ⟨_, _, rfl, HRW.out, ⟨_, _, rfl⟩, HE.out.hb⟩))
 ·go_upto_region 9 with fail
  obtain ⟨V1, hV1⟩ : ∃ V, W5.setRow (w.heap.size + 1 + 1) M = V := ⟨_, rfl⟩
  have HE1 : Hid (D4 w V1 M #[.int .u64 k, .int .u64 a1, .int .u64 a2, .int .u64 a3] M #[.int .i64 0, .int .u64 0]) := by show D4 _ _ _ _ _ _; rw [← hV1]; exact HD.out.row
  have HV1 := Lib.hid hV1
  clear hV1
  have e0 := HE1.out.h7.cell 0; have e1 := HE1.out.h7.cell 1; have f0 := HE1.out.h7.frozen 0; have f1 := HE1.out.h7.frozen 1; have kf := HE1.out.h7.lt
  simp at e0 e1
  obtain ⟨V, hV⟩ : ∃ V, (V1.setCell ⟨(w.heap.size + 1 + 1 + 1), 0, none⟩ (.int .i64 40)).setCell ⟨(w.heap.size + 1 + 1 + 1), 1, none⟩ (.int .u64 4) = V := ⟨_, rfl⟩
  have HE : Hid (D4 w V M #[.int .u64 k, .int .u64 a1, .int .u64 a2, .int .u64 a3] M #[.int .i64 40, .int .u64 4]) := by show D4 _ _ _ _ _ _; rw [← hV]; exact HE1.out.res _ _
  have HV := Lib.hid hV
  have HRW := Lib.hid (RWo.of w.heap.size (HX.out.below HE.out.hb hB))
  clear hV
  go_wp2_with (first
   | (refine wpList_load_row (by rfl) 45 (.tmp 3) (by rfl) w.heap.size (by rfl) 45 M (0, 0) _ HD.out.hm Tryz.underlying45 (by rfl) HI144.out ?_)
   | (refine wpList_store_row (by rfl) 45 (.tmp 6) (.tmp 45) (by rfl) (w.heap.size + 1 + 1) M (by rfl) (by rfl) 45 (Tryz.zeroCells45) HD.out.hz HI144.out (by rw [HSz.out]; exact z144_size) (rw_one HX.out) ?_; rw [HV1.out])
   | ((with_reducible show bodyPost _ _ _ _ _ _); rw [HV.out]; refine bodyPost_ret (results_cc rfl _ V (w.heap.size + 1 + 1) (w.heap.size + 1 + 1 + 1) 45 47 M #[.int .i64 40, .int .u64 4] _ _ (by rfl) HE.out.hz Tryz.underlying45 rfl HI144.out (by rfl) HE.out.h7 Tryz.underlying47 rfl (by kernel_rfl)) rfl ?_; exact ⟨_, _, rfl, HRW.out, ⟨_, _, rfl⟩, HE.out.hb⟩))
set_option maxRecDepth 100000 in
set_option maxHeartbeats 8000000 in
theorem rdo_q (ths : List Th) (M : Array Value) (n k : Nat) (a1 a2 a3 : Int) (x : Th) (nm : ByteArray) (L B : Nat) (w : World) (hx : RWd L B w M ths) (hL : L ≤ w.heap.size) (hB : B ≤ w.heap.size) (hn : n ≤ 18) (hk : k < 16) (hxk : ths[k]? = some x) (hnm : rNm[n]? = some (.string nm)) (hnk : n < 6) (o' : QO) (hi : isT x = 0 ∨ isT x = 1)
 (hd : ∀ (vs : Array Value) (V : World), RQ L B V vs x.q → w.heap.size ≤ V.heap.size → Calls Tryz.prog 24 #[.agg vs, .string nm, .int .u64 a1] V (DoesRQ L B V o')) :
 Calls Tryz.prog 7 #[.agg M, .int .i64 n, .agg #[.int .u64 k, .int .u64 a1, .int .u64 a2, .int .u64 a3]] w (DoesRW L B w (ths.set k { x with q := o' })) := by
 have HKn : Hid (kindN n = 1) := by show _ = _; unfold kindN; rw [if_pos (by omega)]
 have HDo := Lib.hid hd
 have HI := Lib.hid hi
 clear hd hi hnk
 have HX := Lib.hid hx
 have hsz := hx.size
 have hi144 : (Tryz.prog.info? 45).map (·.size) = some M.size := by rw [hsz]; kernel_rfl
 have HI144 := Lib.hid hi144
 have HSz := Lib.hid hsz
 obtain ⟨W1, hW1⟩ : ∃ W1, (((w.alloc (.cells M 45)).alloc (.cells #[.int .u64 k, .int .u64 a1, .int .u64 a2, .int .u64 a3] 49)).alloc (.cells Tryz.zeroCells45 45)).alloc (.cells #[.int .i64 0, .int .u64 0] 47) = W1 := ⟨_, rfl⟩
 have HD : Hid (D4 w W1 M #[.int .u64 k, .int .u64 a1, .int .u64 a2, .int .u64 a3] Tryz.zeroCells45 #[.int .i64 0, .int .u64 0]) := by show D4 _ _ _ _ _ _; rw [← hW1]; exact d4_new w M #[.int .u64 k, .int .u64 a1, .int .u64 a2, .int .u64 a3] Tryz.zeroCells45 #[.int .i64 0, .int .u64 0]
 have HW1 := Lib.hid hW1
 clear hW1 hi144 hsz hx
 go_enter Tryz.func7, Tryz.ntmps7
 go_upto_region 1 with fail
 rw [HW1.out]
 clear HW1
 have q0 : W1.cell? ⟨w.heap.size + 1, 0, none⟩ = some (.int .u64 k) := HD.out.ha.cell 0
 have q1 : W1.cell? ⟨w.heap.size + 1, 1, none⟩ = some (.int .u64 a1) := HD.out.ha.cell 1
 have q2 : W1.cell? ⟨w.heap.size + 1, 2, none⟩ = some (.int .u64 a2) := HD.out.ha.cell 2
 have HNm := Lib.hid hnm
 have hni : (n : Int) < 19 := by omega
 have hn0 : ¬ ((n : Int) < 0) := by omega
 have hn1 : ¬ ((n : Int) > 18) := by omega
 have hki : (k : Int) < 16 := by omega
 have hk1 : ¬ ((k : Int) > 15) := by omega
 obtain ⟨y, hcy, hy⟩ := HX.out.th k x hxk
 have HY := Lib.hid hy
 have HCy := Lib.hid hcy
 have HIs := Lib.hid (is_th hy)
 have d := cells9 HD.out.hm HCy.out
 have d0 := d 0 _ rfl
 have d1 := d 1 _ rfl
 have d2 := d 2 _ rfl
 have d3 := d 3 _ rfl
 have d4 := d 4 _ rfl
 have d5 := d 5 _ rfl
 have d6 := d 6 _ rfl
 have d7 := d 7 _ rfl
 have d8 := d 8 _ rfl
 rw [Nat.add_zero] at d0
 clear d hcy hy
 go_upto_region 6 with fail
 clear d0 d1 d2 d3 d4 d5 d6 d7 d8 q0 q1 q2
 obtain ⟨W2, hW2⟩ : ∃ W2, W1.alloc (.cells #[.bool y.b0, .int .u64 y.k0, .slice y.A0 y.n0 y.c0, .bool y.b1, .int .u64 y.k1, .slice y.A1 y.n1 y.c1, .bool y.b2, .int .u64 y.k2, .slice y.A2 y.n2 y.c2] 42) = W2 := ⟨_, rfl⟩
 have H8 : Hid (Bk W2 W1.heap.size 42 #[.bool y.b0, .int .u64 y.k0, .slice y.A0 y.n0 y.c0, .bool y.b1, .int .u64 y.k1, .slice y.A1 y.n1 y.c1, .bool y.b2, .int .u64 y.k2, .slice y.A2 y.n2 y.c2]) := by show Bk _ _ _ _; rw [← hW2]; exact Bk.new _ _ _
 have hb : Below W1.heap.size W1 W2 := by rw [← hW2]; exact (Below.refl _ _).alloc (Nat.le_refl _) _
 have HG8 : Hid (w.heap.size + 3 < W1.heap.size) := HD.out.h7.lt
 have HD := Lib.hid (HD.out.below hb)
 rw [hW2]
 clear hW2 hb
 go_wp2_with fail
 refine (rnames_any W2).mono ?_
 rintro e W3 ⟨rfl, hW3⟩
 have hb : Below W2.heap.size W2 W3 := by rw [hW3]; exact (Below.refl _ _).alloc (Nat.le_refl _) _
 have qn : W3.cell? ⟨W2.heap.size, n, none⟩ = some (.string nm) := by rw [hW3]; exact ((Bk.new _ _ _).cell n).trans HNm.out
 have HD := Lib.hid (HD.out.below hb)
 have H8 := Lib.hid (H8.out.below hb H8.out.lt)
 have e8 := cell_of H8.out
 have e0 := e8 0 _ rfl
 have e1 := e8 1 _ rfl
 have e2 := e8 2 _ rfl
 have e3 := e8 3 _ rfl
 have e4 := e8 4 _ rfl
 have e5 := e8 5 _ rfl
 have e6 := e8 6 _ rfl
 have e7 := e8 7 _ rfl
 have e8 := e8 8 _ rfl
 clear hW3 hb e8
 go_wp2_with fail
 refine (ris23_any y.b0 y.b1 y.b2 _ _ _ _ _ _ _).mono ?_
 rintro e W4 ⟨rfl, hb⟩
 rw [HIs.out]
 have HD := Lib.hid (HD.out.below hb)
 have H8 := Lib.hid (H8.out.below hb H8.out.lt)
 clear hb e0 e1 e2 e3 e4 e5 e6 e7
 have e8 := cell_of H8.out
 have e0 := e8 0 _ rfl
 have e1 := e8 1 _ rfl
 have e2 := e8 2 _ rfl
 have e3 := e8 3 _ rfl
 have e4 := e8 4 _ rfl
 have e5 := e8 5 _ rfl
 have e6 := e8 6 _ rfl
 have e7 := e8 7 _ rfl
 have e8 := e8 8 _ rfl
 clear e8
 rcases HI.out with hI | hI
 ·rw [hI]
  go_upto_region 12 with fail
  obtain ⟨W5, hW5⟩ : ∃ W5, W4.alloc (.cells #[.int .i64 0, .int .u64 0] 47) = W5 := ⟨_, rfl⟩
  have H10 : Hid (Bk W5 W4.heap.size 47 #[.int .i64 0, .int .u64 0]) := by show Bk _ _ _ _; rw [← hW5]; exact Bk.new _ _ _
  have hb : Below W4.heap.size W4 W5 := by rw [← hW5]; exact (Below.refl _ _).alloc (Nat.le_refl _) _
  have HG10 : Hid (W1.heap.size < W4.heap.size) := H8.out.lt
  have HD := Lib.hid (HD.out.below hb)
  have H8 := Lib.hid (H8.out.below hb H8.out.lt)
  rw [hW5]
  clear hW5 hb e0 e1 e2 e3 e4 e5 e6 e7 e8
  go_wp2_with fail
  refine (rkind_any n _).mono ?_
  rintro e Wk ⟨rfl, hWk⟩
  rw [hWk, HKn.out]
  clear hWk Wk
  have e9 := cell_of H8.out
  have e0 := e9 0 _ rfl
  have e1 := e9 1 _ rfl
  have e2 := e9 2 _ rfl
  have e3 := e9 3 _ rfl
  have e4 := e9 4 _ rfl
  have e5 := e9 5 _ rfl
  have e6 := e9 6 _ rfl
  have e7 := e9 7 _ rfl
  have e8 := e9 8 _ rfl
  have q1 : W5.cell? ⟨w.heap.size + 1, 1, none⟩ = some (.int .u64 a1) := HD.out.ha.cell 1
  have q2 : W5.cell? ⟨w.heap.size + 1, 2, none⟩ = some (.int .u64 a2) := HD.out.ha.cell 2
  clear e9
  go_wp2_with fail
  have HK5 : Hid (w.heap.size + 3 < W5.heap.size) := by have := HG8.out; have := HG10.out; have := H10.out.lt; show _ < _; omega
  have HYw := Lib.hid (HY.out.below HD.out.hb hB)
  refine (HDo.out _ _ HYw.out.q HD.out.hb.size).mono ?_
  rintro e W7 ⟨vs, r, rfl, hq, ⟨cc, uu, rfl⟩, hb⟩
  obtain ⟨is, cap, A, m, c, rfl⟩ := hq.cells
  obtain ⟨y', hy'⟩ : ∃ y' : C9, (⟨is, cap, A, m, c, y.b1, y.k1, y.A1, y.n1, y.c1, y.b2, y.k2, y.A2, y.n2, y.c2⟩ : C9) = y' := ⟨_, rfl⟩
  have HR : Hid (R3o L B W5.heap.size W7 y' { x with q := o' }) := by show R3o _ _ _ _ _ _; rw [← hy']; exact ⟨hq, RQo.of _ (HYw.out.c.below hb (Nat.le_trans hB HD.out.hb.size)), RTo.of _ (HYw.out.t.below hb (Nat.le_trans hB HD.out.hb.size))⟩
  have HD := Lib.hid (HD.out.below hb)
  have H8 := Lib.hid (H8.out.below hb H8.out.lt)
  have H10v := Lib.hid H10.out.lt
  have H10 := Lib.hid (H10.out.below hb H10.out.lt)
  clear hq hb q1 q2 e0 e1 e2 e3 e4 e5 e6 e7 e8
  have e9 := cell_of H8.out
  have e0 := e9 0 _ rfl
  have e1 := e9 1 _ rfl
  have e2 := e9 2 _ rfl
  have f0 := H8.out.frozen 0
  have f1 := H8.out.frozen 1
  have f2 := H8.out.frozen 2
  have kf := H8.out.lt
  have e5 := H10.out.cell 0; have e6 := H10.out.cell 1; have f5 := H10.out.frozen 0; have f6 := H10.out.frozen 1; have kg := H10.out.lt
  simp at e5 e6
  clear e9
  have hlt : W1.heap.size < W4.heap.size := HG10.out
  have hne1 : ¬ (W4.heap.size = W1.heap.size) := by omega
  have hne2 : ¬ (W1.heap.size = W4.heap.size) := by omega
  obtain ⟨W8, hW8⟩ : ∃ W8, (((((W7.setCell ⟨W1.heap.size, 0, none⟩ (.bool is)).setCell ⟨W1.heap.size, 1, none⟩ (.int .u64 cap)).setCell ⟨W1.heap.size, 2, none⟩ (.slice A m c)).setCell ⟨W4.heap.size, 0, none⟩ (.int .i64 cc)).setCell ⟨W4.heap.size, 1, none⟩ (.int .u64 uu)) = W8 := ⟨_, rfl⟩
  have HD8 : Hid (D4 w W8 M #[.int .u64 k, .int .u64 a1, .int .u64 a2, .int .u64 a3] (Tryz.zeroCells45) #[.int .i64 0, .int .u64 0]) := by show D4 _ _ _ _ _ _; rw [← hW8]; exact (((((HD.out.set_ (p := ⟨W1.heap.size, 0, none⟩) (show w.heap.size + 3 < W1.heap.size from HG8.out) _).set_ (p := ⟨W1.heap.size, 1, none⟩) (show w.heap.size + 3 < W1.heap.size from HG8.out) _).set_ (p := ⟨W1.heap.size, 2, none⟩) (show w.heap.size + 3 < W1.heap.size from HG8.out) _).set_ (p := ⟨W4.heap.size, 0, none⟩) (show w.heap.size + 3 < W4.heap.size by have := HG8.out; have := HG10.out; omega) _).set_ (p := ⟨W4.heap.size, 1, none⟩) (show w.heap.size + 3 < W4.heap.size by have := HG8.out; have := HG10.out; omega) _)
  have HR8 : Hid (R3o L B W5.heap.size W8 y' { x with q := o' }) := by show R3o _ _ _ _ _ _; rw [← hW8]; exact (((((HR.out.set_ (p := ⟨W1.heap.size, 0, none⟩) (show B ≤ W1.heap.size by have := HG8.out; omega) (show W1.heap.size < W5.heap.size by have := HG10.out; have := H10v.out; omega) _).set_ (p := ⟨W1.heap.size, 1, none⟩) (show B ≤ W1.heap.size by have := HG8.out; omega) (show W1.heap.size < W5.heap.size by have := HG10.out; have := H10v.out; omega) _).set_ (p := ⟨W1.heap.size, 2, none⟩) (show B ≤ W1.heap.size by have := HG8.out; omega) (show W1.heap.size < W5.heap.size by have := HG10.out; have := H10v.out; omega) _).set_ (p := ⟨W4.heap.size, 0, none⟩) (show B ≤ W4.heap.size by have := HG8.out; have := HG10.out; omega) (show W4.heap.size < W5.heap.size from H10v.out) _).set_ (p := ⟨W4.heap.size, 1, none⟩) (show B ≤ W4.heap.size by have := HG8.out; have := HG10.out; omega) (show W4.heap.size < W5.heap.size from H10v.out) _)
  have H88 : Hid (Bk W8 W1.heap.size 42 #[.bool is, .int .u64 cap, .slice A m c, .bool y.b1, .int .u64 y.k1, .slice y.A1 y.n1 y.c1, .bool y.b2, .int .u64 y.k2, .slice y.A2 y.n2 y.c2]) := by show Bk _ _ _ _; rw [← hW8]; exact (bk_set_ne (bk_set_ne (((H8.out.set_ 0 _).set_ 1 _).set_ 2 _) (p := ⟨W4.heap.size, 0, none⟩) (show W4.heap.size ≠ W1.heap.size by have := HG10.out; omega)) (p := ⟨W4.heap.size, 1, none⟩) (show W4.heap.size ≠ W1.heap.size by have := HG10.out; omega))
  have H108 : Hid (Bk W8 W4.heap.size 47 #[.int .i64 cc, .int .u64 uu]) := by show Bk _ _ _ _; rw [← hW8]; exact (((bk_set_ne (bk_set_ne (bk_set_ne H10.out (p := ⟨W1.heap.size, 0, none⟩) (show W1.heap.size ≠ W4.heap.size by have := HG10.out; omega)) (p := ⟨W1.heap.size, 1, none⟩) (show W1.heap.size ≠ W4.heap.size by have := HG10.out; omega)) (p := ⟨W1.heap.size, 2, none⟩) (show W1.heap.size ≠ W4.heap.size by have := HG10.out; omega)).set_ 0 _).set_ 1 _)
  have HW8 := Lib.hid hW8
  have HNy := Lib.hid hy'
  clear hW8 hy'
  go_upto_region 17 with fail
  rw [HW8.out]
  clear HW8 e0 e1 e2 e5 e6 f0 f1 f2 f5 f6 kf kg
  have q0 : W8.cell? ⟨w.heap.size + 1, 0, none⟩ = some (.int .u64 k) := HD8.out.ha.cell 0
  have e9 := cell_of H88.out
  have e0 := e9 0 _ rfl
  have e1 := e9 1 _ rfl
  have e2 := e9 2 _ rfl
  have e3 := e9 3 _ rfl
  have e4 := e9 4 _ rfl
  have e5 := e9 5 _ rfl
  have e6 := e9 6 _ rfl
  have e7 := e9 7 _ rfl
  have e8 := e9 8 _ rfl
  have d := cells9 HD8.out.hm HCy.out
  have d0 := d 0 _ rfl
  have d1 := d 1 _ rfl
  have d2 := d 2 _ rfl
  have d3 := d 3 _ rfl
  have d4 := d 4 _ rfl
  have d5 := d 5 _ rfl
  have d6 := d 6 _ rfl
  have d7 := d 7 _ rfl
  have d8 := d 8 _ rfl
  rw [Nat.add_zero] at d0
  have f0 := HD8.out.hm.frozen (k * 9)
  have f1 := HD8.out.hm.frozen (k * 9 + 1)
  have f2 := HD8.out.hm.frozen (k * 9 + 2)
  have f3 := HD8.out.hm.frozen (k * 9 + 3)
  have f4 := HD8.out.hm.frozen (k * 9 + 4)
  have f5 := HD8.out.hm.frozen (k * 9 + 5)
  have f6 := HD8.out.hm.frozen (k * 9 + 6)
  have f7 := HD8.out.hm.frozen (k * 9 + 7)
  have f8 := HD8.out.hm.frozen (k * 9 + 8)
  have kf := HD8.out.hm.lt
  clear e9 d
  obtain ⟨W9, hW9⟩ : ∃ W9, (((((((((W8.setCell ⟨w.heap.size, k * 9, none⟩ (.bool is)).setCell ⟨w.heap.size, k * 9 + 1, none⟩ (.int .u64 cap)).setCell ⟨w.heap.size, k * 9 + 2, none⟩ (.slice A m c)).setCell ⟨w.heap.size, k * 9 + 3, none⟩ (.bool y.b1)).setCell ⟨w.heap.size, k * 9 + 4, none⟩ (.int .u64 y.k1)).setCell ⟨w.heap.size, k * 9 + 5, none⟩ (.slice y.A1 y.n1 y.c1)).setCell ⟨w.heap.size, k * 9 + 6, none⟩ (.bool y.b2)).setCell ⟨w.heap.size, k * 9 + 7, none⟩ (.int .u64 y.k2)).setCell ⟨w.heap.size, k * 9 + 8, none⟩ (.slice y.A2 y.n2 y.c2)) = W9 := ⟨_, rfl⟩
  obtain ⟨M9, hM9⟩ : ∃ M9, put9 M (k * 9) y' = M9 := ⟨_, rfl⟩
  have HD9 : Hid (D4 w W9 M9 #[.int .u64 k, .int .u64 a1, .int .u64 a2, .int .u64 a3] (Tryz.zeroCells45) #[.int .i64 0, .int .u64 0]) := by show D4 _ _ _ _ _ _; rw [← hW9, ← hM9, ← HNy.out]; exact HD8.out.put (k * 9) ⟨is, cap, A, m, c, y.b1, y.k1, y.A1, y.n1, y.c1, y.b2, y.k2, y.A2, y.n2, y.c2⟩
  have HR9 : Hid (R3o L B W5.heap.size W9 y' { x with q := o' }) := by show R3o _ _ _ _ _ _; rw [← hW9]; exact HR8.out.put (o := k * 9) hB (show w.heap.size < W5.heap.size by have := HK5.out; omega) ⟨is, cap, A, m, c, y.b1, y.k1, y.A1, y.n1, y.c1, y.b2, y.k2, y.A2, y.n2, y.c2⟩
  have H109 : Hid (Bk W9 W4.heap.size 47 #[.int .i64 cc, .int .u64 uu]) := by show Bk _ _ _ _; rw [← hW9]; exact bk_set9 (o := k * 9) H108.out (show w.heap.size ≠ W4.heap.size by have := HG8.out; omega) ⟨is, cap, A, m, c, y.b1, y.k1, y.A1, y.n1, y.c1, y.b2, y.k2, y.A2, y.n2, y.c2⟩
  have HI9 : Hid ((Tryz.prog.info? 45).map (·.size) = some M9.size) := by show _ = _; rw [← hM9, put9_size]; exact HI144.out
  have HS9 : Hid (M9.size = 144) := by show _ = _; rw [← hM9, put9_size]; exact HSz.out
  have HOne : Hid (M9.all (·.oneCell') = true) := by show _ = _; rw [← hM9]; exact all_one (put9_one HSz.out hk HX.out.one y')
  have HM9 := Lib.hid hM9
  have HW9 := Lib.hid hW9
  clear hW9 hM9
  go_upto_region 18 with fail
  rw [HW9.out]
  clear HW9 q0 kf e0 d0 f0 e1 d1 f1 e2 d2 f2 e3 d3 f3 e4 d4 f4 e5 d5 f5 e6 d6 f6 e7 d7 f7 e8 d8 f8
  obtain ⟨V, hV⟩ : ∃ V, W9.drew = V := ⟨_, rfl⟩
  refine wp_region_held_drew (S := (fun w' => w'.rangeAt w.heap.size 0 M9.toList ∧ w'.rangeAt W4.heap.size 0 (#[.int .i64 cc, .int .u64 uu] : Array Value).toList)) (by kernel_rfl) ?_ (fun hHeld => ?_)
  ·exact ⟨HD9.out.hm.rng, H109.out.rng⟩
  refine loadA 0 M9 Tryz.underlying45 rfl HI9.out ?_ ?_
  ·(intro w hSw; exact hSw.1)
  try simp only [Act.put, pS]
  refine loadA 1 #[.int .i64 cc, .int .u64 uu] Tryz.underlying47 rfl (by kernel_rfl) ?_ ?_
  ·(intro w hSw; exact hSw.2)
  try simp only [Act.put, pS]
  have HD9 : Hid (D4 w V M9 #[.int .u64 k, .int .u64 a1, .int .u64 a2, .int .u64 a3] (Tryz.zeroCells45) #[.int .i64 0, .int .u64 0]) := by show D4 _ _ _ _ _ _; rw [← hV]; exact HD9.out.drew
  have HR9 : Hid (R3o L B W5.heap.size V y' { x with q := o' }) := by show R3o _ _ _ _ _ _; rw [← hV]; exact HR9.out.drew
  have H109 : Hid (Bk V W4.heap.size 47 #[.int .i64 cc, .int .u64 uu]) := by show Bk _ _ _ _; rw [← hV]; exact H109.out
  rw [hV] at hHeld ⊢
  clear hV
  refine comeA 2 fun K hK => ?_
  refine wp_store_row 45 (.tmp 6) (.tmp 93) rfl (w.heap.size + 1 + 1) M9 (by rfl) (by rfl) 45 (Tryz.zeroCells45) HD9.out.hz HI9.out (by rw [HS9.out]; exact z144_size) HOne.out ?_
  obtain ⟨W10, hW10⟩ : ∃ W, V.setRow (w.heap.size + 1 + 1) M9 = W := ⟨_, rfl⟩
  have HD9 : Hid (D4 w W10 M9 #[.int .u64 k, .int .u64 a1, .int .u64 a2, .int .u64 a3] M9 #[.int .i64 0, .int .u64 0]) := by show D4 _ _ _ _ _ _; rw [← hW10]; exact HD9.out.row
  have HR9 : Hid (R3o L B W5.heap.size W10 y' { x with q := o' }) := by show R3o _ _ _ _ _ _; rw [← hW10]; exact HR9.out.row (show B ≤ (w.heap.size + 1 + 1) by omega) (show (w.heap.size + 1 + 1) < W5.heap.size by have := HK5.out; omega) M9
  have H109 : Hid (Bk W10 W4.heap.size 47 #[.int .i64 cc, .int .u64 uu]) := by show Bk _ _ _ _; rw [← hW10]; exact (setRow_other _ _ _ _ (show W4.heap.size ≠ (w.heap.size + 1 + 1) by have := HG8.out; have := HG10.out; omega)).trans H109.out
  rw [hW10]
  clear hW10
  refine hK.out _ _ ?_ (fun hHeld => ?_)
  ·exact ⟨HD9.out.hm.rng, H109.out.rng⟩
  clear hK K
  try simp only [Act.put, pS]
  refine comeA 3 fun K hK => ?_
  have e0 := HD9.out.h7.cell 0; have e1 := HD9.out.h7.cell 1; have f0 := HD9.out.h7.frozen 0; have f1 := HD9.out.h7.frozen 1; have kf := HD9.out.h7.lt
  simp at e0 e1
  go_simp
  clear e0 e1 f0 f1 kf
  obtain ⟨W11, hW11⟩ : ∃ W, (W10.setCell ⟨(w.heap.size + 1 + 1 + 1), 0, none⟩ (.int .i64 cc)).setCell ⟨(w.heap.size + 1 + 1 + 1), 1, none⟩ (.int .u64 uu) = W := ⟨_, rfl⟩
  have HD9 : Hid (D4 w W11 M9 #[.int .u64 k, .int .u64 a1, .int .u64 a2, .int .u64 a3] M9 #[.int .i64 cc, .int .u64 uu]) := by show D4 _ _ _ _ _ _; rw [← hW11]; exact HD9.out.res _ _
  have HR9 : Hid (R3o L B W5.heap.size W11 y' { x with q := o' }) := by show R3o _ _ _ _ _ _; rw [← hW11]; exact (HR9.out.set_ (p := ⟨(w.heap.size + 1 + 1 + 1), 0, none⟩) (show B ≤ (w.heap.size + 1 + 1 + 1) by omega) (show (w.heap.size + 1 + 1 + 1) < W5.heap.size by have := HK5.out; omega) _).set_ (p := ⟨(w.heap.size + 1 + 1 + 1), 1, none⟩) (show B ≤ (w.heap.size + 1 + 1 + 1) by omega) (show (w.heap.size + 1 + 1 + 1) < W5.heap.size by have := HK5.out; omega) _
  have H109 : Hid (Bk W11 W4.heap.size 47 #[.int .i64 cc, .int .u64 uu]) := by show Bk _ _ _ _; rw [← hW11]; exact bk_set_ne (bk_set_ne H109.out (show (w.heap.size + 1 + 1 + 1) ≠ W4.heap.size by have := HG8.out; have := HG10.out; omega)) (show (w.heap.size + 1 + 1 + 1) ≠ W4.heap.size by have := HG8.out; have := HG10.out; omega)
  rw [hW11]
  clear hW11
  refine hK.out _ _ ?_ (fun hHeld => ?_)
  ·exact ⟨HD9.out.hm.rng, H109.out.rng⟩
  clear hK K
  try simp only [Act.put, pS]
  refine wpAnyH_done (by kernel_rfl) ?_ _
  try simp only [Act.put, pS]
  clear hHeld
  have HRW : Hid (RWo L B w.heap.size W11 M9 (ths.set k { x with q := o' })) := by show RWo _ _ _ _ _ _; rw [← HM9.out]; exact (RWo.of _ (HX.out.below HD9.out.hb hB)).put hk (HR9.out.low (by have := HK5.out; omega))
  go_wp2_with ((with_reducible show bodyPost _ _ _ _ _ _); refine bodyPost_ret (results_cc rfl _ W11 (w.heap.size + 1 + 1) (w.heap.size + 1 + 1 + 1) 45 47 M9 #[.int .i64 cc, .int .u64 uu] _ _ (by rfl) HD9.out.hz Tryz.underlying45 rfl HI9.out (by rfl) HD9.out.h7 Tryz.underlying47 rfl (by kernel_rfl)) rfl ?_; exact ⟨_, _, rfl, HRW.out, ⟨_, _, rfl⟩, HD9.out.hb⟩)
 ·rw [hI]
  go_wp2_with fail
  refine (ris23_any y.b0 y.b1 y.b2 _ _ _ _ _ _ _).mono ?_
  rintro e W4 ⟨rfl, hb⟩
  rw [HIs.out]
  have HD := Lib.hid (HD.out.below hb)
  have H8 := Lib.hid (H8.out.below hb H8.out.lt)
  clear hb e0 e1 e2 e3 e4 e5 e6 e7
  have e8 := cell_of H8.out
  have e0 := e8 0 _ rfl
  have e1 := e8 1 _ rfl
  have e2 := e8 2 _ rfl
  have e3 := e8 3 _ rfl
  have e4 := e8 4 _ rfl
  have e5 := e8 5 _ rfl
  have e6 := e8 6 _ rfl
  have e7 := e8 7 _ rfl
  have e8 := e8 8 _ rfl
  clear e8
  go_wp2_with fail
  refine (rkind_any n _).mono ?_
  rintro e Wk ⟨rfl, hWk⟩
  rw [hWk, HKn.out]
  clear hWk Wk
  go_upto_region 12 with fail
  obtain ⟨W5, hW5⟩ : ∃ W5, W4.alloc (.cells #[.int .i64 0, .int .u64 0] 47) = W5 := ⟨_, rfl⟩
  have H10 : Hid (Bk W5 W4.heap.size 47 #[.int .i64 0, .int .u64 0]) := by show Bk _ _ _ _; rw [← hW5]; exact Bk.new _ _ _
  have hb : Below W4.heap.size W4 W5 := by rw [← hW5]; exact (Below.refl _ _).alloc (Nat.le_refl _) _
  have HG10 : Hid (W1.heap.size < W4.heap.size) := H8.out.lt
  have HD := Lib.hid (HD.out.below hb)
  have H8 := Lib.hid (H8.out.below hb H8.out.lt)
  rw [hW5]
  clear hW5 hb e0 e1 e2 e3 e4 e5 e6 e7 e8
  go_wp2_with fail
  refine (rkind_any n _).mono ?_
  rintro e Wk ⟨rfl, hWk⟩
  rw [hWk, HKn.out]
  clear hWk Wk
  have e9 := cell_of H8.out
  have e0 := e9 0 _ rfl
  have e1 := e9 1 _ rfl
  have e2 := e9 2 _ rfl
  have e3 := e9 3 _ rfl
  have e4 := e9 4 _ rfl
  have e5 := e9 5 _ rfl
  have e6 := e9 6 _ rfl
  have e7 := e9 7 _ rfl
  have e8 := e9 8 _ rfl
  have q1 : W5.cell? ⟨w.heap.size + 1, 1, none⟩ = some (.int .u64 a1) := HD.out.ha.cell 1
  have q2 : W5.cell? ⟨w.heap.size + 1, 2, none⟩ = some (.int .u64 a2) := HD.out.ha.cell 2
  clear e9
  go_wp2_with fail
  have HK5 : Hid (w.heap.size + 3 < W5.heap.size) := by have := HG8.out; have := HG10.out; have := H10.out.lt; show _ < _; omega
  have HYw := Lib.hid (HY.out.below HD.out.hb hB)
  refine (HDo.out _ _ HYw.out.q HD.out.hb.size).mono ?_
  rintro e W7 ⟨vs, r, rfl, hq, ⟨cc, uu, rfl⟩, hb⟩
  obtain ⟨is, cap, A, m, c, rfl⟩ := hq.cells
  obtain ⟨y', hy'⟩ : ∃ y' : C9, (⟨is, cap, A, m, c, y.b1, y.k1, y.A1, y.n1, y.c1, y.b2, y.k2, y.A2, y.n2, y.c2⟩ : C9) = y' := ⟨_, rfl⟩
  have HR : Hid (R3o L B W5.heap.size W7 y' { x with q := o' }) := by show R3o _ _ _ _ _ _; rw [← hy']; exact ⟨hq, RQo.of _ (HYw.out.c.below hb (Nat.le_trans hB HD.out.hb.size)), RTo.of _ (HYw.out.t.below hb (Nat.le_trans hB HD.out.hb.size))⟩
  have HD := Lib.hid (HD.out.below hb)
  have H8 := Lib.hid (H8.out.below hb H8.out.lt)
  have H10v := Lib.hid H10.out.lt
  have H10 := Lib.hid (H10.out.below hb H10.out.lt)
  clear hq hb q1 q2 e0 e1 e2 e3 e4 e5 e6 e7 e8
  have e9 := cell_of H8.out
  have e0 := e9 0 _ rfl
  have e1 := e9 1 _ rfl
  have e2 := e9 2 _ rfl
  have f0 := H8.out.frozen 0
  have f1 := H8.out.frozen 1
  have f2 := H8.out.frozen 2
  have kf := H8.out.lt
  have e5 := H10.out.cell 0; have e6 := H10.out.cell 1; have f5 := H10.out.frozen 0; have f6 := H10.out.frozen 1; have kg := H10.out.lt
  simp at e5 e6
  clear e9
  have hlt : W1.heap.size < W4.heap.size := HG10.out
  have hne1 : ¬ (W4.heap.size = W1.heap.size) := by omega
  have hne2 : ¬ (W1.heap.size = W4.heap.size) := by omega
  obtain ⟨W8, hW8⟩ : ∃ W8, (((((W7.setCell ⟨W1.heap.size, 0, none⟩ (.bool is)).setCell ⟨W1.heap.size, 1, none⟩ (.int .u64 cap)).setCell ⟨W1.heap.size, 2, none⟩ (.slice A m c)).setCell ⟨W4.heap.size, 0, none⟩ (.int .i64 cc)).setCell ⟨W4.heap.size, 1, none⟩ (.int .u64 uu)) = W8 := ⟨_, rfl⟩
  have HD8 : Hid (D4 w W8 M #[.int .u64 k, .int .u64 a1, .int .u64 a2, .int .u64 a3] (Tryz.zeroCells45) #[.int .i64 0, .int .u64 0]) := by show D4 _ _ _ _ _ _; rw [← hW8]; exact (((((HD.out.set_ (p := ⟨W1.heap.size, 0, none⟩) (show w.heap.size + 3 < W1.heap.size from HG8.out) _).set_ (p := ⟨W1.heap.size, 1, none⟩) (show w.heap.size + 3 < W1.heap.size from HG8.out) _).set_ (p := ⟨W1.heap.size, 2, none⟩) (show w.heap.size + 3 < W1.heap.size from HG8.out) _).set_ (p := ⟨W4.heap.size, 0, none⟩) (show w.heap.size + 3 < W4.heap.size by have := HG8.out; have := HG10.out; omega) _).set_ (p := ⟨W4.heap.size, 1, none⟩) (show w.heap.size + 3 < W4.heap.size by have := HG8.out; have := HG10.out; omega) _)
  have HR8 : Hid (R3o L B W5.heap.size W8 y' { x with q := o' }) := by show R3o _ _ _ _ _ _; rw [← hW8]; exact (((((HR.out.set_ (p := ⟨W1.heap.size, 0, none⟩) (show B ≤ W1.heap.size by have := HG8.out; omega) (show W1.heap.size < W5.heap.size by have := HG10.out; have := H10v.out; omega) _).set_ (p := ⟨W1.heap.size, 1, none⟩) (show B ≤ W1.heap.size by have := HG8.out; omega) (show W1.heap.size < W5.heap.size by have := HG10.out; have := H10v.out; omega) _).set_ (p := ⟨W1.heap.size, 2, none⟩) (show B ≤ W1.heap.size by have := HG8.out; omega) (show W1.heap.size < W5.heap.size by have := HG10.out; have := H10v.out; omega) _).set_ (p := ⟨W4.heap.size, 0, none⟩) (show B ≤ W4.heap.size by have := HG8.out; have := HG10.out; omega) (show W4.heap.size < W5.heap.size from H10v.out) _).set_ (p := ⟨W4.heap.size, 1, none⟩) (show B ≤ W4.heap.size by have := HG8.out; have := HG10.out; omega) (show W4.heap.size < W5.heap.size from H10v.out) _)
  have H88 : Hid (Bk W8 W1.heap.size 42 #[.bool is, .int .u64 cap, .slice A m c, .bool y.b1, .int .u64 y.k1, .slice y.A1 y.n1 y.c1, .bool y.b2, .int .u64 y.k2, .slice y.A2 y.n2 y.c2]) := by show Bk _ _ _ _; rw [← hW8]; exact (bk_set_ne (bk_set_ne (((H8.out.set_ 0 _).set_ 1 _).set_ 2 _) (p := ⟨W4.heap.size, 0, none⟩) (show W4.heap.size ≠ W1.heap.size by have := HG10.out; omega)) (p := ⟨W4.heap.size, 1, none⟩) (show W4.heap.size ≠ W1.heap.size by have := HG10.out; omega))
  have H108 : Hid (Bk W8 W4.heap.size 47 #[.int .i64 cc, .int .u64 uu]) := by show Bk _ _ _ _; rw [← hW8]; exact (((bk_set_ne (bk_set_ne (bk_set_ne H10.out (p := ⟨W1.heap.size, 0, none⟩) (show W1.heap.size ≠ W4.heap.size by have := HG10.out; omega)) (p := ⟨W1.heap.size, 1, none⟩) (show W1.heap.size ≠ W4.heap.size by have := HG10.out; omega)) (p := ⟨W1.heap.size, 2, none⟩) (show W1.heap.size ≠ W4.heap.size by have := HG10.out; omega)).set_ 0 _).set_ 1 _)
  have HW8 := Lib.hid hW8
  have HNy := Lib.hid hy'
  clear hW8 hy'
  go_upto_region 17 with fail
  rw [HW8.out]
  clear HW8 e0 e1 e2 e5 e6 f0 f1 f2 f5 f6 kf kg
  have q0 : W8.cell? ⟨w.heap.size + 1, 0, none⟩ = some (.int .u64 k) := HD8.out.ha.cell 0
  have e9 := cell_of H88.out
  have e0 := e9 0 _ rfl
  have e1 := e9 1 _ rfl
  have e2 := e9 2 _ rfl
  have e3 := e9 3 _ rfl
  have e4 := e9 4 _ rfl
  have e5 := e9 5 _ rfl
  have e6 := e9 6 _ rfl
  have e7 := e9 7 _ rfl
  have e8 := e9 8 _ rfl
  have d := cells9 HD8.out.hm HCy.out
  have d0 := d 0 _ rfl
  have d1 := d 1 _ rfl
  have d2 := d 2 _ rfl
  have d3 := d 3 _ rfl
  have d4 := d 4 _ rfl
  have d5 := d 5 _ rfl
  have d6 := d 6 _ rfl
  have d7 := d 7 _ rfl
  have d8 := d 8 _ rfl
  rw [Nat.add_zero] at d0
  have f0 := HD8.out.hm.frozen (k * 9)
  have f1 := HD8.out.hm.frozen (k * 9 + 1)
  have f2 := HD8.out.hm.frozen (k * 9 + 2)
  have f3 := HD8.out.hm.frozen (k * 9 + 3)
  have f4 := HD8.out.hm.frozen (k * 9 + 4)
  have f5 := HD8.out.hm.frozen (k * 9 + 5)
  have f6 := HD8.out.hm.frozen (k * 9 + 6)
  have f7 := HD8.out.hm.frozen (k * 9 + 7)
  have f8 := HD8.out.hm.frozen (k * 9 + 8)
  have kf := HD8.out.hm.lt
  clear e9 d
  obtain ⟨W9, hW9⟩ : ∃ W9, (((((((((W8.setCell ⟨w.heap.size, k * 9, none⟩ (.bool is)).setCell ⟨w.heap.size, k * 9 + 1, none⟩ (.int .u64 cap)).setCell ⟨w.heap.size, k * 9 + 2, none⟩ (.slice A m c)).setCell ⟨w.heap.size, k * 9 + 3, none⟩ (.bool y.b1)).setCell ⟨w.heap.size, k * 9 + 4, none⟩ (.int .u64 y.k1)).setCell ⟨w.heap.size, k * 9 + 5, none⟩ (.slice y.A1 y.n1 y.c1)).setCell ⟨w.heap.size, k * 9 + 6, none⟩ (.bool y.b2)).setCell ⟨w.heap.size, k * 9 + 7, none⟩ (.int .u64 y.k2)).setCell ⟨w.heap.size, k * 9 + 8, none⟩ (.slice y.A2 y.n2 y.c2)) = W9 := ⟨_, rfl⟩
  obtain ⟨M9, hM9⟩ : ∃ M9, put9 M (k * 9) y' = M9 := ⟨_, rfl⟩
  have HD9 : Hid (D4 w W9 M9 #[.int .u64 k, .int .u64 a1, .int .u64 a2, .int .u64 a3] (Tryz.zeroCells45) #[.int .i64 0, .int .u64 0]) := by show D4 _ _ _ _ _ _; rw [← hW9, ← hM9, ← HNy.out]; exact HD8.out.put (k * 9) ⟨is, cap, A, m, c, y.b1, y.k1, y.A1, y.n1, y.c1, y.b2, y.k2, y.A2, y.n2, y.c2⟩
  have HR9 : Hid (R3o L B W5.heap.size W9 y' { x with q := o' }) := by show R3o _ _ _ _ _ _; rw [← hW9]; exact HR8.out.put (o := k * 9) hB (show w.heap.size < W5.heap.size by have := HK5.out; omega) ⟨is, cap, A, m, c, y.b1, y.k1, y.A1, y.n1, y.c1, y.b2, y.k2, y.A2, y.n2, y.c2⟩
  have H109 : Hid (Bk W9 W4.heap.size 47 #[.int .i64 cc, .int .u64 uu]) := by show Bk _ _ _ _; rw [← hW9]; exact bk_set9 (o := k * 9) H108.out (show w.heap.size ≠ W4.heap.size by have := HG8.out; omega) ⟨is, cap, A, m, c, y.b1, y.k1, y.A1, y.n1, y.c1, y.b2, y.k2, y.A2, y.n2, y.c2⟩
  have HI9 : Hid ((Tryz.prog.info? 45).map (·.size) = some M9.size) := by show _ = _; rw [← hM9, put9_size]; exact HI144.out
  have HS9 : Hid (M9.size = 144) := by show _ = _; rw [← hM9, put9_size]; exact HSz.out
  have HOne : Hid (M9.all (·.oneCell') = true) := by show _ = _; rw [← hM9]; exact all_one (put9_one HSz.out hk HX.out.one y')
  have HM9 := Lib.hid hM9
  have HW9 := Lib.hid hW9
  clear hW9 hM9
  go_upto_region 18 with fail
  rw [HW9.out]
  clear HW9 q0 kf e0 d0 f0 e1 d1 f1 e2 d2 f2 e3 d3 f3 e4 d4 f4 e5 d5 f5 e6 d6 f6 e7 d7 f7 e8 d8 f8
  obtain ⟨V, hV⟩ : ∃ V, W9.drew = V := ⟨_, rfl⟩
  refine wp_region_held_drew (S := (fun w' => w'.rangeAt w.heap.size 0 M9.toList ∧ w'.rangeAt W4.heap.size 0 (#[.int .i64 cc, .int .u64 uu] : Array Value).toList)) (by kernel_rfl) ?_ (fun hHeld => ?_)
  ·exact ⟨HD9.out.hm.rng, H109.out.rng⟩
  refine loadA 0 M9 Tryz.underlying45 rfl HI9.out ?_ ?_
  ·(intro w hSw; exact hSw.1)
  try simp only [Act.put, pS]
  refine loadA 1 #[.int .i64 cc, .int .u64 uu] Tryz.underlying47 rfl (by kernel_rfl) ?_ ?_
  ·(intro w hSw; exact hSw.2)
  try simp only [Act.put, pS]
  have HD9 : Hid (D4 w V M9 #[.int .u64 k, .int .u64 a1, .int .u64 a2, .int .u64 a3] (Tryz.zeroCells45) #[.int .i64 0, .int .u64 0]) := by show D4 _ _ _ _ _ _; rw [← hV]; exact HD9.out.drew
  have HR9 : Hid (R3o L B W5.heap.size V y' { x with q := o' }) := by show R3o _ _ _ _ _ _; rw [← hV]; exact HR9.out.drew
  have H109 : Hid (Bk V W4.heap.size 47 #[.int .i64 cc, .int .u64 uu]) := by show Bk _ _ _ _; rw [← hV]; exact H109.out
  rw [hV] at hHeld ⊢
  clear hV
  refine comeA 2 fun K hK => ?_
  refine wp_store_row 45 (.tmp 6) (.tmp 93) rfl (w.heap.size + 1 + 1) M9 (by rfl) (by rfl) 45 (Tryz.zeroCells45) HD9.out.hz HI9.out (by rw [HS9.out]; exact z144_size) HOne.out ?_
  obtain ⟨W10, hW10⟩ : ∃ W, V.setRow (w.heap.size + 1 + 1) M9 = W := ⟨_, rfl⟩
  have HD9 : Hid (D4 w W10 M9 #[.int .u64 k, .int .u64 a1, .int .u64 a2, .int .u64 a3] M9 #[.int .i64 0, .int .u64 0]) := by show D4 _ _ _ _ _ _; rw [← hW10]; exact HD9.out.row
  have HR9 : Hid (R3o L B W5.heap.size W10 y' { x with q := o' }) := by show R3o _ _ _ _ _ _; rw [← hW10]; exact HR9.out.row (show B ≤ (w.heap.size + 1 + 1) by omega) (show (w.heap.size + 1 + 1) < W5.heap.size by have := HK5.out; omega) M9
  have H109 : Hid (Bk W10 W4.heap.size 47 #[.int .i64 cc, .int .u64 uu]) := by show Bk _ _ _ _; rw [← hW10]; exact (setRow_other _ _ _ _ (show W4.heap.size ≠ (w.heap.size + 1 + 1) by have := HG8.out; have := HG10.out; omega)).trans H109.out
  rw [hW10]
  clear hW10
  refine hK.out _ _ ?_ (fun hHeld => ?_)
  ·exact ⟨HD9.out.hm.rng, H109.out.rng⟩
  clear hK K
  try simp only [Act.put, pS]
  refine comeA 3 fun K hK => ?_
  have e0 := HD9.out.h7.cell 0; have e1 := HD9.out.h7.cell 1; have f0 := HD9.out.h7.frozen 0; have f1 := HD9.out.h7.frozen 1; have kf := HD9.out.h7.lt
  simp at e0 e1
  go_simp
  clear e0 e1 f0 f1 kf
  obtain ⟨W11, hW11⟩ : ∃ W, (W10.setCell ⟨(w.heap.size + 1 + 1 + 1), 0, none⟩ (.int .i64 cc)).setCell ⟨(w.heap.size + 1 + 1 + 1), 1, none⟩ (.int .u64 uu) = W := ⟨_, rfl⟩
  have HD9 : Hid (D4 w W11 M9 #[.int .u64 k, .int .u64 a1, .int .u64 a2, .int .u64 a3] M9 #[.int .i64 cc, .int .u64 uu]) := by show D4 _ _ _ _ _ _; rw [← hW11]; exact HD9.out.res _ _
  have HR9 : Hid (R3o L B W5.heap.size W11 y' { x with q := o' }) := by show R3o _ _ _ _ _ _; rw [← hW11]; exact (HR9.out.set_ (p := ⟨(w.heap.size + 1 + 1 + 1), 0, none⟩) (show B ≤ (w.heap.size + 1 + 1 + 1) by omega) (show (w.heap.size + 1 + 1 + 1) < W5.heap.size by have := HK5.out; omega) _).set_ (p := ⟨(w.heap.size + 1 + 1 + 1), 1, none⟩) (show B ≤ (w.heap.size + 1 + 1 + 1) by omega) (show (w.heap.size + 1 + 1 + 1) < W5.heap.size by have := HK5.out; omega) _
  have H109 : Hid (Bk W11 W4.heap.size 47 #[.int .i64 cc, .int .u64 uu]) := by show Bk _ _ _ _; rw [← hW11]; exact bk_set_ne (bk_set_ne H109.out (show (w.heap.size + 1 + 1 + 1) ≠ W4.heap.size by have := HG8.out; have := HG10.out; omega)) (show (w.heap.size + 1 + 1 + 1) ≠ W4.heap.size by have := HG8.out; have := HG10.out; omega)
  rw [hW11]
  clear hW11
  refine hK.out _ _ ?_ (fun hHeld => ?_)
  ·exact ⟨HD9.out.hm.rng, H109.out.rng⟩
  clear hK K
  try simp only [Act.put, pS]
  refine wpAnyH_done (by kernel_rfl) ?_ _
  try simp only [Act.put, pS]
  clear hHeld
  have HRW : Hid (RWo L B w.heap.size W11 M9 (ths.set k { x with q := o' })) := by show RWo _ _ _ _ _ _; rw [← HM9.out]; exact (RWo.of _ (HX.out.below HD9.out.hb hB)).put hk (HR9.out.low (by have := HK5.out; omega))
  go_wp2_with ((with_reducible show bodyPost _ _ _ _ _ _); refine bodyPost_ret (results_cc rfl _ W11 (w.heap.size + 1 + 1) (w.heap.size + 1 + 1 + 1) 45 47 M9 #[.int .i64 cc, .int .u64 uu] _ _ (by rfl) HD9.out.hz Tryz.underlying45 rfl HI9.out (by rfl) HD9.out.h7 Tryz.underlying47 rfl (by kernel_rfl)) rfl ?_; exact ⟨_, _, rfl, HRW.out, ⟨_, _, rfl⟩, HD9.out.hb⟩)
set_option maxRecDepth 100000 in
set_option maxHeartbeats 8000000 in
theorem rdo_c (ths : List Th) (M : Array Value) (n k : Nat) (a1 a2 a3 : Int) (x : Th) (nm : ByteArray) (L B : Nat) (w : World) (hx : RWd L B w M ths) (hL : L ≤ w.heap.size) (hB : B ≤ w.heap.size) (hn : n ≤ 18) (hk : k < 16) (hxk : ths[k]? = some x) (hnm : rNm[n]? = some (.string nm)) (hnk : 6 ≤ n ∧ n < 13) (o' : QO) (hi : isT x = 0 ∨ isT x = 2)
 (hd : ∀ (vs : Array Value) (V : World), RQ L B V vs x.c → w.heap.size ≤ V.heap.size → Calls Tryz.prog 25 #[.agg vs, .string nm, .int .u64 a1] V (DoesRQ L B V o')) :
 Calls Tryz.prog 7 #[.agg M, .int .i64 n, .agg #[.int .u64 k, .int .u64 a1, .int .u64 a2, .int .u64 a3]] w (DoesRW L B w (ths.set k { x with c := o' })) := by
 have HKn : Hid (kindN n = 2) := by show _ = _; unfold kindN; rw [if_neg (by omega), if_pos (by omega)]
 have HDo := Lib.hid hd
 have HI := Lib.hid hi
 clear hd hi hnk
 have HX := Lib.hid hx
 have hsz := hx.size
 have hi144 : (Tryz.prog.info? 45).map (·.size) = some M.size := by rw [hsz]; kernel_rfl
 have HI144 := Lib.hid hi144
 have HSz := Lib.hid hsz
 obtain ⟨W1, hW1⟩ : ∃ W1, (((w.alloc (.cells M 45)).alloc (.cells #[.int .u64 k, .int .u64 a1, .int .u64 a2, .int .u64 a3] 49)).alloc (.cells Tryz.zeroCells45 45)).alloc (.cells #[.int .i64 0, .int .u64 0] 47) = W1 := ⟨_, rfl⟩
 have HD : Hid (D4 w W1 M #[.int .u64 k, .int .u64 a1, .int .u64 a2, .int .u64 a3] Tryz.zeroCells45 #[.int .i64 0, .int .u64 0]) := by show D4 _ _ _ _ _ _; rw [← hW1]; exact d4_new w M #[.int .u64 k, .int .u64 a1, .int .u64 a2, .int .u64 a3] Tryz.zeroCells45 #[.int .i64 0, .int .u64 0]
 have HW1 := Lib.hid hW1
 clear hW1 hi144 hsz hx
 go_enter Tryz.func7, Tryz.ntmps7
 go_upto_region 1 with fail
 rw [HW1.out]
 clear HW1
 have q0 : W1.cell? ⟨w.heap.size + 1, 0, none⟩ = some (.int .u64 k) := HD.out.ha.cell 0
 have q1 : W1.cell? ⟨w.heap.size + 1, 1, none⟩ = some (.int .u64 a1) := HD.out.ha.cell 1
 have q2 : W1.cell? ⟨w.heap.size + 1, 2, none⟩ = some (.int .u64 a2) := HD.out.ha.cell 2
 have HNm := Lib.hid hnm
 have hni : (n : Int) < 19 := by omega
 have hn0 : ¬ ((n : Int) < 0) := by omega
 have hn1 : ¬ ((n : Int) > 18) := by omega
 have hki : (k : Int) < 16 := by omega
 have hk1 : ¬ ((k : Int) > 15) := by omega
 obtain ⟨y, hcy, hy⟩ := HX.out.th k x hxk
 have HY := Lib.hid hy
 have HCy := Lib.hid hcy
 have HIs := Lib.hid (is_th hy)
 have d := cells9 HD.out.hm HCy.out
 have d0 := d 0 _ rfl
 have d1 := d 1 _ rfl
 have d2 := d 2 _ rfl
 have d3 := d 3 _ rfl
 have d4 := d 4 _ rfl
 have d5 := d 5 _ rfl
 have d6 := d 6 _ rfl
 have d7 := d 7 _ rfl
 have d8 := d 8 _ rfl
 rw [Nat.add_zero] at d0
 clear d hcy hy
 go_upto_region 6 with fail
 clear d0 d1 d2 d3 d4 d5 d6 d7 d8 q0 q1 q2
 obtain ⟨W2, hW2⟩ : ∃ W2, W1.alloc (.cells #[.bool y.b0, .int .u64 y.k0, .slice y.A0 y.n0 y.c0, .bool y.b1, .int .u64 y.k1, .slice y.A1 y.n1 y.c1, .bool y.b2, .int .u64 y.k2, .slice y.A2 y.n2 y.c2] 42) = W2 := ⟨_, rfl⟩
 have H8 : Hid (Bk W2 W1.heap.size 42 #[.bool y.b0, .int .u64 y.k0, .slice y.A0 y.n0 y.c0, .bool y.b1, .int .u64 y.k1, .slice y.A1 y.n1 y.c1, .bool y.b2, .int .u64 y.k2, .slice y.A2 y.n2 y.c2]) := by show Bk _ _ _ _; rw [← hW2]; exact Bk.new _ _ _
 have hb : Below W1.heap.size W1 W2 := by rw [← hW2]; exact (Below.refl _ _).alloc (Nat.le_refl _) _
 have HG8 : Hid (w.heap.size + 3 < W1.heap.size) := HD.out.h7.lt
 have HD := Lib.hid (HD.out.below hb)
 rw [hW2]
 clear hW2 hb
 go_wp2_with fail
 refine (rnames_any W2).mono ?_
 rintro e W3 ⟨rfl, hW3⟩
 have hb : Below W2.heap.size W2 W3 := by rw [hW3]; exact (Below.refl _ _).alloc (Nat.le_refl _) _
 have qn : W3.cell? ⟨W2.heap.size, n, none⟩ = some (.string nm) := by rw [hW3]; exact ((Bk.new _ _ _).cell n).trans HNm.out
 have HD := Lib.hid (HD.out.below hb)
 have H8 := Lib.hid (H8.out.below hb H8.out.lt)
 have e8 := cell_of H8.out
 have e0 := e8 0 _ rfl
 have e1 := e8 1 _ rfl
 have e2 := e8 2 _ rfl
 have e3 := e8 3 _ rfl
 have e4 := e8 4 _ rfl
 have e5 := e8 5 _ rfl
 have e6 := e8 6 _ rfl
 have e7 := e8 7 _ rfl
 have e8 := e8 8 _ rfl
 clear hW3 hb e8
 go_wp2_with fail
 refine (ris23_any y.b0 y.b1 y.b2 _ _ _ _ _ _ _).mono ?_
 rintro e W4 ⟨rfl, hb⟩
 rw [HIs.out]
 have HD := Lib.hid (HD.out.below hb)
 have H8 := Lib.hid (H8.out.below hb H8.out.lt)
 clear hb e0 e1 e2 e3 e4 e5 e6 e7
 have e8 := cell_of H8.out
 have e0 := e8 0 _ rfl
 have e1 := e8 1 _ rfl
 have e2 := e8 2 _ rfl
 have e3 := e8 3 _ rfl
 have e4 := e8 4 _ rfl
 have e5 := e8 5 _ rfl
 have e6 := e8 6 _ rfl
 have e7 := e8 7 _ rfl
 have e8 := e8 8 _ rfl
 clear e8
 rcases HI.out with hI | hI
 ·rw [hI]
  go_upto_region 12 with fail
  obtain ⟨W5, hW5⟩ : ∃ W5, W4.alloc (.cells #[.int .i64 0, .int .u64 0] 47) = W5 := ⟨_, rfl⟩
  have H10 : Hid (Bk W5 W4.heap.size 47 #[.int .i64 0, .int .u64 0]) := by show Bk _ _ _ _; rw [← hW5]; exact Bk.new _ _ _
  have hb : Below W4.heap.size W4 W5 := by rw [← hW5]; exact (Below.refl _ _).alloc (Nat.le_refl _) _
  have HG10 : Hid (W1.heap.size < W4.heap.size) := H8.out.lt
  have HD := Lib.hid (HD.out.below hb)
  have H8 := Lib.hid (H8.out.below hb H8.out.lt)
  rw [hW5]
  clear hW5 hb e0 e1 e2 e3 e4 e5 e6 e7 e8
  go_wp2_with fail
  refine (rkind_any n _).mono ?_
  rintro e Wk ⟨rfl, hWk⟩
  rw [hWk, HKn.out]
  clear hWk Wk
  go_wp2_with fail
  refine (rkind_any n _).mono ?_
  rintro e Wk ⟨rfl, hWk⟩
  rw [hWk, HKn.out]
  clear hWk Wk
  have e9 := cell_of H8.out
  have e0 := e9 0 _ rfl
  have e1 := e9 1 _ rfl
  have e2 := e9 2 _ rfl
  have e3 := e9 3 _ rfl
  have e4 := e9 4 _ rfl
  have e5 := e9 5 _ rfl
  have e6 := e9 6 _ rfl
  have e7 := e9 7 _ rfl
  have e8 := e9 8 _ rfl
  have q1 : W5.cell? ⟨w.heap.size + 1, 1, none⟩ = some (.int .u64 a1) := HD.out.ha.cell 1
  have q2 : W5.cell? ⟨w.heap.size + 1, 2, none⟩ = some (.int .u64 a2) := HD.out.ha.cell 2
  clear e9
  go_wp2_with fail
  have HK5 : Hid (w.heap.size + 3 < W5.heap.size) := by have := HG8.out; have := HG10.out; have := H10.out.lt; show _ < _; omega
  have HYw := Lib.hid (HY.out.below HD.out.hb hB)
  refine (HDo.out _ _ HYw.out.c HD.out.hb.size).mono ?_
  rintro e W7 ⟨vs, r, rfl, hq, ⟨cc, uu, rfl⟩, hb⟩
  obtain ⟨is, cap, A, m, c, rfl⟩ := hq.cells
  obtain ⟨y', hy'⟩ : ∃ y' : C9, (⟨y.b0, y.k0, y.A0, y.n0, y.c0, is, cap, A, m, c, y.b2, y.k2, y.A2, y.n2, y.c2⟩ : C9) = y' := ⟨_, rfl⟩
  have HR : Hid (R3o L B W5.heap.size W7 y' { x with c := o' }) := by show R3o _ _ _ _ _ _; rw [← hy']; exact ⟨RQo.of _ (HYw.out.q.below hb (Nat.le_trans hB HD.out.hb.size)), hq, RTo.of _ (HYw.out.t.below hb (Nat.le_trans hB HD.out.hb.size))⟩
  have HD := Lib.hid (HD.out.below hb)
  have H8 := Lib.hid (H8.out.below hb H8.out.lt)
  have H10v := Lib.hid H10.out.lt
  have H10 := Lib.hid (H10.out.below hb H10.out.lt)
  clear hq hb q1 q2 e0 e1 e2 e3 e4 e5 e6 e7 e8
  have e9 := cell_of H8.out
  have e0 := e9 3 _ rfl
  have e1 := e9 4 _ rfl
  have e2 := e9 5 _ rfl
  have f0 := H8.out.frozen 3
  have f1 := H8.out.frozen 4
  have f2 := H8.out.frozen 5
  have kf := H8.out.lt
  have e5 := H10.out.cell 0; have e6 := H10.out.cell 1; have f5 := H10.out.frozen 0; have f6 := H10.out.frozen 1; have kg := H10.out.lt
  simp at e5 e6
  clear e9
  have hlt : W1.heap.size < W4.heap.size := HG10.out
  have hne1 : ¬ (W4.heap.size = W1.heap.size) := by omega
  have hne2 : ¬ (W1.heap.size = W4.heap.size) := by omega
  obtain ⟨W8, hW8⟩ : ∃ W8, (((((W7.setCell ⟨W1.heap.size, 3, none⟩ (.bool is)).setCell ⟨W1.heap.size, 4, none⟩ (.int .u64 cap)).setCell ⟨W1.heap.size, 5, none⟩ (.slice A m c)).setCell ⟨W4.heap.size, 0, none⟩ (.int .i64 cc)).setCell ⟨W4.heap.size, 1, none⟩ (.int .u64 uu)) = W8 := ⟨_, rfl⟩
  have HD8 : Hid (D4 w W8 M #[.int .u64 k, .int .u64 a1, .int .u64 a2, .int .u64 a3] (Tryz.zeroCells45) #[.int .i64 0, .int .u64 0]) := by show D4 _ _ _ _ _ _; rw [← hW8]; exact (((((HD.out.set_ (p := ⟨W1.heap.size, 3, none⟩) (show w.heap.size + 3 < W1.heap.size from HG8.out) _).set_ (p := ⟨W1.heap.size, 4, none⟩) (show w.heap.size + 3 < W1.heap.size from HG8.out) _).set_ (p := ⟨W1.heap.size, 5, none⟩) (show w.heap.size + 3 < W1.heap.size from HG8.out) _).set_ (p := ⟨W4.heap.size, 0, none⟩) (show w.heap.size + 3 < W4.heap.size by have := HG8.out; have := HG10.out; omega) _).set_ (p := ⟨W4.heap.size, 1, none⟩) (show w.heap.size + 3 < W4.heap.size by have := HG8.out; have := HG10.out; omega) _)
  have HR8 : Hid (R3o L B W5.heap.size W8 y' { x with c := o' }) := by show R3o _ _ _ _ _ _; rw [← hW8]; exact (((((HR.out.set_ (p := ⟨W1.heap.size, 3, none⟩) (show B ≤ W1.heap.size by have := HG8.out; omega) (show W1.heap.size < W5.heap.size by have := HG10.out; have := H10v.out; omega) _).set_ (p := ⟨W1.heap.size, 4, none⟩) (show B ≤ W1.heap.size by have := HG8.out; omega) (show W1.heap.size < W5.heap.size by have := HG10.out; have := H10v.out; omega) _).set_ (p := ⟨W1.heap.size, 5, none⟩) (show B ≤ W1.heap.size by have := HG8.out; omega) (show W1.heap.size < W5.heap.size by have := HG10.out; have := H10v.out; omega) _).set_ (p := ⟨W4.heap.size, 0, none⟩) (show B ≤ W4.heap.size by have := HG8.out; have := HG10.out; omega) (show W4.heap.size < W5.heap.size from H10v.out) _).set_ (p := ⟨W4.heap.size, 1, none⟩) (show B ≤ W4.heap.size by have := HG8.out; have := HG10.out; omega) (show W4.heap.size < W5.heap.size from H10v.out) _)
  have H88 : Hid (Bk W8 W1.heap.size 42 #[.bool y.b0, .int .u64 y.k0, .slice y.A0 y.n0 y.c0, .bool is, .int .u64 cap, .slice A m c, .bool y.b2, .int .u64 y.k2, .slice y.A2 y.n2 y.c2]) := by show Bk _ _ _ _; rw [← hW8]; exact (bk_set_ne (bk_set_ne (((H8.out.set_ 3 _).set_ 4 _).set_ 5 _) (p := ⟨W4.heap.size, 0, none⟩) (show W4.heap.size ≠ W1.heap.size by have := HG10.out; omega)) (p := ⟨W4.heap.size, 1, none⟩) (show W4.heap.size ≠ W1.heap.size by have := HG10.out; omega))
  have H108 : Hid (Bk W8 W4.heap.size 47 #[.int .i64 cc, .int .u64 uu]) := by show Bk _ _ _ _; rw [← hW8]; exact (((bk_set_ne (bk_set_ne (bk_set_ne H10.out (p := ⟨W1.heap.size, 3, none⟩) (show W1.heap.size ≠ W4.heap.size by have := HG10.out; omega)) (p := ⟨W1.heap.size, 4, none⟩) (show W1.heap.size ≠ W4.heap.size by have := HG10.out; omega)) (p := ⟨W1.heap.size, 5, none⟩) (show W1.heap.size ≠ W4.heap.size by have := HG10.out; omega)).set_ 0 _).set_ 1 _)
  have HW8 := Lib.hid hW8
  have HNy := Lib.hid hy'
  clear hW8 hy'
  go_upto_region 17 with fail
  rw [HW8.out]
  clear HW8 e0 e1 e2 e5 e6 f0 f1 f2 f5 f6 kf kg
  have q0 : W8.cell? ⟨w.heap.size + 1, 0, none⟩ = some (.int .u64 k) := HD8.out.ha.cell 0
  have e9 := cell_of H88.out
  have e0 := e9 0 _ rfl
  have e1 := e9 1 _ rfl
  have e2 := e9 2 _ rfl
  have e3 := e9 3 _ rfl
  have e4 := e9 4 _ rfl
  have e5 := e9 5 _ rfl
  have e6 := e9 6 _ rfl
  have e7 := e9 7 _ rfl
  have e8 := e9 8 _ rfl
  have d := cells9 HD8.out.hm HCy.out
  have d0 := d 0 _ rfl
  have d1 := d 1 _ rfl
  have d2 := d 2 _ rfl
  have d3 := d 3 _ rfl
  have d4 := d 4 _ rfl
  have d5 := d 5 _ rfl
  have d6 := d 6 _ rfl
  have d7 := d 7 _ rfl
  have d8 := d 8 _ rfl
  rw [Nat.add_zero] at d0
  have f0 := HD8.out.hm.frozen (k * 9)
  have f1 := HD8.out.hm.frozen (k * 9 + 1)
  have f2 := HD8.out.hm.frozen (k * 9 + 2)
  have f3 := HD8.out.hm.frozen (k * 9 + 3)
  have f4 := HD8.out.hm.frozen (k * 9 + 4)
  have f5 := HD8.out.hm.frozen (k * 9 + 5)
  have f6 := HD8.out.hm.frozen (k * 9 + 6)
  have f7 := HD8.out.hm.frozen (k * 9 + 7)
  have f8 := HD8.out.hm.frozen (k * 9 + 8)
  have kf := HD8.out.hm.lt
  clear e9 d
  obtain ⟨W9, hW9⟩ : ∃ W9, (((((((((W8.setCell ⟨w.heap.size, k * 9, none⟩ (.bool y.b0)).setCell ⟨w.heap.size, k * 9 + 1, none⟩ (.int .u64 y.k0)).setCell ⟨w.heap.size, k * 9 + 2, none⟩ (.slice y.A0 y.n0 y.c0)).setCell ⟨w.heap.size, k * 9 + 3, none⟩ (.bool is)).setCell ⟨w.heap.size, k * 9 + 4, none⟩ (.int .u64 cap)).setCell ⟨w.heap.size, k * 9 + 5, none⟩ (.slice A m c)).setCell ⟨w.heap.size, k * 9 + 6, none⟩ (.bool y.b2)).setCell ⟨w.heap.size, k * 9 + 7, none⟩ (.int .u64 y.k2)).setCell ⟨w.heap.size, k * 9 + 8, none⟩ (.slice y.A2 y.n2 y.c2)) = W9 := ⟨_, rfl⟩
  obtain ⟨M9, hM9⟩ : ∃ M9, put9 M (k * 9) y' = M9 := ⟨_, rfl⟩
  have HD9 : Hid (D4 w W9 M9 #[.int .u64 k, .int .u64 a1, .int .u64 a2, .int .u64 a3] (Tryz.zeroCells45) #[.int .i64 0, .int .u64 0]) := by show D4 _ _ _ _ _ _; rw [← hW9, ← hM9, ← HNy.out]; exact HD8.out.put (k * 9) ⟨y.b0, y.k0, y.A0, y.n0, y.c0, is, cap, A, m, c, y.b2, y.k2, y.A2, y.n2, y.c2⟩
  have HR9 : Hid (R3o L B W5.heap.size W9 y' { x with c := o' }) := by show R3o _ _ _ _ _ _; rw [← hW9]; exact HR8.out.put (o := k * 9) hB (show w.heap.size < W5.heap.size by have := HK5.out; omega) ⟨y.b0, y.k0, y.A0, y.n0, y.c0, is, cap, A, m, c, y.b2, y.k2, y.A2, y.n2, y.c2⟩
  have H109 : Hid (Bk W9 W4.heap.size 47 #[.int .i64 cc, .int .u64 uu]) := by show Bk _ _ _ _; rw [← hW9]; exact bk_set9 (o := k * 9) H108.out (show w.heap.size ≠ W4.heap.size by have := HG8.out; omega) ⟨y.b0, y.k0, y.A0, y.n0, y.c0, is, cap, A, m, c, y.b2, y.k2, y.A2, y.n2, y.c2⟩
  have HI9 : Hid ((Tryz.prog.info? 45).map (·.size) = some M9.size) := by show _ = _; rw [← hM9, put9_size]; exact HI144.out
  have HS9 : Hid (M9.size = 144) := by show _ = _; rw [← hM9, put9_size]; exact HSz.out
  have HOne : Hid (M9.all (·.oneCell') = true) := by show _ = _; rw [← hM9]; exact all_one (put9_one HSz.out hk HX.out.one y')
  have HM9 := Lib.hid hM9
  have HW9 := Lib.hid hW9
  clear hW9 hM9
  go_upto_region 18 with fail
  rw [HW9.out]
  clear HW9 q0 kf e0 d0 f0 e1 d1 f1 e2 d2 f2 e3 d3 f3 e4 d4 f4 e5 d5 f5 e6 d6 f6 e7 d7 f7 e8 d8 f8
  obtain ⟨V, hV⟩ : ∃ V, W9.drew = V := ⟨_, rfl⟩
  refine wp_region_held_drew (S := (fun w' => w'.rangeAt w.heap.size 0 M9.toList ∧ w'.rangeAt W4.heap.size 0 (#[.int .i64 cc, .int .u64 uu] : Array Value).toList)) (by kernel_rfl) ?_ (fun hHeld => ?_)
  ·exact ⟨HD9.out.hm.rng, H109.out.rng⟩
  refine loadA 0 M9 Tryz.underlying45 rfl HI9.out ?_ ?_
  ·(intro w hSw; exact hSw.1)
  try simp only [Act.put, pS]
  refine loadA 1 #[.int .i64 cc, .int .u64 uu] Tryz.underlying47 rfl (by kernel_rfl) ?_ ?_
  ·(intro w hSw; exact hSw.2)
  try simp only [Act.put, pS]
  have HD9 : Hid (D4 w V M9 #[.int .u64 k, .int .u64 a1, .int .u64 a2, .int .u64 a3] (Tryz.zeroCells45) #[.int .i64 0, .int .u64 0]) := by show D4 _ _ _ _ _ _; rw [← hV]; exact HD9.out.drew
  have HR9 : Hid (R3o L B W5.heap.size V y' { x with c := o' }) := by show R3o _ _ _ _ _ _; rw [← hV]; exact HR9.out.drew
  have H109 : Hid (Bk V W4.heap.size 47 #[.int .i64 cc, .int .u64 uu]) := by show Bk _ _ _ _; rw [← hV]; exact H109.out
  rw [hV] at hHeld ⊢
  clear hV
  refine comeA 2 fun K hK => ?_
  refine wp_store_row 45 (.tmp 6) (.tmp 93) rfl (w.heap.size + 1 + 1) M9 (by rfl) (by rfl) 45 (Tryz.zeroCells45) HD9.out.hz HI9.out (by rw [HS9.out]; exact z144_size) HOne.out ?_
  obtain ⟨W10, hW10⟩ : ∃ W, V.setRow (w.heap.size + 1 + 1) M9 = W := ⟨_, rfl⟩
  have HD9 : Hid (D4 w W10 M9 #[.int .u64 k, .int .u64 a1, .int .u64 a2, .int .u64 a3] M9 #[.int .i64 0, .int .u64 0]) := by show D4 _ _ _ _ _ _; rw [← hW10]; exact HD9.out.row
  have HR9 : Hid (R3o L B W5.heap.size W10 y' { x with c := o' }) := by show R3o _ _ _ _ _ _; rw [← hW10]; exact HR9.out.row (show B ≤ (w.heap.size + 1 + 1) by omega) (show (w.heap.size + 1 + 1) < W5.heap.size by have := HK5.out; omega) M9
  have H109 : Hid (Bk W10 W4.heap.size 47 #[.int .i64 cc, .int .u64 uu]) := by show Bk _ _ _ _; rw [← hW10]; exact (setRow_other _ _ _ _ (show W4.heap.size ≠ (w.heap.size + 1 + 1) by have := HG8.out; have := HG10.out; omega)).trans H109.out
  rw [hW10]
  clear hW10
  refine hK.out _ _ ?_ (fun hHeld => ?_)
  ·exact ⟨HD9.out.hm.rng, H109.out.rng⟩
  clear hK K
  try simp only [Act.put, pS]
  refine comeA 3 fun K hK => ?_
  have e0 := HD9.out.h7.cell 0; have e1 := HD9.out.h7.cell 1; have f0 := HD9.out.h7.frozen 0; have f1 := HD9.out.h7.frozen 1; have kf := HD9.out.h7.lt
  simp at e0 e1
  go_simp
  clear e0 e1 f0 f1 kf
  obtain ⟨W11, hW11⟩ : ∃ W, (W10.setCell ⟨(w.heap.size + 1 + 1 + 1), 0, none⟩ (.int .i64 cc)).setCell ⟨(w.heap.size + 1 + 1 + 1), 1, none⟩ (.int .u64 uu) = W := ⟨_, rfl⟩
  have HD9 : Hid (D4 w W11 M9 #[.int .u64 k, .int .u64 a1, .int .u64 a2, .int .u64 a3] M9 #[.int .i64 cc, .int .u64 uu]) := by show D4 _ _ _ _ _ _; rw [← hW11]; exact HD9.out.res _ _
  have HR9 : Hid (R3o L B W5.heap.size W11 y' { x with c := o' }) := by show R3o _ _ _ _ _ _; rw [← hW11]; exact (HR9.out.set_ (p := ⟨(w.heap.size + 1 + 1 + 1), 0, none⟩) (show B ≤ (w.heap.size + 1 + 1 + 1) by omega) (show (w.heap.size + 1 + 1 + 1) < W5.heap.size by have := HK5.out; omega) _).set_ (p := ⟨(w.heap.size + 1 + 1 + 1), 1, none⟩) (show B ≤ (w.heap.size + 1 + 1 + 1) by omega) (show (w.heap.size + 1 + 1 + 1) < W5.heap.size by have := HK5.out; omega) _
  have H109 : Hid (Bk W11 W4.heap.size 47 #[.int .i64 cc, .int .u64 uu]) := by show Bk _ _ _ _; rw [← hW11]; exact bk_set_ne (bk_set_ne H109.out (show (w.heap.size + 1 + 1 + 1) ≠ W4.heap.size by have := HG8.out; have := HG10.out; omega)) (show (w.heap.size + 1 + 1 + 1) ≠ W4.heap.size by have := HG8.out; have := HG10.out; omega)
  rw [hW11]
  clear hW11
  refine hK.out _ _ ?_ (fun hHeld => ?_)
  ·exact ⟨HD9.out.hm.rng, H109.out.rng⟩
  clear hK K
  try simp only [Act.put, pS]
  refine wpAnyH_done (by kernel_rfl) ?_ _
  try simp only [Act.put, pS]
  clear hHeld
  have HRW : Hid (RWo L B w.heap.size W11 M9 (ths.set k { x with c := o' })) := by show RWo _ _ _ _ _ _; rw [← HM9.out]; exact (RWo.of _ (HX.out.below HD9.out.hb hB)).put hk (HR9.out.low (by have := HK5.out; omega))
  go_wp2_with ((with_reducible show bodyPost _ _ _ _ _ _); refine bodyPost_ret (results_cc rfl _ W11 (w.heap.size + 1 + 1) (w.heap.size + 1 + 1 + 1) 45 47 M9 #[.int .i64 cc, .int .u64 uu] _ _ (by rfl) HD9.out.hz Tryz.underlying45 rfl HI9.out (by rfl) HD9.out.h7 Tryz.underlying47 rfl (by kernel_rfl)) rfl ?_; exact ⟨_, _, rfl, HRW.out, ⟨_, _, rfl⟩, HD9.out.hb⟩)
 ·rw [hI]
  go_wp2_with fail
  refine (ris23_any y.b0 y.b1 y.b2 _ _ _ _ _ _ _).mono ?_
  rintro e W4 ⟨rfl, hb⟩
  rw [HIs.out]
  have HD := Lib.hid (HD.out.below hb)
  have H8 := Lib.hid (H8.out.below hb H8.out.lt)
  clear hb e0 e1 e2 e3 e4 e5 e6 e7
  have e8 := cell_of H8.out
  have e0 := e8 0 _ rfl
  have e1 := e8 1 _ rfl
  have e2 := e8 2 _ rfl
  have e3 := e8 3 _ rfl
  have e4 := e8 4 _ rfl
  have e5 := e8 5 _ rfl
  have e6 := e8 6 _ rfl
  have e7 := e8 7 _ rfl
  have e8 := e8 8 _ rfl
  clear e8
  go_wp2_with fail
  refine (rkind_any n _).mono ?_
  rintro e Wk ⟨rfl, hWk⟩
  rw [hWk, HKn.out]
  clear hWk Wk
  go_upto_region 12 with fail
  obtain ⟨W5, hW5⟩ : ∃ W5, W4.alloc (.cells #[.int .i64 0, .int .u64 0] 47) = W5 := ⟨_, rfl⟩
  have H10 : Hid (Bk W5 W4.heap.size 47 #[.int .i64 0, .int .u64 0]) := by show Bk _ _ _ _; rw [← hW5]; exact Bk.new _ _ _
  have hb : Below W4.heap.size W4 W5 := by rw [← hW5]; exact (Below.refl _ _).alloc (Nat.le_refl _) _
  have HG10 : Hid (W1.heap.size < W4.heap.size) := H8.out.lt
  have HD := Lib.hid (HD.out.below hb)
  have H8 := Lib.hid (H8.out.below hb H8.out.lt)
  rw [hW5]
  clear hW5 hb e0 e1 e2 e3 e4 e5 e6 e7 e8
  go_wp2_with fail
  refine (rkind_any n _).mono ?_
  rintro e Wk ⟨rfl, hWk⟩
  rw [hWk, HKn.out]
  clear hWk Wk
  go_wp2_with fail
  refine (rkind_any n _).mono ?_
  rintro e Wk ⟨rfl, hWk⟩
  rw [hWk, HKn.out]
  clear hWk Wk
  have e9 := cell_of H8.out
  have e0 := e9 0 _ rfl
  have e1 := e9 1 _ rfl
  have e2 := e9 2 _ rfl
  have e3 := e9 3 _ rfl
  have e4 := e9 4 _ rfl
  have e5 := e9 5 _ rfl
  have e6 := e9 6 _ rfl
  have e7 := e9 7 _ rfl
  have e8 := e9 8 _ rfl
  have q1 : W5.cell? ⟨w.heap.size + 1, 1, none⟩ = some (.int .u64 a1) := HD.out.ha.cell 1
  have q2 : W5.cell? ⟨w.heap.size + 1, 2, none⟩ = some (.int .u64 a2) := HD.out.ha.cell 2
  clear e9
  go_wp2_with fail
  have HK5 : Hid (w.heap.size + 3 < W5.heap.size) := by have := HG8.out; have := HG10.out; have := H10.out.lt; show _ < _; omega
  have HYw := Lib.hid (HY.out.below HD.out.hb hB)
  refine (HDo.out _ _ HYw.out.c HD.out.hb.size).mono ?_
  rintro e W7 ⟨vs, r, rfl, hq, ⟨cc, uu, rfl⟩, hb⟩
  obtain ⟨is, cap, A, m, c, rfl⟩ := hq.cells
  obtain ⟨y', hy'⟩ : ∃ y' : C9, (⟨y.b0, y.k0, y.A0, y.n0, y.c0, is, cap, A, m, c, y.b2, y.k2, y.A2, y.n2, y.c2⟩ : C9) = y' := ⟨_, rfl⟩
  have HR : Hid (R3o L B W5.heap.size W7 y' { x with c := o' }) := by show R3o _ _ _ _ _ _; rw [← hy']; exact ⟨RQo.of _ (HYw.out.q.below hb (Nat.le_trans hB HD.out.hb.size)), hq, RTo.of _ (HYw.out.t.below hb (Nat.le_trans hB HD.out.hb.size))⟩
  have HD := Lib.hid (HD.out.below hb)
  have H8 := Lib.hid (H8.out.below hb H8.out.lt)
  have H10v := Lib.hid H10.out.lt
  have H10 := Lib.hid (H10.out.below hb H10.out.lt)
  clear hq hb q1 q2 e0 e1 e2 e3 e4 e5 e6 e7 e8
  have e9 := cell_of H8.out
  have e0 := e9 3 _ rfl
  have e1 := e9 4 _ rfl
  have e2 := e9 5 _ rfl
  have f0 := H8.out.frozen 3
  have f1 := H8.out.frozen 4
  have f2 := H8.out.frozen 5
  have kf := H8.out.lt
  have e5 := H10.out.cell 0; have e6 := H10.out.cell 1; have f5 := H10.out.frozen 0; have f6 := H10.out.frozen 1; have kg := H10.out.lt
  simp at e5 e6
  clear e9
  have hlt : W1.heap.size < W4.heap.size := HG10.out
  have hne1 : ¬ (W4.heap.size = W1.heap.size) := by omega
  have hne2 : ¬ (W1.heap.size = W4.heap.size) := by omega
  obtain ⟨W8, hW8⟩ : ∃ W8, (((((W7.setCell ⟨W1.heap.size, 3, none⟩ (.bool is)).setCell ⟨W1.heap.size, 4, none⟩ (.int .u64 cap)).setCell ⟨W1.heap.size, 5, none⟩ (.slice A m c)).setCell ⟨W4.heap.size, 0, none⟩ (.int .i64 cc)).setCell ⟨W4.heap.size, 1, none⟩ (.int .u64 uu)) = W8 := ⟨_, rfl⟩
  have HD8 : Hid (D4 w W8 M #[.int .u64 k, .int .u64 a1, .int .u64 a2, .int .u64 a3] (Tryz.zeroCells45) #[.int .i64 0, .int .u64 0]) := by show D4 _ _ _ _ _ _; rw [← hW8]; exact (((((HD.out.set_ (p := ⟨W1.heap.size, 3, none⟩) (show w.heap.size + 3 < W1.heap.size from HG8.out) _).set_ (p := ⟨W1.heap.size, 4, none⟩) (show w.heap.size + 3 < W1.heap.size from HG8.out) _).set_ (p := ⟨W1.heap.size, 5, none⟩) (show w.heap.size + 3 < W1.heap.size from HG8.out) _).set_ (p := ⟨W4.heap.size, 0, none⟩) (show w.heap.size + 3 < W4.heap.size by have := HG8.out; have := HG10.out; omega) _).set_ (p := ⟨W4.heap.size, 1, none⟩) (show w.heap.size + 3 < W4.heap.size by have := HG8.out; have := HG10.out; omega) _)
  have HR8 : Hid (R3o L B W5.heap.size W8 y' { x with c := o' }) := by show R3o _ _ _ _ _ _; rw [← hW8]; exact (((((HR.out.set_ (p := ⟨W1.heap.size, 3, none⟩) (show B ≤ W1.heap.size by have := HG8.out; omega) (show W1.heap.size < W5.heap.size by have := HG10.out; have := H10v.out; omega) _).set_ (p := ⟨W1.heap.size, 4, none⟩) (show B ≤ W1.heap.size by have := HG8.out; omega) (show W1.heap.size < W5.heap.size by have := HG10.out; have := H10v.out; omega) _).set_ (p := ⟨W1.heap.size, 5, none⟩) (show B ≤ W1.heap.size by have := HG8.out; omega) (show W1.heap.size < W5.heap.size by have := HG10.out; have := H10v.out; omega) _).set_ (p := ⟨W4.heap.size, 0, none⟩) (show B ≤ W4.heap.size by have := HG8.out; have := HG10.out; omega) (show W4.heap.size < W5.heap.size from H10v.out) _).set_ (p := ⟨W4.heap.size, 1, none⟩) (show B ≤ W4.heap.size by have := HG8.out; have := HG10.out; omega) (show W4.heap.size < W5.heap.size from H10v.out) _)
  have H88 : Hid (Bk W8 W1.heap.size 42 #[.bool y.b0, .int .u64 y.k0, .slice y.A0 y.n0 y.c0, .bool is, .int .u64 cap, .slice A m c, .bool y.b2, .int .u64 y.k2, .slice y.A2 y.n2 y.c2]) := by show Bk _ _ _ _; rw [← hW8]; exact (bk_set_ne (bk_set_ne (((H8.out.set_ 3 _).set_ 4 _).set_ 5 _) (p := ⟨W4.heap.size, 0, none⟩) (show W4.heap.size ≠ W1.heap.size by have := HG10.out; omega)) (p := ⟨W4.heap.size, 1, none⟩) (show W4.heap.size ≠ W1.heap.size by have := HG10.out; omega))
  have H108 : Hid (Bk W8 W4.heap.size 47 #[.int .i64 cc, .int .u64 uu]) := by show Bk _ _ _ _; rw [← hW8]; exact (((bk_set_ne (bk_set_ne (bk_set_ne H10.out (p := ⟨W1.heap.size, 3, none⟩) (show W1.heap.size ≠ W4.heap.size by have := HG10.out; omega)) (p := ⟨W1.heap.size, 4, none⟩) (show W1.heap.size ≠ W4.heap.size by have := HG10.out; omega)) (p := ⟨W1.heap.size, 5, none⟩) (show W1.heap.size ≠ W4.heap.size by have := HG10.out; omega)).set_ 0 _).set_ 1 _)
  have HW8 := Lib.hid hW8
  have HNy := Lib.hid hy'
  clear hW8 hy'
  go_upto_region 17 with fail
  rw [HW8.out]
  clear HW8 e0 e1 e2 e5 e6 f0 f1 f2 f5 f6 kf kg
  have q0 : W8.cell? ⟨w.heap.size + 1, 0, none⟩ = some (.int .u64 k) := HD8.out.ha.cell 0
  have e9 := cell_of H88.out
  have e0 := e9 0 _ rfl
  have e1 := e9 1 _ rfl
  have e2 := e9 2 _ rfl
  have e3 := e9 3 _ rfl
  have e4 := e9 4 _ rfl
  have e5 := e9 5 _ rfl
  have e6 := e9 6 _ rfl
  have e7 := e9 7 _ rfl
  have e8 := e9 8 _ rfl
  have d := cells9 HD8.out.hm HCy.out
  have d0 := d 0 _ rfl
  have d1 := d 1 _ rfl
  have d2 := d 2 _ rfl
  have d3 := d 3 _ rfl
  have d4 := d 4 _ rfl
  have d5 := d 5 _ rfl
  have d6 := d 6 _ rfl
  have d7 := d 7 _ rfl
  have d8 := d 8 _ rfl
  rw [Nat.add_zero] at d0
  have f0 := HD8.out.hm.frozen (k * 9)
  have f1 := HD8.out.hm.frozen (k * 9 + 1)
  have f2 := HD8.out.hm.frozen (k * 9 + 2)
  have f3 := HD8.out.hm.frozen (k * 9 + 3)
  have f4 := HD8.out.hm.frozen (k * 9 + 4)
  have f5 := HD8.out.hm.frozen (k * 9 + 5)
  have f6 := HD8.out.hm.frozen (k * 9 + 6)
  have f7 := HD8.out.hm.frozen (k * 9 + 7)
  have f8 := HD8.out.hm.frozen (k * 9 + 8)
  have kf := HD8.out.hm.lt
  clear e9 d
  obtain ⟨W9, hW9⟩ : ∃ W9, (((((((((W8.setCell ⟨w.heap.size, k * 9, none⟩ (.bool y.b0)).setCell ⟨w.heap.size, k * 9 + 1, none⟩ (.int .u64 y.k0)).setCell ⟨w.heap.size, k * 9 + 2, none⟩ (.slice y.A0 y.n0 y.c0)).setCell ⟨w.heap.size, k * 9 + 3, none⟩ (.bool is)).setCell ⟨w.heap.size, k * 9 + 4, none⟩ (.int .u64 cap)).setCell ⟨w.heap.size, k * 9 + 5, none⟩ (.slice A m c)).setCell ⟨w.heap.size, k * 9 + 6, none⟩ (.bool y.b2)).setCell ⟨w.heap.size, k * 9 + 7, none⟩ (.int .u64 y.k2)).setCell ⟨w.heap.size, k * 9 + 8, none⟩ (.slice y.A2 y.n2 y.c2)) = W9 := ⟨_, rfl⟩
  obtain ⟨M9, hM9⟩ : ∃ M9, put9 M (k * 9) y' = M9 := ⟨_, rfl⟩
  have HD9 : Hid (D4 w W9 M9 #[.int .u64 k, .int .u64 a1, .int .u64 a2, .int .u64 a3] (Tryz.zeroCells45) #[.int .i64 0, .int .u64 0]) := by show D4 _ _ _ _ _ _; rw [← hW9, ← hM9, ← HNy.out]; exact HD8.out.put (k * 9) ⟨y.b0, y.k0, y.A0, y.n0, y.c0, is, cap, A, m, c, y.b2, y.k2, y.A2, y.n2, y.c2⟩
  have HR9 : Hid (R3o L B W5.heap.size W9 y' { x with c := o' }) := by show R3o _ _ _ _ _ _; rw [← hW9]; exact HR8.out.put (o := k * 9) hB (show w.heap.size < W5.heap.size by have := HK5.out; omega) ⟨y.b0, y.k0, y.A0, y.n0, y.c0, is, cap, A, m, c, y.b2, y.k2, y.A2, y.n2, y.c2⟩
  have H109 : Hid (Bk W9 W4.heap.size 47 #[.int .i64 cc, .int .u64 uu]) := by show Bk _ _ _ _; rw [← hW9]; exact bk_set9 (o := k * 9) H108.out (show w.heap.size ≠ W4.heap.size by have := HG8.out; omega) ⟨y.b0, y.k0, y.A0, y.n0, y.c0, is, cap, A, m, c, y.b2, y.k2, y.A2, y.n2, y.c2⟩
  have HI9 : Hid ((Tryz.prog.info? 45).map (·.size) = some M9.size) := by show _ = _; rw [← hM9, put9_size]; exact HI144.out
  have HS9 : Hid (M9.size = 144) := by show _ = _; rw [← hM9, put9_size]; exact HSz.out
  have HOne : Hid (M9.all (·.oneCell') = true) := by show _ = _; rw [← hM9]; exact all_one (put9_one HSz.out hk HX.out.one y')
  have HM9 := Lib.hid hM9
  have HW9 := Lib.hid hW9
  clear hW9 hM9
  go_upto_region 18 with fail
  rw [HW9.out]
  clear HW9 q0 kf e0 d0 f0 e1 d1 f1 e2 d2 f2 e3 d3 f3 e4 d4 f4 e5 d5 f5 e6 d6 f6 e7 d7 f7 e8 d8 f8
  obtain ⟨V, hV⟩ : ∃ V, W9.drew = V := ⟨_, rfl⟩
  refine wp_region_held_drew (S := (fun w' => w'.rangeAt w.heap.size 0 M9.toList ∧ w'.rangeAt W4.heap.size 0 (#[.int .i64 cc, .int .u64 uu] : Array Value).toList)) (by kernel_rfl) ?_ (fun hHeld => ?_)
  ·exact ⟨HD9.out.hm.rng, H109.out.rng⟩
  refine loadA 0 M9 Tryz.underlying45 rfl HI9.out ?_ ?_
  ·(intro w hSw; exact hSw.1)
  try simp only [Act.put, pS]
  refine loadA 1 #[.int .i64 cc, .int .u64 uu] Tryz.underlying47 rfl (by kernel_rfl) ?_ ?_
  ·(intro w hSw; exact hSw.2)
  try simp only [Act.put, pS]
  have HD9 : Hid (D4 w V M9 #[.int .u64 k, .int .u64 a1, .int .u64 a2, .int .u64 a3] (Tryz.zeroCells45) #[.int .i64 0, .int .u64 0]) := by show D4 _ _ _ _ _ _; rw [← hV]; exact HD9.out.drew
  have HR9 : Hid (R3o L B W5.heap.size V y' { x with c := o' }) := by show R3o _ _ _ _ _ _; rw [← hV]; exact HR9.out.drew
  have H109 : Hid (Bk V W4.heap.size 47 #[.int .i64 cc, .int .u64 uu]) := by show Bk _ _ _ _; rw [← hV]; exact H109.out
  rw [hV] at hHeld ⊢
  clear hV
  refine comeA 2 fun K hK => ?_
  refine wp_store_row 45 (.tmp 6) (.tmp 93) rfl (w.heap.size + 1 + 1) M9 (by rfl) (by rfl) 45 (Tryz.zeroCells45) HD9.out.hz HI9.out (by rw [HS9.out]; exact z144_size) HOne.out ?_
  obtain ⟨W10, hW10⟩ : ∃ W, V.setRow (w.heap.size + 1 + 1) M9 = W := ⟨_, rfl⟩
  have HD9 : Hid (D4 w W10 M9 #[.int .u64 k, .int .u64 a1, .int .u64 a2, .int .u64 a3] M9 #[.int .i64 0, .int .u64 0]) := by show D4 _ _ _ _ _ _; rw [← hW10]; exact HD9.out.row
  have HR9 : Hid (R3o L B W5.heap.size W10 y' { x with c := o' }) := by show R3o _ _ _ _ _ _; rw [← hW10]; exact HR9.out.row (show B ≤ (w.heap.size + 1 + 1) by omega) (show (w.heap.size + 1 + 1) < W5.heap.size by have := HK5.out; omega) M9
  have H109 : Hid (Bk W10 W4.heap.size 47 #[.int .i64 cc, .int .u64 uu]) := by show Bk _ _ _ _; rw [← hW10]; exact (setRow_other _ _ _ _ (show W4.heap.size ≠ (w.heap.size + 1 + 1) by have := HG8.out; have := HG10.out; omega)).trans H109.out
  rw [hW10]
  clear hW10
  refine hK.out _ _ ?_ (fun hHeld => ?_)
  ·exact ⟨HD9.out.hm.rng, H109.out.rng⟩
  clear hK K
  try simp only [Act.put, pS]
  refine comeA 3 fun K hK => ?_
  have e0 := HD9.out.h7.cell 0; have e1 := HD9.out.h7.cell 1; have f0 := HD9.out.h7.frozen 0; have f1 := HD9.out.h7.frozen 1; have kf := HD9.out.h7.lt
  simp at e0 e1
  go_simp
  clear e0 e1 f0 f1 kf
  obtain ⟨W11, hW11⟩ : ∃ W, (W10.setCell ⟨(w.heap.size + 1 + 1 + 1), 0, none⟩ (.int .i64 cc)).setCell ⟨(w.heap.size + 1 + 1 + 1), 1, none⟩ (.int .u64 uu) = W := ⟨_, rfl⟩
  have HD9 : Hid (D4 w W11 M9 #[.int .u64 k, .int .u64 a1, .int .u64 a2, .int .u64 a3] M9 #[.int .i64 cc, .int .u64 uu]) := by show D4 _ _ _ _ _ _; rw [← hW11]; exact HD9.out.res _ _
  have HR9 : Hid (R3o L B W5.heap.size W11 y' { x with c := o' }) := by show R3o _ _ _ _ _ _; rw [← hW11]; exact (HR9.out.set_ (p := ⟨(w.heap.size + 1 + 1 + 1), 0, none⟩) (show B ≤ (w.heap.size + 1 + 1 + 1) by omega) (show (w.heap.size + 1 + 1 + 1) < W5.heap.size by have := HK5.out; omega) _).set_ (p := ⟨(w.heap.size + 1 + 1 + 1), 1, none⟩) (show B ≤ (w.heap.size + 1 + 1 + 1) by omega) (show (w.heap.size + 1 + 1 + 1) < W5.heap.size by have := HK5.out; omega) _
  have H109 : Hid (Bk W11 W4.heap.size 47 #[.int .i64 cc, .int .u64 uu]) := by show Bk _ _ _ _; rw [← hW11]; exact bk_set_ne (bk_set_ne H109.out (show (w.heap.size + 1 + 1 + 1) ≠ W4.heap.size by have := HG8.out; have := HG10.out; omega)) (show (w.heap.size + 1 + 1 + 1) ≠ W4.heap.size by have := HG8.out; have := HG10.out; omega)
  rw [hW11]
  clear hW11
  refine hK.out _ _ ?_ (fun hHeld => ?_)
  ·exact ⟨HD9.out.hm.rng, H109.out.rng⟩
  clear hK K
  try simp only [Act.put, pS]
  refine wpAnyH_done (by kernel_rfl) ?_ _
  try simp only [Act.put, pS]
  clear hHeld
  have HRW : Hid (RWo L B w.heap.size W11 M9 (ths.set k { x with c := o' })) := by show RWo _ _ _ _ _ _; rw [← HM9.out]; exact (RWo.of _ (HX.out.below HD9.out.hb hB)).put hk (HR9.out.low (by have := HK5.out; omega))
  go_wp2_with ((with_reducible show bodyPost _ _ _ _ _ _); refine bodyPost_ret (results_cc rfl _ W11 (w.heap.size + 1 + 1) (w.heap.size + 1 + 1 + 1) 45 47 M9 #[.int .i64 cc, .int .u64 uu] _ _ (by rfl) HD9.out.hz Tryz.underlying45 rfl HI9.out (by rfl) HD9.out.h7 Tryz.underlying47 rfl (by kernel_rfl)) rfl ?_; exact ⟨_, _, rfl, HRW.out, ⟨_, _, rfl⟩, HD9.out.hb⟩)
set_option maxRecDepth 100000 in
set_option maxHeartbeats 8000000 in
theorem rdo_t (ths : List Th) (M : Array Value) (n k : Nat) (a1 a2 a3 : Int) (x : Th) (nm : ByteArray) (L B : Nat) (w : World) (hx : RWd L B w M ths) (hL : L ≤ w.heap.size) (hB : B ≤ w.heap.size) (hn : n ≤ 18) (hk : k < 16) (hxk : ths[k]? = some x) (hnm : rNm[n]? = some (.string nm)) (hnk : 13 ≤ n) (o' : PO) (hi : isT x = 0 ∨ isT x = 3)
 (hd : ∀ (vs : Array Value) (V : World), RT L B V vs x.t → w.heap.size ≤ V.heap.size → Calls Tryz.prog 26 #[.agg vs, .string nm, .int .u64 a1, .int .u64 a2] V (DoesRT L B V o')) :
 Calls Tryz.prog 7 #[.agg M, .int .i64 n, .agg #[.int .u64 k, .int .u64 a1, .int .u64 a2, .int .u64 a3]] w (DoesRW L B w (ths.set k { x with t := o' })) := by
 have HKn : Hid (kindN n = 3) := by show _ = _; unfold kindN; rw [if_neg (by omega), if_neg (by omega)]
 have HDo := Lib.hid hd
 have HI := Lib.hid hi
 clear hd hi hnk
 have HX := Lib.hid hx
 have hsz := hx.size
 have hi144 : (Tryz.prog.info? 45).map (·.size) = some M.size := by rw [hsz]; kernel_rfl
 have HI144 := Lib.hid hi144
 have HSz := Lib.hid hsz
 obtain ⟨W1, hW1⟩ : ∃ W1, (((w.alloc (.cells M 45)).alloc (.cells #[.int .u64 k, .int .u64 a1, .int .u64 a2, .int .u64 a3] 49)).alloc (.cells Tryz.zeroCells45 45)).alloc (.cells #[.int .i64 0, .int .u64 0] 47) = W1 := ⟨_, rfl⟩
 have HD : Hid (D4 w W1 M #[.int .u64 k, .int .u64 a1, .int .u64 a2, .int .u64 a3] Tryz.zeroCells45 #[.int .i64 0, .int .u64 0]) := by show D4 _ _ _ _ _ _; rw [← hW1]; exact d4_new w M #[.int .u64 k, .int .u64 a1, .int .u64 a2, .int .u64 a3] Tryz.zeroCells45 #[.int .i64 0, .int .u64 0]
 have HW1 := Lib.hid hW1
 clear hW1 hi144 hsz hx
 go_enter Tryz.func7, Tryz.ntmps7
 go_upto_region 1 with fail
 rw [HW1.out]
 clear HW1
 have q0 : W1.cell? ⟨w.heap.size + 1, 0, none⟩ = some (.int .u64 k) := HD.out.ha.cell 0
 have q1 : W1.cell? ⟨w.heap.size + 1, 1, none⟩ = some (.int .u64 a1) := HD.out.ha.cell 1
 have q2 : W1.cell? ⟨w.heap.size + 1, 2, none⟩ = some (.int .u64 a2) := HD.out.ha.cell 2
 have HNm := Lib.hid hnm
 have hni : (n : Int) < 19 := by omega
 have hn0 : ¬ ((n : Int) < 0) := by omega
 have hn1 : ¬ ((n : Int) > 18) := by omega
 have hki : (k : Int) < 16 := by omega
 have hk1 : ¬ ((k : Int) > 15) := by omega
 obtain ⟨y, hcy, hy⟩ := HX.out.th k x hxk
 have HY := Lib.hid hy
 have HCy := Lib.hid hcy
 have HIs := Lib.hid (is_th hy)
 have d := cells9 HD.out.hm HCy.out
 have d0 := d 0 _ rfl
 have d1 := d 1 _ rfl
 have d2 := d 2 _ rfl
 have d3 := d 3 _ rfl
 have d4 := d 4 _ rfl
 have d5 := d 5 _ rfl
 have d6 := d 6 _ rfl
 have d7 := d 7 _ rfl
 have d8 := d 8 _ rfl
 rw [Nat.add_zero] at d0
 clear d hcy hy
 go_upto_region 6 with fail
 clear d0 d1 d2 d3 d4 d5 d6 d7 d8 q0 q1 q2
 obtain ⟨W2, hW2⟩ : ∃ W2, W1.alloc (.cells #[.bool y.b0, .int .u64 y.k0, .slice y.A0 y.n0 y.c0, .bool y.b1, .int .u64 y.k1, .slice y.A1 y.n1 y.c1, .bool y.b2, .int .u64 y.k2, .slice y.A2 y.n2 y.c2] 42) = W2 := ⟨_, rfl⟩
 have H8 : Hid (Bk W2 W1.heap.size 42 #[.bool y.b0, .int .u64 y.k0, .slice y.A0 y.n0 y.c0, .bool y.b1, .int .u64 y.k1, .slice y.A1 y.n1 y.c1, .bool y.b2, .int .u64 y.k2, .slice y.A2 y.n2 y.c2]) := by show Bk _ _ _ _; rw [← hW2]; exact Bk.new _ _ _
 have hb : Below W1.heap.size W1 W2 := by rw [← hW2]; exact (Below.refl _ _).alloc (Nat.le_refl _) _
 have HG8 : Hid (w.heap.size + 3 < W1.heap.size) := HD.out.h7.lt
 have HD := Lib.hid (HD.out.below hb)
 rw [hW2]
 clear hW2 hb
 go_wp2_with fail
 refine (rnames_any W2).mono ?_
 rintro e W3 ⟨rfl, hW3⟩
 have hb : Below W2.heap.size W2 W3 := by rw [hW3]; exact (Below.refl _ _).alloc (Nat.le_refl _) _
 have qn : W3.cell? ⟨W2.heap.size, n, none⟩ = some (.string nm) := by rw [hW3]; exact ((Bk.new _ _ _).cell n).trans HNm.out
 have HD := Lib.hid (HD.out.below hb)
 have H8 := Lib.hid (H8.out.below hb H8.out.lt)
 have e8 := cell_of H8.out
 have e0 := e8 0 _ rfl
 have e1 := e8 1 _ rfl
 have e2 := e8 2 _ rfl
 have e3 := e8 3 _ rfl
 have e4 := e8 4 _ rfl
 have e5 := e8 5 _ rfl
 have e6 := e8 6 _ rfl
 have e7 := e8 7 _ rfl
 have e8 := e8 8 _ rfl
 clear hW3 hb e8
 go_wp2_with fail
 refine (ris23_any y.b0 y.b1 y.b2 _ _ _ _ _ _ _).mono ?_
 rintro e W4 ⟨rfl, hb⟩
 rw [HIs.out]
 have HD := Lib.hid (HD.out.below hb)
 have H8 := Lib.hid (H8.out.below hb H8.out.lt)
 clear hb e0 e1 e2 e3 e4 e5 e6 e7
 have e8 := cell_of H8.out
 have e0 := e8 0 _ rfl
 have e1 := e8 1 _ rfl
 have e2 := e8 2 _ rfl
 have e3 := e8 3 _ rfl
 have e4 := e8 4 _ rfl
 have e5 := e8 5 _ rfl
 have e6 := e8 6 _ rfl
 have e7 := e8 7 _ rfl
 have e8 := e8 8 _ rfl
 clear e8
 rcases HI.out with hI | hI
 ·rw [hI]
  go_upto_region 12 with fail
  obtain ⟨W5, hW5⟩ : ∃ W5, W4.alloc (.cells #[.int .i64 0, .int .u64 0] 47) = W5 := ⟨_, rfl⟩
  have H10 : Hid (Bk W5 W4.heap.size 47 #[.int .i64 0, .int .u64 0]) := by show Bk _ _ _ _; rw [← hW5]; exact Bk.new _ _ _
  have hb : Below W4.heap.size W4 W5 := by rw [← hW5]; exact (Below.refl _ _).alloc (Nat.le_refl _) _
  have HG10 : Hid (W1.heap.size < W4.heap.size) := H8.out.lt
  have HD := Lib.hid (HD.out.below hb)
  have H8 := Lib.hid (H8.out.below hb H8.out.lt)
  rw [hW5]
  clear hW5 hb e0 e1 e2 e3 e4 e5 e6 e7 e8
  go_wp2_with fail
  refine (rkind_any n _).mono ?_
  rintro e Wk ⟨rfl, hWk⟩
  rw [hWk, HKn.out]
  clear hWk Wk
  go_wp2_with fail
  refine (rkind_any n _).mono ?_
  rintro e Wk ⟨rfl, hWk⟩
  rw [hWk, HKn.out]
  clear hWk Wk
  have e9 := cell_of H8.out
  have e0 := e9 0 _ rfl
  have e1 := e9 1 _ rfl
  have e2 := e9 2 _ rfl
  have e3 := e9 3 _ rfl
  have e4 := e9 4 _ rfl
  have e5 := e9 5 _ rfl
  have e6 := e9 6 _ rfl
  have e7 := e9 7 _ rfl
  have e8 := e9 8 _ rfl
  have q1 : W5.cell? ⟨w.heap.size + 1, 1, none⟩ = some (.int .u64 a1) := HD.out.ha.cell 1
  have q2 : W5.cell? ⟨w.heap.size + 1, 2, none⟩ = some (.int .u64 a2) := HD.out.ha.cell 2
  clear e9
  go_wp2_with fail
  have HK5 : Hid (w.heap.size + 3 < W5.heap.size) := by have := HG8.out; have := HG10.out; have := H10.out.lt; show _ < _; omega
  have HYw := Lib.hid (HY.out.below HD.out.hb hB)
  refine (HDo.out _ _ HYw.out.t HD.out.hb.size).mono ?_
  rintro e W7 ⟨vs, r, rfl, hq, ⟨cc, uu, rfl⟩, hb⟩
  obtain ⟨is, cap, A, m, c, rfl⟩ := hq.cells
  obtain ⟨y', hy'⟩ : ∃ y' : C9, (⟨y.b0, y.k0, y.A0, y.n0, y.c0, y.b1, y.k1, y.A1, y.n1, y.c1, is, cap, A, m, c⟩ : C9) = y' := ⟨_, rfl⟩
  have HR : Hid (R3o L B W5.heap.size W7 y' { x with t := o' }) := by show R3o _ _ _ _ _ _; rw [← hy']; exact ⟨RQo.of _ (HYw.out.q.below hb (Nat.le_trans hB HD.out.hb.size)), RQo.of _ (HYw.out.c.below hb (Nat.le_trans hB HD.out.hb.size)), hq⟩
  have HD := Lib.hid (HD.out.below hb)
  have H8 := Lib.hid (H8.out.below hb H8.out.lt)
  have H10v := Lib.hid H10.out.lt
  have H10 := Lib.hid (H10.out.below hb H10.out.lt)
  clear hq hb q1 q2 e0 e1 e2 e3 e4 e5 e6 e7 e8
  have e9 := cell_of H8.out
  have e0 := e9 6 _ rfl
  have e1 := e9 7 _ rfl
  have e2 := e9 8 _ rfl
  have f0 := H8.out.frozen 6
  have f1 := H8.out.frozen 7
  have f2 := H8.out.frozen 8
  have kf := H8.out.lt
  have e5 := H10.out.cell 0; have e6 := H10.out.cell 1; have f5 := H10.out.frozen 0; have f6 := H10.out.frozen 1; have kg := H10.out.lt
  simp at e5 e6
  clear e9
  have hlt : W1.heap.size < W4.heap.size := HG10.out
  have hne1 : ¬ (W4.heap.size = W1.heap.size) := by omega
  have hne2 : ¬ (W1.heap.size = W4.heap.size) := by omega
  obtain ⟨W8, hW8⟩ : ∃ W8, (((((W7.setCell ⟨W1.heap.size, 6, none⟩ (.bool is)).setCell ⟨W1.heap.size, 7, none⟩ (.int .u64 cap)).setCell ⟨W1.heap.size, 8, none⟩ (.slice A m c)).setCell ⟨W4.heap.size, 0, none⟩ (.int .i64 cc)).setCell ⟨W4.heap.size, 1, none⟩ (.int .u64 uu)) = W8 := ⟨_, rfl⟩
  have HD8 : Hid (D4 w W8 M #[.int .u64 k, .int .u64 a1, .int .u64 a2, .int .u64 a3] (Tryz.zeroCells45) #[.int .i64 0, .int .u64 0]) := by show D4 _ _ _ _ _ _; rw [← hW8]; exact (((((HD.out.set_ (p := ⟨W1.heap.size, 6, none⟩) (show w.heap.size + 3 < W1.heap.size from HG8.out) _).set_ (p := ⟨W1.heap.size, 7, none⟩) (show w.heap.size + 3 < W1.heap.size from HG8.out) _).set_ (p := ⟨W1.heap.size, 8, none⟩) (show w.heap.size + 3 < W1.heap.size from HG8.out) _).set_ (p := ⟨W4.heap.size, 0, none⟩) (show w.heap.size + 3 < W4.heap.size by have := HG8.out; have := HG10.out; omega) _).set_ (p := ⟨W4.heap.size, 1, none⟩) (show w.heap.size + 3 < W4.heap.size by have := HG8.out; have := HG10.out; omega) _)
  have HR8 : Hid (R3o L B W5.heap.size W8 y' { x with t := o' }) := by show R3o _ _ _ _ _ _; rw [← hW8]; exact (((((HR.out.set_ (p := ⟨W1.heap.size, 6, none⟩) (show B ≤ W1.heap.size by have := HG8.out; omega) (show W1.heap.size < W5.heap.size by have := HG10.out; have := H10v.out; omega) _).set_ (p := ⟨W1.heap.size, 7, none⟩) (show B ≤ W1.heap.size by have := HG8.out; omega) (show W1.heap.size < W5.heap.size by have := HG10.out; have := H10v.out; omega) _).set_ (p := ⟨W1.heap.size, 8, none⟩) (show B ≤ W1.heap.size by have := HG8.out; omega) (show W1.heap.size < W5.heap.size by have := HG10.out; have := H10v.out; omega) _).set_ (p := ⟨W4.heap.size, 0, none⟩) (show B ≤ W4.heap.size by have := HG8.out; have := HG10.out; omega) (show W4.heap.size < W5.heap.size from H10v.out) _).set_ (p := ⟨W4.heap.size, 1, none⟩) (show B ≤ W4.heap.size by have := HG8.out; have := HG10.out; omega) (show W4.heap.size < W5.heap.size from H10v.out) _)
  have H88 : Hid (Bk W8 W1.heap.size 42 #[.bool y.b0, .int .u64 y.k0, .slice y.A0 y.n0 y.c0, .bool y.b1, .int .u64 y.k1, .slice y.A1 y.n1 y.c1, .bool is, .int .u64 cap, .slice A m c]) := by show Bk _ _ _ _; rw [← hW8]; exact (bk_set_ne (bk_set_ne (((H8.out.set_ 6 _).set_ 7 _).set_ 8 _) (p := ⟨W4.heap.size, 0, none⟩) (show W4.heap.size ≠ W1.heap.size by have := HG10.out; omega)) (p := ⟨W4.heap.size, 1, none⟩) (show W4.heap.size ≠ W1.heap.size by have := HG10.out; omega))
  have H108 : Hid (Bk W8 W4.heap.size 47 #[.int .i64 cc, .int .u64 uu]) := by show Bk _ _ _ _; rw [← hW8]; exact (((bk_set_ne (bk_set_ne (bk_set_ne H10.out (p := ⟨W1.heap.size, 6, none⟩) (show W1.heap.size ≠ W4.heap.size by have := HG10.out; omega)) (p := ⟨W1.heap.size, 7, none⟩) (show W1.heap.size ≠ W4.heap.size by have := HG10.out; omega)) (p := ⟨W1.heap.size, 8, none⟩) (show W1.heap.size ≠ W4.heap.size by have := HG10.out; omega)).set_ 0 _).set_ 1 _)
  have HW8 := Lib.hid hW8
  have HNy := Lib.hid hy'
  clear hW8 hy'
  go_upto_region 17 with fail
  rw [HW8.out]
  clear HW8 e0 e1 e2 e5 e6 f0 f1 f2 f5 f6 kf kg
  have q0 : W8.cell? ⟨w.heap.size + 1, 0, none⟩ = some (.int .u64 k) := HD8.out.ha.cell 0
  have e9 := cell_of H88.out
  have e0 := e9 0 _ rfl
  have e1 := e9 1 _ rfl
  have e2 := e9 2 _ rfl
  have e3 := e9 3 _ rfl
  have e4 := e9 4 _ rfl
  have e5 := e9 5 _ rfl
  have e6 := e9 6 _ rfl
  have e7 := e9 7 _ rfl
  have e8 := e9 8 _ rfl
  have d := cells9 HD8.out.hm HCy.out
  have d0 := d 0 _ rfl
  have d1 := d 1 _ rfl
  have d2 := d 2 _ rfl
  have d3 := d 3 _ rfl
  have d4 := d 4 _ rfl
  have d5 := d 5 _ rfl
  have d6 := d 6 _ rfl
  have d7 := d 7 _ rfl
  have d8 := d 8 _ rfl
  rw [Nat.add_zero] at d0
  have f0 := HD8.out.hm.frozen (k * 9)
  have f1 := HD8.out.hm.frozen (k * 9 + 1)
  have f2 := HD8.out.hm.frozen (k * 9 + 2)
  have f3 := HD8.out.hm.frozen (k * 9 + 3)
  have f4 := HD8.out.hm.frozen (k * 9 + 4)
  have f5 := HD8.out.hm.frozen (k * 9 + 5)
  have f6 := HD8.out.hm.frozen (k * 9 + 6)
  have f7 := HD8.out.hm.frozen (k * 9 + 7)
  have f8 := HD8.out.hm.frozen (k * 9 + 8)
  have kf := HD8.out.hm.lt
  clear e9 d
  obtain ⟨W9, hW9⟩ : ∃ W9, (((((((((W8.setCell ⟨w.heap.size, k * 9, none⟩ (.bool y.b0)).setCell ⟨w.heap.size, k * 9 + 1, none⟩ (.int .u64 y.k0)).setCell ⟨w.heap.size, k * 9 + 2, none⟩ (.slice y.A0 y.n0 y.c0)).setCell ⟨w.heap.size, k * 9 + 3, none⟩ (.bool y.b1)).setCell ⟨w.heap.size, k * 9 + 4, none⟩ (.int .u64 y.k1)).setCell ⟨w.heap.size, k * 9 + 5, none⟩ (.slice y.A1 y.n1 y.c1)).setCell ⟨w.heap.size, k * 9 + 6, none⟩ (.bool is)).setCell ⟨w.heap.size, k * 9 + 7, none⟩ (.int .u64 cap)).setCell ⟨w.heap.size, k * 9 + 8, none⟩ (.slice A m c)) = W9 := ⟨_, rfl⟩
  obtain ⟨M9, hM9⟩ : ∃ M9, put9 M (k * 9) y' = M9 := ⟨_, rfl⟩
  have HD9 : Hid (D4 w W9 M9 #[.int .u64 k, .int .u64 a1, .int .u64 a2, .int .u64 a3] (Tryz.zeroCells45) #[.int .i64 0, .int .u64 0]) := by show D4 _ _ _ _ _ _; rw [← hW9, ← hM9, ← HNy.out]; exact HD8.out.put (k * 9) ⟨y.b0, y.k0, y.A0, y.n0, y.c0, y.b1, y.k1, y.A1, y.n1, y.c1, is, cap, A, m, c⟩
  have HR9 : Hid (R3o L B W5.heap.size W9 y' { x with t := o' }) := by show R3o _ _ _ _ _ _; rw [← hW9]; exact HR8.out.put (o := k * 9) hB (show w.heap.size < W5.heap.size by have := HK5.out; omega) ⟨y.b0, y.k0, y.A0, y.n0, y.c0, y.b1, y.k1, y.A1, y.n1, y.c1, is, cap, A, m, c⟩
  have H109 : Hid (Bk W9 W4.heap.size 47 #[.int .i64 cc, .int .u64 uu]) := by show Bk _ _ _ _; rw [← hW9]; exact bk_set9 (o := k * 9) H108.out (show w.heap.size ≠ W4.heap.size by have := HG8.out; omega) ⟨y.b0, y.k0, y.A0, y.n0, y.c0, y.b1, y.k1, y.A1, y.n1, y.c1, is, cap, A, m, c⟩
  have HI9 : Hid ((Tryz.prog.info? 45).map (·.size) = some M9.size) := by show _ = _; rw [← hM9, put9_size]; exact HI144.out
  have HS9 : Hid (M9.size = 144) := by show _ = _; rw [← hM9, put9_size]; exact HSz.out
  have HOne : Hid (M9.all (·.oneCell') = true) := by show _ = _; rw [← hM9]; exact all_one (put9_one HSz.out hk HX.out.one y')
  have HM9 := Lib.hid hM9
  have HW9 := Lib.hid hW9
  clear hW9 hM9
  go_upto_region 18 with fail
  rw [HW9.out]
  clear HW9 q0 kf e0 d0 f0 e1 d1 f1 e2 d2 f2 e3 d3 f3 e4 d4 f4 e5 d5 f5 e6 d6 f6 e7 d7 f7 e8 d8 f8
  obtain ⟨V, hV⟩ : ∃ V, W9.drew = V := ⟨_, rfl⟩
  refine wp_region_held_drew (S := (fun w' => w'.rangeAt w.heap.size 0 M9.toList ∧ w'.rangeAt W4.heap.size 0 (#[.int .i64 cc, .int .u64 uu] : Array Value).toList)) (by kernel_rfl) ?_ (fun hHeld => ?_)
  ·exact ⟨HD9.out.hm.rng, H109.out.rng⟩
  refine loadA 0 M9 Tryz.underlying45 rfl HI9.out ?_ ?_
  ·(intro w hSw; exact hSw.1)
  try simp only [Act.put, pS]
  refine loadA 1 #[.int .i64 cc, .int .u64 uu] Tryz.underlying47 rfl (by kernel_rfl) ?_ ?_
  ·(intro w hSw; exact hSw.2)
  try simp only [Act.put, pS]
  have HD9 : Hid (D4 w V M9 #[.int .u64 k, .int .u64 a1, .int .u64 a2, .int .u64 a3] (Tryz.zeroCells45) #[.int .i64 0, .int .u64 0]) := by show D4 _ _ _ _ _ _; rw [← hV]; exact HD9.out.drew
  have HR9 : Hid (R3o L B W5.heap.size V y' { x with t := o' }) := by show R3o _ _ _ _ _ _; rw [← hV]; exact HR9.out.drew
  have H109 : Hid (Bk V W4.heap.size 47 #[.int .i64 cc, .int .u64 uu]) := by show Bk _ _ _ _; rw [← hV]; exact H109.out
  rw [hV] at hHeld ⊢
  clear hV
  refine comeA 2 fun K hK => ?_
  refine wp_store_row 45 (.tmp 6) (.tmp 93) rfl (w.heap.size + 1 + 1) M9 (by rfl) (by rfl) 45 (Tryz.zeroCells45) HD9.out.hz HI9.out (by rw [HS9.out]; exact z144_size) HOne.out ?_
  obtain ⟨W10, hW10⟩ : ∃ W, V.setRow (w.heap.size + 1 + 1) M9 = W := ⟨_, rfl⟩
  have HD9 : Hid (D4 w W10 M9 #[.int .u64 k, .int .u64 a1, .int .u64 a2, .int .u64 a3] M9 #[.int .i64 0, .int .u64 0]) := by show D4 _ _ _ _ _ _; rw [← hW10]; exact HD9.out.row
  have HR9 : Hid (R3o L B W5.heap.size W10 y' { x with t := o' }) := by show R3o _ _ _ _ _ _; rw [← hW10]; exact HR9.out.row (show B ≤ (w.heap.size + 1 + 1) by omega) (show (w.heap.size + 1 + 1) < W5.heap.size by have := HK5.out; omega) M9
  have H109 : Hid (Bk W10 W4.heap.size 47 #[.int .i64 cc, .int .u64 uu]) := by show Bk _ _ _ _; rw [← hW10]; exact (setRow_other _ _ _ _ (show W4.heap.size ≠ (w.heap.size + 1 + 1) by have := HG8.out; have := HG10.out; omega)).trans H109.out
  rw [hW10]
  clear hW10
  refine hK.out _ _ ?_ (fun hHeld => ?_)
  ·exact ⟨HD9.out.hm.rng, H109.out.rng⟩
  clear hK K
  try simp only [Act.put, pS]
  refine comeA 3 fun K hK => ?_
  have e0 := HD9.out.h7.cell 0; have e1 := HD9.out.h7.cell 1; have f0 := HD9.out.h7.frozen 0; have f1 := HD9.out.h7.frozen 1; have kf := HD9.out.h7.lt
  simp at e0 e1
  go_simp
  clear e0 e1 f0 f1 kf
  obtain ⟨W11, hW11⟩ : ∃ W, (W10.setCell ⟨(w.heap.size + 1 + 1 + 1), 0, none⟩ (.int .i64 cc)).setCell ⟨(w.heap.size + 1 + 1 + 1), 1, none⟩ (.int .u64 uu) = W := ⟨_, rfl⟩
  have HD9 : Hid (D4 w W11 M9 #[.int .u64 k, .int .u64 a1, .int .u64 a2, .int .u64 a3] M9 #[.int .i64 cc, .int .u64 uu]) := by show D4 _ _ _ _ _ _; rw [← hW11]; exact HD9.out.res _ _
  have HR9 : Hid (R3o L B W5.heap.size W11 y' { x with t := o' }) := by show R3o _ _ _ _ _ _; rw [← hW11]; exact (HR9.out.set_ (p := ⟨(w.heap.size + 1 + 1 + 1), 0, none⟩) (show B ≤ (w.heap.size + 1 + 1 + 1) by omega) (show (w.heap.size + 1 + 1 + 1) < W5.heap.size by have := HK5.out; omega) _).set_ (p := ⟨(w.heap.size + 1 + 1 + 1), 1, none⟩) (show B ≤ (w.heap.size + 1 + 1 + 1) by omega) (show (w.heap.size + 1 + 1 + 1) < W5.heap.size by have := HK5.out; omega) _
  have H109 : Hid (Bk W11 W4.heap.size 47 #[.int .i64 cc, .int .u64 uu]) := by show Bk _ _ _ _; rw [← hW11]; exact bk_set_ne (bk_set_ne H109.out (show (w.heap.size + 1 + 1 + 1) ≠ W4.heap.size by have := HG8.out; have := HG10.out; omega)) (show (w.heap.size + 1 + 1 + 1) ≠ W4.heap.size by have := HG8.out; have := HG10.out; omega)
  rw [hW11]
  clear hW11
  refine hK.out _ _ ?_ (fun hHeld => ?_)
  ·exact ⟨HD9.out.hm.rng, H109.out.rng⟩
  clear hK K
  try simp only [Act.put, pS]
  refine wpAnyH_done (by kernel_rfl) ?_ _
  try simp only [Act.put, pS]
  clear hHeld
  have HRW : Hid (RWo L B w.heap.size W11 M9 (ths.set k { x with t := o' })) := by show RWo _ _ _ _ _ _; rw [← HM9.out]; exact (RWo.of _ (HX.out.below HD9.out.hb hB)).put hk (HR9.out.low (by have := HK5.out; omega))
  go_wp2_with ((with_reducible show bodyPost _ _ _ _ _ _); refine bodyPost_ret (results_cc rfl _ W11 (w.heap.size + 1 + 1) (w.heap.size + 1 + 1 + 1) 45 47 M9 #[.int .i64 cc, .int .u64 uu] _ _ (by rfl) HD9.out.hz Tryz.underlying45 rfl HI9.out (by rfl) HD9.out.h7 Tryz.underlying47 rfl (by kernel_rfl)) rfl ?_; exact ⟨_, _, rfl, HRW.out, ⟨_, _, rfl⟩, HD9.out.hb⟩)
 ·rw [hI]
  go_wp2_with fail
  refine (ris23_any y.b0 y.b1 y.b2 _ _ _ _ _ _ _).mono ?_
  rintro e W4 ⟨rfl, hb⟩
  rw [HIs.out]
  have HD := Lib.hid (HD.out.below hb)
  have H8 := Lib.hid (H8.out.below hb H8.out.lt)
  clear hb e0 e1 e2 e3 e4 e5 e6 e7
  have e8 := cell_of H8.out
  have e0 := e8 0 _ rfl
  have e1 := e8 1 _ rfl
  have e2 := e8 2 _ rfl
  have e3 := e8 3 _ rfl
  have e4 := e8 4 _ rfl
  have e5 := e8 5 _ rfl
  have e6 := e8 6 _ rfl
  have e7 := e8 7 _ rfl
  have e8 := e8 8 _ rfl
  clear e8
  go_wp2_with fail
  refine (rkind_any n _).mono ?_
  rintro e Wk ⟨rfl, hWk⟩
  rw [hWk, HKn.out]
  clear hWk Wk
  go_upto_region 12 with fail
  obtain ⟨W5, hW5⟩ : ∃ W5, W4.alloc (.cells #[.int .i64 0, .int .u64 0] 47) = W5 := ⟨_, rfl⟩
  have H10 : Hid (Bk W5 W4.heap.size 47 #[.int .i64 0, .int .u64 0]) := by show Bk _ _ _ _; rw [← hW5]; exact Bk.new _ _ _
  have hb : Below W4.heap.size W4 W5 := by rw [← hW5]; exact (Below.refl _ _).alloc (Nat.le_refl _) _
  have HG10 : Hid (W1.heap.size < W4.heap.size) := H8.out.lt
  have HD := Lib.hid (HD.out.below hb)
  have H8 := Lib.hid (H8.out.below hb H8.out.lt)
  rw [hW5]
  clear hW5 hb e0 e1 e2 e3 e4 e5 e6 e7 e8
  go_wp2_with fail
  refine (rkind_any n _).mono ?_
  rintro e Wk ⟨rfl, hWk⟩
  rw [hWk, HKn.out]
  clear hWk Wk
  go_wp2_with fail
  refine (rkind_any n _).mono ?_
  rintro e Wk ⟨rfl, hWk⟩
  rw [hWk, HKn.out]
  clear hWk Wk
  have e9 := cell_of H8.out
  have e0 := e9 0 _ rfl
  have e1 := e9 1 _ rfl
  have e2 := e9 2 _ rfl
  have e3 := e9 3 _ rfl
  have e4 := e9 4 _ rfl
  have e5 := e9 5 _ rfl
  have e6 := e9 6 _ rfl
  have e7 := e9 7 _ rfl
  have e8 := e9 8 _ rfl
  have q1 : W5.cell? ⟨w.heap.size + 1, 1, none⟩ = some (.int .u64 a1) := HD.out.ha.cell 1
  have q2 : W5.cell? ⟨w.heap.size + 1, 2, none⟩ = some (.int .u64 a2) := HD.out.ha.cell 2
  clear e9
  go_wp2_with fail
  have HK5 : Hid (w.heap.size + 3 < W5.heap.size) := by have := HG8.out; have := HG10.out; have := H10.out.lt; show _ < _; omega
  have HYw := Lib.hid (HY.out.below HD.out.hb hB)
  refine (HDo.out _ _ HYw.out.t HD.out.hb.size).mono ?_
  rintro e W7 ⟨vs, r, rfl, hq, ⟨cc, uu, rfl⟩, hb⟩
  obtain ⟨is, cap, A, m, c, rfl⟩ := hq.cells
  obtain ⟨y', hy'⟩ : ∃ y' : C9, (⟨y.b0, y.k0, y.A0, y.n0, y.c0, y.b1, y.k1, y.A1, y.n1, y.c1, is, cap, A, m, c⟩ : C9) = y' := ⟨_, rfl⟩
  have HR : Hid (R3o L B W5.heap.size W7 y' { x with t := o' }) := by show R3o _ _ _ _ _ _; rw [← hy']; exact ⟨RQo.of _ (HYw.out.q.below hb (Nat.le_trans hB HD.out.hb.size)), RQo.of _ (HYw.out.c.below hb (Nat.le_trans hB HD.out.hb.size)), hq⟩
  have HD := Lib.hid (HD.out.below hb)
  have H8 := Lib.hid (H8.out.below hb H8.out.lt)
  have H10v := Lib.hid H10.out.lt
  have H10 := Lib.hid (H10.out.below hb H10.out.lt)
  clear hq hb q1 q2 e0 e1 e2 e3 e4 e5 e6 e7 e8
  have e9 := cell_of H8.out
  have e0 := e9 6 _ rfl
  have e1 := e9 7 _ rfl
  have e2 := e9 8 _ rfl
  have f0 := H8.out.frozen 6
  have f1 := H8.out.frozen 7
  have f2 := H8.out.frozen 8
  have kf := H8.out.lt
  have e5 := H10.out.cell 0; have e6 := H10.out.cell 1; have f5 := H10.out.frozen 0; have f6 := H10.out.frozen 1; have kg := H10.out.lt
  simp at e5 e6
  clear e9
  have hlt : W1.heap.size < W4.heap.size := HG10.out
  have hne1 : ¬ (W4.heap.size = W1.heap.size) := by omega
  have hne2 : ¬ (W1.heap.size = W4.heap.size) := by omega
  obtain ⟨W8, hW8⟩ : ∃ W8, (((((W7.setCell ⟨W1.heap.size, 6, none⟩ (.bool is)).setCell ⟨W1.heap.size, 7, none⟩ (.int .u64 cap)).setCell ⟨W1.heap.size, 8, none⟩ (.slice A m c)).setCell ⟨W4.heap.size, 0, none⟩ (.int .i64 cc)).setCell ⟨W4.heap.size, 1, none⟩ (.int .u64 uu)) = W8 := ⟨_, rfl⟩
  have HD8 : Hid (D4 w W8 M #[.int .u64 k, .int .u64 a1, .int .u64 a2, .int .u64 a3] (Tryz.zeroCells45) #[.int .i64 0, .int .u64 0]) := by show D4 _ _ _ _ _ _; rw [← hW8]; exact (((((HD.out.set_ (p := ⟨W1.heap.size, 6, none⟩) (show w.heap.size + 3 < W1.heap.size from HG8.out) _).set_ (p := ⟨W1.heap.size, 7, none⟩) (show w.heap.size + 3 < W1.heap.size from HG8.out) _).set_ (p := ⟨W1.heap.size, 8, none⟩) (show w.heap.size + 3 < W1.heap.size from HG8.out) _).set_ (p := ⟨W4.heap.size, 0, none⟩) (show w.heap.size + 3 < W4.heap.size by have := HG8.out; have := HG10.out; omega) _).set_ (p := ⟨W4.heap.size, 1, none⟩) (show w.heap.size + 3 < W4.heap.size by have := HG8.out; have := HG10.out; omega) _)
  have HR8 : Hid (R3o L B W5.heap.size W8 y' { x with t := o' }) := by show R3o _ _ _ _ _ _; rw [← hW8]; exact (((((HR.out.set_ (p := ⟨W1.heap.size, 6, none⟩) (show B ≤ W1.heap.size by have := HG8.out; omega) (show W1.heap.size < W5.heap.size by have := HG10.out; have := H10v.out; omega) _).set_ (p := ⟨W1.heap.size, 7, none⟩) (show B ≤ W1.heap.size by have := HG8.out; omega) (show W1.heap.size < W5.heap.size by have := HG10.out; have := H10v.out; omega) _).set_ (p := ⟨W1.heap.size, 8, none⟩) (show B ≤ W1.heap.size by have := HG8.out; omega) (show W1.heap.size < W5.heap.size by have := HG10.out; have := H10v.out; omega) _).set_ (p := ⟨W4.heap.size, 0, none⟩) (show B ≤ W4.heap.size by have := HG8.out; have := HG10.out; omega) (show W4.heap.size < W5.heap.size from H10v.out) _).set_ (p := ⟨W4.heap.size, 1, none⟩) (show B ≤ W4.heap.size by have := HG8.out; have := HG10.out; omega) (show W4.heap.size < W5.heap.size from H10v.out) _)
  have H88 : Hid (Bk W8 W1.heap.size 42 #[.bool y.b0, .int .u64 y.k0, .slice y.A0 y.n0 y.c0, .bool y.b1, .int .u64 y.k1, .slice y.A1 y.n1 y.c1, .bool is, .int .u64 cap, .slice A m c]) := by show Bk _ _ _ _; rw [← hW8]; exact (bk_set_ne (bk_set_ne (((H8.out.set_ 6 _).set_ 7 _).set_ 8 _) (p := ⟨W4.heap.size, 0, none⟩) (show W4.heap.size ≠ W1.heap.size by have := HG10.out; omega)) (p := ⟨W4.heap.size, 1, none⟩) (show W4.heap.size ≠ W1.heap.size by have := HG10.out; omega))
  have H108 : Hid (Bk W8 W4.heap.size 47 #[.int .i64 cc, .int .u64 uu]) := by show Bk _ _ _ _; rw [← hW8]; exact (((bk_set_ne (bk_set_ne (bk_set_ne H10.out (p := ⟨W1.heap.size, 6, none⟩) (show W1.heap.size ≠ W4.heap.size by have := HG10.out; omega)) (p := ⟨W1.heap.size, 7, none⟩) (show W1.heap.size ≠ W4.heap.size by have := HG10.out; omega)) (p := ⟨W1.heap.size, 8, none⟩) (show W1.heap.size ≠ W4.heap.size by have := HG10.out; omega)).set_ 0 _).set_ 1 _)
  have HW8 := Lib.hid hW8
  have HNy := Lib.hid hy'
  clear hW8 hy'
  go_upto_region 17 with fail
  rw [HW8.out]
  clear HW8 e0 e1 e2 e5 e6 f0 f1 f2 f5 f6 kf kg
  have q0 : W8.cell? ⟨w.heap.size + 1, 0, none⟩ = some (.int .u64 k) := HD8.out.ha.cell 0
  have e9 := cell_of H88.out
  have e0 := e9 0 _ rfl
  have e1 := e9 1 _ rfl
  have e2 := e9 2 _ rfl
  have e3 := e9 3 _ rfl
  have e4 := e9 4 _ rfl
  have e5 := e9 5 _ rfl
  have e6 := e9 6 _ rfl
  have e7 := e9 7 _ rfl
  have e8 := e9 8 _ rfl
  have d := cells9 HD8.out.hm HCy.out
  have d0 := d 0 _ rfl
  have d1 := d 1 _ rfl
  have d2 := d 2 _ rfl
  have d3 := d 3 _ rfl
  have d4 := d 4 _ rfl
  have d5 := d 5 _ rfl
  have d6 := d 6 _ rfl
  have d7 := d 7 _ rfl
  have d8 := d 8 _ rfl
  rw [Nat.add_zero] at d0
  have f0 := HD8.out.hm.frozen (k * 9)
  have f1 := HD8.out.hm.frozen (k * 9 + 1)
  have f2 := HD8.out.hm.frozen (k * 9 + 2)
  have f3 := HD8.out.hm.frozen (k * 9 + 3)
  have f4 := HD8.out.hm.frozen (k * 9 + 4)
  have f5 := HD8.out.hm.frozen (k * 9 + 5)
  have f6 := HD8.out.hm.frozen (k * 9 + 6)
  have f7 := HD8.out.hm.frozen (k * 9 + 7)
  have f8 := HD8.out.hm.frozen (k * 9 + 8)
  have kf := HD8.out.hm.lt
  clear e9 d
  obtain ⟨W9, hW9⟩ : ∃ W9, (((((((((W8.setCell ⟨w.heap.size, k * 9, none⟩ (.bool y.b0)).setCell ⟨w.heap.size, k * 9 + 1, none⟩ (.int .u64 y.k0)).setCell ⟨w.heap.size, k * 9 + 2, none⟩ (.slice y.A0 y.n0 y.c0)).setCell ⟨w.heap.size, k * 9 + 3, none⟩ (.bool y.b1)).setCell ⟨w.heap.size, k * 9 + 4, none⟩ (.int .u64 y.k1)).setCell ⟨w.heap.size, k * 9 + 5, none⟩ (.slice y.A1 y.n1 y.c1)).setCell ⟨w.heap.size, k * 9 + 6, none⟩ (.bool is)).setCell ⟨w.heap.size, k * 9 + 7, none⟩ (.int .u64 cap)).setCell ⟨w.heap.size, k * 9 + 8, none⟩ (.slice A m c)) = W9 := ⟨_, rfl⟩
  obtain ⟨M9, hM9⟩ : ∃ M9, put9 M (k * 9) y' = M9 := ⟨_, rfl⟩
  have HD9 : Hid (D4 w W9 M9 #[.int .u64 k, .int .u64 a1, .int .u64 a2, .int .u64 a3] (Tryz.zeroCells45) #[.int .i64 0, .int .u64 0]) := by show D4 _ _ _ _ _ _; rw [← hW9, ← hM9, ← HNy.out]; exact HD8.out.put (k * 9) ⟨y.b0, y.k0, y.A0, y.n0, y.c0, y.b1, y.k1, y.A1, y.n1, y.c1, is, cap, A, m, c⟩
  have HR9 : Hid (R3o L B W5.heap.size W9 y' { x with t := o' }) := by show R3o _ _ _ _ _ _; rw [← hW9]; exact HR8.out.put (o := k * 9) hB (show w.heap.size < W5.heap.size by have := HK5.out; omega) ⟨y.b0, y.k0, y.A0, y.n0, y.c0, y.b1, y.k1, y.A1, y.n1, y.c1, is, cap, A, m, c⟩
  have H109 : Hid (Bk W9 W4.heap.size 47 #[.int .i64 cc, .int .u64 uu]) := by show Bk _ _ _ _; rw [← hW9]; exact bk_set9 (o := k * 9) H108.out (show w.heap.size ≠ W4.heap.size by have := HG8.out; omega) ⟨y.b0, y.k0, y.A0, y.n0, y.c0, y.b1, y.k1, y.A1, y.n1, y.c1, is, cap, A, m, c⟩
  have HI9 : Hid ((Tryz.prog.info? 45).map (·.size) = some M9.size) := by show _ = _; rw [← hM9, put9_size]; exact HI144.out
  have HS9 : Hid (M9.size = 144) := by show _ = _; rw [← hM9, put9_size]; exact HSz.out
  have HOne : Hid (M9.all (·.oneCell') = true) := by show _ = _; rw [← hM9]; exact all_one (put9_one HSz.out hk HX.out.one y')
  have HM9 := Lib.hid hM9
  have HW9 := Lib.hid hW9
  clear hW9 hM9
  go_upto_region 18 with fail
  rw [HW9.out]
  clear HW9 q0 kf e0 d0 f0 e1 d1 f1 e2 d2 f2 e3 d3 f3 e4 d4 f4 e5 d5 f5 e6 d6 f6 e7 d7 f7 e8 d8 f8
  obtain ⟨V, hV⟩ : ∃ V, W9.drew = V := ⟨_, rfl⟩
  refine wp_region_held_drew (S := (fun w' => w'.rangeAt w.heap.size 0 M9.toList ∧ w'.rangeAt W4.heap.size 0 (#[.int .i64 cc, .int .u64 uu] : Array Value).toList)) (by kernel_rfl) ?_ (fun hHeld => ?_)
  ·exact ⟨HD9.out.hm.rng, H109.out.rng⟩
  refine loadA 0 M9 Tryz.underlying45 rfl HI9.out ?_ ?_
  ·(intro w hSw; exact hSw.1)
  try simp only [Act.put, pS]
  refine loadA 1 #[.int .i64 cc, .int .u64 uu] Tryz.underlying47 rfl (by kernel_rfl) ?_ ?_
  ·(intro w hSw; exact hSw.2)
  try simp only [Act.put, pS]
  have HD9 : Hid (D4 w V M9 #[.int .u64 k, .int .u64 a1, .int .u64 a2, .int .u64 a3] (Tryz.zeroCells45) #[.int .i64 0, .int .u64 0]) := by show D4 _ _ _ _ _ _; rw [← hV]; exact HD9.out.drew
  have HR9 : Hid (R3o L B W5.heap.size V y' { x with t := o' }) := by show R3o _ _ _ _ _ _; rw [← hV]; exact HR9.out.drew
  have H109 : Hid (Bk V W4.heap.size 47 #[.int .i64 cc, .int .u64 uu]) := by show Bk _ _ _ _; rw [← hV]; exact H109.out
  rw [hV] at hHeld ⊢
  clear hV
  refine comeA 2 fun K hK => ?_
  refine wp_store_row 45 (.tmp 6) (.tmp 93) rfl (w.heap.size + 1 + 1) M9 (by rfl) (by rfl) 45 (Tryz.zeroCells45) HD9.out.hz HI9.out (by rw [HS9.out]; exact z144_size) HOne.out ?_
  obtain ⟨W10, hW10⟩ : ∃ W, V.setRow (w.heap.size + 1 + 1) M9 = W := ⟨_, rfl⟩
  have HD9 : Hid (D4 w W10 M9 #[.int .u64 k, .int .u64 a1, .int .u64 a2, .int .u64 a3] M9 #[.int .i64 0, .int .u64 0]) := by show D4 _ _ _ _ _ _; rw [← hW10]; exact HD9.out.row
  have HR9 : Hid (R3o L B W5.heap.size W10 y' { x with t := o' }) := by show R3o _ _ _ _ _ _; rw [← hW10]; exact HR9.out.row (show B ≤ (w.heap.size + 1 + 1) by omega) (show (w.heap.size + 1 + 1) < W5.heap.size by have := HK5.out; omega) M9
  have H109 : Hid (Bk W10 W4.heap.size 47 #[.int .i64 cc, .int .u64 uu]) := by show Bk _ _ _ _; rw [← hW10]; exact (setRow_other _ _ _ _ (show W4.heap.size ≠ (w.heap.size + 1 + 1) by have := HG8.out; have := HG10.out; omega)).trans H109.out
  rw [hW10]
  clear hW10
  refine hK.out _ _ ?_ (fun hHeld => ?_)
  ·exact ⟨HD9.out.hm.rng, H109.out.rng⟩
  clear hK K
  try simp only [Act.put, pS]
  refine comeA 3 fun K hK => ?_
  have e0 := HD9.out.h7.cell 0; have e1 := HD9.out.h7.cell 1; have f0 := HD9.out.h7.frozen 0; have f1 := HD9.out.h7.frozen 1; have kf := HD9.out.h7.lt
  simp at e0 e1
  go_simp
  clear e0 e1 f0 f1 kf
  obtain ⟨W11, hW11⟩ : ∃ W, (W10.setCell ⟨(w.heap.size + 1 + 1 + 1), 0, none⟩ (.int .i64 cc)).setCell ⟨(w.heap.size + 1 + 1 + 1), 1, none⟩ (.int .u64 uu) = W := ⟨_, rfl⟩
  have HD9 : Hid (D4 w W11 M9 #[.int .u64 k, .int .u64 a1, .int .u64 a2, .int .u64 a3] M9 #[.int .i64 cc, .int .u64 uu]) := by show D4 _ _ _ _ _ _; rw [← hW11]; exact HD9.out.res _ _
  have HR9 : Hid (R3o L B W5.heap.size W11 y' { x with t := o' }) := by show R3o _ _ _ _ _ _; rw [← hW11]; exact (HR9.out.set_ (p := ⟨(w.heap.size + 1 + 1 + 1), 0, none⟩) (show B ≤ (w.heap.size + 1 + 1 + 1) by omega) (show (w.heap.size + 1 + 1 + 1) < W5.heap.size by have := HK5.out; omega) _).set_ (p := ⟨(w.heap.size + 1 + 1 + 1), 1, none⟩) (show B ≤ (w.heap.size + 1 + 1 + 1) by omega) (show (w.heap.size + 1 + 1 + 1) < W5.heap.size by have := HK5.out; omega) _
  have H109 : Hid (Bk W11 W4.heap.size 47 #[.int .i64 cc, .int .u64 uu]) := by show Bk _ _ _ _; rw [← hW11]; exact bk_set_ne (bk_set_ne H109.out (show (w.heap.size + 1 + 1 + 1) ≠ W4.heap.size by have := HG8.out; have := HG10.out; omega)) (show (w.heap.size + 1 + 1 + 1) ≠ W4.heap.size by have := HG8.out; have := HG10.out; omega)
  rw [hW11]
  clear hW11
  refine hK.out _ _ ?_ (fun hHeld => ?_)
  ·exact ⟨HD9.out.hm.rng, H109.out.rng⟩
  clear hK K
  try simp only [Act.put, pS]
  refine wpAnyH_done (by kernel_rfl) ?_ _
  try simp only [Act.put, pS]
  clear hHeld
  have HRW : Hid (RWo L B w.heap.size W11 M9 (ths.set k { x with t := o' })) := by show RWo _ _ _ _ _ _; rw [← HM9.out]; exact (RWo.of _ (HX.out.below HD9.out.hb hB)).put hk (HR9.out.low (by have := HK5.out; omega))
  go_wp2_with ((with_reducible show bodyPost _ _ _ _ _ _); refine bodyPost_ret (results_cc rfl _ W11 (w.heap.size + 1 + 1) (w.heap.size + 1 + 1 + 1) 45 47 M9 #[.int .i64 cc, .int .u64 uu] _ _ (by rfl) HD9.out.hz Tryz.underlying45 rfl HI9.out (by rfl) HD9.out.h7 Tryz.underlying47 rfl (by kernel_rfl)) rfl ?_; exact ⟨_, _, rfl, HRW.out, ⟨_, _, rfl⟩, HD9.out.hb⟩)
end Go.Proofs.YtiiaingepbkikaaGreatDoor
