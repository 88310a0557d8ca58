import Derived.Test.YtiiaingepbkikaaGreatDoorWoAP
import Derived.Test.YtiiaingepbkikaaGreatDoorWoAQ
import Derived.Test.YtiiaingepbkikaaGreatDoorWoAH
namespace Go.Proofs.YtiiaingepbkikaaGreatDoor
open Go.RowKit
set_option linter.unusedVariables false
set_option linter.unusedSimpArgs false
structure OwIn (w : World) (g : Nat) (ths : List Th) : Prop where
 len : ths.length = 16
 blk : ∃ ps : Array Value, ps.size = 48 ∧ Bk w g 80 ps ∧ (∀ u, ps[0]? ≠ some (.int .u64 u)) ∧ ∀ k x, ths[k]? = some x → ∃ b0 b1 b2, ps[k * 3]? = some (.pointer b0) ∧ ps[k * 3 + 1]? = some (.pointer b1) ∧ ps[k * 3 + 2]? = some (.pointer b2) ∧ ThIn w x (.pointer b0) (.pointer b1) (.pointer b2)
theorem OwIn.lt {w : World} {g : Nat} {ths : List Th} (h : OwIn w g ths) : g < w.heap.size := by
 obtain ⟨ps, _, hb, _⟩ := h.blk
 exact hb.lt
theorem OwIn.below {w w' : World} {g : Nat} {ths : List Th} (h : OwIn w g ths) (hb : Below w.heap.size w w') : OwIn w' g ths := by
 obtain ⟨ps, hs, hk, h0, hx⟩ := h.blk
 refine ⟨h.len, ps, hs, hk.below hb hk.lt, h0, fun k x e => ?_⟩
 obtain ⟨b0, b1, b2, e0, e1, e2, ht⟩ := hx k x e
 exact ⟨b0, b1, b2, e0, e1, e2, ht.below hb⟩
theorem OwIn.put {w : World} {g k : Nat} {ths : List Th} {x : Th} {q0 q1 q2 : Option Addr} (h : OwIn w g ths) (hk : k < 16) (ht : ThIn w x (.pointer q0) (.pointer q1) (.pointer q2)) :
 OwIn (((w.setCell ⟨g, k * 3, none⟩ (.pointer q0)).setCell ⟨g, k * 3 + 1, none⟩ (.pointer q1)).setCell ⟨g, k * 3 + 2, none⟩ (.pointer q2)) g (ths.set k x) := by
 obtain ⟨ps, hs, hb, h0, hx⟩ := h.blk
 have hb1 := hb.set_ (k * 3) (.pointer q0)
 have hb2 := hb1.set_ (k * 3 + 1) (.pointer q1)
 have hb3 := hb2.set_ (k * 3 + 2) (.pointer q2)
 have h01 : ∀ u, (ps.setIfInBounds (k * 3) (.pointer q0))[0]? ≠ some (.int .u64 u) := fun u e => by
  rw [Array.getElem?_setIfInBounds] at e; split at e
  ·split at e <;> simp at e
  ·exact h0 u e
 have h02 : ∀ u, ((ps.setIfInBounds (k * 3) (.pointer q0)).setIfInBounds (k * 3 + 1) (.pointer q1))[0]? ≠ some (.int .u64 u) := fun u e => by
  rw [Array.getElem?_setIfInBounds] at e; split at e
  ·split at e <;> simp at e
  ·exact h01 u e
 have h03 : ∀ u, (((ps.setIfInBounds (k * 3) (.pointer q0)).setIfInBounds (k * 3 + 1) (.pointer q1)).setIfInBounds (k * 3 + 2) (.pointer q2))[0]? ≠ some (.int .u64 u) := fun u e => by
  rw [Array.getElem?_setIfInBounds] at e; split at e
  ·split at e <;> simp at e
  ·exact h02 u e
 have keep : ∀ y r0 r1 r2, ThIn w y r0 r1 r2 → ThIn (((w.setCell ⟨g, k * 3, none⟩ (.pointer q0)).setCell ⟨g, k * 3 + 1, none⟩ (.pointer q1)).setCell ⟨g, k * 3 + 2, none⟩ (.pointer q2)) y r0 r1 r2 := fun y r0 r1 r2 hy =>
  ((hy.set hb (by decide) (by decide) h0 _ rfl _).set hb1 (by decide) (by decide) h01 _ rfl _).set hb2 (by decide) (by decide) h02 _ rfl _
 refine ⟨by rw [List.length_set]; exact h.len, _, by simp [hs], hb3, h03, fun j y e => ?_⟩
 rw [List.getElem?_set] at e
 by_cases hj : k = j
 ·subst hj
  rw [if_pos rfl, if_pos (by rw [h.len]; exact hk)] at e
  injection e with e
  subst e
  refine ⟨q0, q1, q2, ?_, ?_, ?_, keep _ _ _ _ ht⟩
  ·rw [Array.getElem?_setIfInBounds_ne (by omega), Array.getElem?_setIfInBounds_ne (by omega), Array.getElem?_setIfInBounds_self_of_lt (by omega)]
  ·rw [Array.getElem?_setIfInBounds_ne (by omega), Array.getElem?_setIfInBounds_self_of_lt (by simp; omega)]
  ·rw [Array.getElem?_setIfInBounds_self_of_lt (by simp; omega)]
 ·rw [if_neg hj] at e
  obtain ⟨b0, b1, b2, e0, e1, e2, hy⟩ := hx j y e
  refine ⟨b0, b1, b2, ?_, ?_, ?_, keep _ _ _ _ hy⟩
  ·rw [Array.getElem?_setIfInBounds_ne (by omega), Array.getElem?_setIfInBounds_ne (by omega), Array.getElem?_setIfInBounds_ne (by omega)]; exact e0
  ·rw [Array.getElem?_setIfInBounds_ne (by omega), Array.getElem?_setIfInBounds_ne (by omega), Array.getElem?_setIfInBounds_ne (by omega)]; exact e1
  ·rw [Array.getElem?_setIfInBounds_ne (by omega), Array.getElem?_setIfInBounds_ne (by omega), Array.getElem?_setIfInBounds_ne (by omega)]; exact e2
def DoPost (w : World) (g : Nat) (ths : List Th) (e : Ending) (w' : World) : Prop := (∃ r, e = .returned r ∧ ResV r) ∧ OwIn w' g ths ∧ w.grownBy w' (some g)
theorem doPost_mk {w w' : World} {g : Nat} {ths : List Th} (c u : Int) (h : OwIn w' g ths) (hg : w.grownBy w' (some g)) : DoPost w g ths (.returned (.agg #[.int .i64 c, .int .u64 u])) w' := ⟨⟨_, rfl, _, _, rfl⟩, h, hg⟩
theorem below_grow {w w' : World} (h : Below w.heap.size w w') (r : Option Nat) : w.grownBy w' r := ⟨h.os, h.tape, h.output, h.size, fun i hi _ => h.block i hi⟩
theorem results_c1 {P : Program} {fn : Func} {p : Tmp} {ty : TypeId} (h : fn.results = #[.cell p ty]) (tmps : Array Value) (w : World) (g : Nat) (t : TypeId) (cs : Array Value) (d : TypeDesc)
 (hp : tmps.getD p undef = .pointer (some ⟨g, 0, none⟩)) (hg : Bk w g t cs) (hu : P.underlying ty = some d) (hd : (match d with | .struct _ | .array _ _ => true | _ => false) = true) (hi : (P.info? ty).map (·.size) = some cs.size) :
 (results fn tmps).run P w = .ok (.agg cs) w := by
 have hp' : tmps[p]?.getD undef = .pointer (some ⟨g, 0, none⟩) := by simpa using hp
 simp [results, h, hp', asAddr, run_loadVar_row w g t ty cs _ d hg hu hd hi]
set_option maxRecDepth 100000 in
set_option maxHeartbeats 8000000 in
theorem do_out (ths : List Th) (g : Nat) (n a0 a1 a2 a3 : Int) (w : World) (hx : OwIn w g ths) (hn : n < 0 ∨ (0 ≤ n ∧ 19 ≤ n)) :
 Calls Tryz.prog 6 #[.pointer (some ⟨g, 0, none⟩), .int .i64 n, .agg #[.int .u64 a0, .int .u64 a1, .int .u64 a2, .int .u64 a3]] w (DoPost w g ths) := by
 have HX := Lib.hid hx
 obtain ⟨W1, hW1⟩ : ∃ W1, (w.alloc (.cells #[.int .u64 a0, .int .u64 a1, .int .u64 a2, .int .u64 a3] 49)).alloc (.cells #[.int .i64 0, .int .u64 0] 47) = W1 := ⟨_, rfl⟩
 have htb := two_blocks w #[.int .u64 a0, .int .u64 a1, .int .u64 a2, .int .u64 a3] #[.int .i64 0, .int .u64 0] 49 47
 rw [hW1] at htb
 have HA := Lib.hid htb.1
 have HK := Lib.hid htb.2.1
 have HB := Lib.hid htb.2.2.1
 have HW1 := Lib.hid hW1
 clear htb hW1 hx
 go_enter Tryz.func6, Tryz.ntmps6
 go_upto_region 1 with fail
 rw [HW1.out]
 clear HW1
 go_wp2_with fail
 refine (names_any W1).mono ?_
 rintro e w1 ⟨v, rfl, hown, hb1⟩
 have HO := Lib.hid hown
 have HA := Lib.hid (HA.out.below hb1 HA.out.lt)
 have HK := Lib.hid (HK.out.below hb1 HK.out.lt)
 have HB := Lib.hid (HB.out.trans (hb1.mono HB.out.size))
 clear hown hb1
 obtain ⟨Av, cv, rfl, hsv, hrd⟩ := own_slv HO.out
 have HRd := Lib.hid hrd
 clear hsv hrd
 have e0 := (HK.out.cell 0).trans rfl
 have e1 := (HK.out.cell 1).trans rfl
 have f0 := HK.out.frozen 0
 have f1 := HK.out.frozen 1
 have kf := HK.out.lt
 have aa0 := (HA.out.cell 0).trans rfl
 have aa1 := (HA.out.cell 1).trans rfl
 have aa2 := (HA.out.cell 2).trans rfl
 have ka := HA.out.lt
 have HK2 : Hid (Bk ((w1.setCell ⟨w.heap.size + 1, 0, none⟩ (.int .i64 4)).setCell ⟨w.heap.size + 1, 1, none⟩ (.int .u64 0)) (w.heap.size + 1) 47 #[.int .i64 4, .int .u64 0]) := by show Bk _ _ _ _; exact (HK.out.set_ 0 _).set_ 1 _
 have HB2 : Hid (Below w.heap.size w ((w1.setCell ⟨w.heap.size + 1, 0, none⟩ (.int .i64 4)).setCell ⟨w.heap.size + 1, 1, none⟩ (.int .u64 0))) := (HB.out.setCell (p := ⟨w.heap.size + 1, 0, none⟩) (Nat.le_succ _) _).setCell (p := ⟨w.heap.size + 1, 1, none⟩) (Nat.le_succ _) _
 have HX2 := Lib.hid (HX.out.below HB2.out)
 have HG2 : Hid (w.grownBy _ (some g)) := below_grow HB2.out (some g)
 rcases hn with hn | ⟨hn0, hn⟩
 ·go_wp2_with ((with_reducible show bodyPost _ _ _ _ _ _); refine bodyPost_ret (results_c1 rfl _ _ (w.heap.size + 1) 47 #[.int .i64 4, .int .u64 0] _ (by rfl) HK2.out Tryz.underlying47 rfl (by kernel_rfl)) rfl ?_; exact doPost_mk _ _ HX2.out HG2.out)
 ·have d0 : decide (n < 0) = false := decide_eq_false (by omega)
  go_wp2_with ((with_reducible show bodyPost _ _ _ _ _ _); refine bodyPost_ret (results_c1 rfl _ _ (w.heap.size + 1) 47 #[.int .i64 4, .int .u64 0] _ (by rfl) HK2.out Tryz.underlying47 rfl (by kernel_rfl)) rfl ?_; exact doPost_mk _ _ HX2.out HG2.out)
set_option maxRecDepth 100000 in
set_option maxHeartbeats 8000000 in
theorem do_far (ths : List Th) (g : Nat) (n a0 a1 a2 a3 : Int) (w : World) (hx : OwIn w g ths) (hn0 : 0 ≤ n) (hn : n < 19) (ha : 16 ≤ a0) :
 Calls Tryz.prog 6 #[.pointer (some ⟨g, 0, none⟩), .int .i64 n, .agg #[.int .u64 a0, .int .u64 a1, .int .u64 a2, .int .u64 a3]] w (DoPost w g ths) := by
 have HX := Lib.hid hx
 obtain ⟨W1, hW1⟩ : ∃ W1, (w.alloc (.cells #[.int .u64 a0, .int .u64 a1, .int .u64 a2, .int .u64 a3] 49)).alloc (.cells #[.int .i64 0, .int .u64 0] 47) = W1 := ⟨_, rfl⟩
 have htb := two_blocks w #[.int .u64 a0, .int .u64 a1, .int .u64 a2, .int .u64 a3] #[.int .i64 0, .int .u64 0] 49 47
 rw [hW1] at htb
 have HA := Lib.hid htb.1
 have HK := Lib.hid htb.2.1
 have HB := Lib.hid htb.2.2.1
 have HW1 := Lib.hid hW1
 clear htb hW1 hx
 go_enter Tryz.func6, Tryz.ntmps6
 go_upto_region 1 with fail
 rw [HW1.out]
 clear HW1
 go_wp2_with fail
 refine (names_any W1).mono ?_
 rintro e w1 ⟨v, rfl, hown, hb1⟩
 have HO := Lib.hid hown
 have HA := Lib.hid (HA.out.below hb1 HA.out.lt)
 have HK := Lib.hid (HK.out.below hb1 HK.out.lt)
 have HB := Lib.hid (HB.out.trans (hb1.mono HB.out.size))
 clear hown hb1
 obtain ⟨Av, cv, rfl, hsv, hrd⟩ := own_slv HO.out
 have HRd := Lib.hid hrd
 clear hsv hrd
 have e0 := (HK.out.cell 0).trans rfl
 have e1 := (HK.out.cell 1).trans rfl
 have f0 := HK.out.frozen 0
 have f1 := HK.out.frozen 1
 have kf := HK.out.lt
 have aa0 := (HA.out.cell 0).trans rfl
 have aa1 := (HA.out.cell 1).trans rfl
 have aa2 := (HA.out.cell 2).trans rfl
 have ka := HA.out.lt
 have HK2 : Hid (Bk ((w1.setCell ⟨w.heap.size + 1, 0, none⟩ (.int .i64 44)).setCell ⟨w.heap.size + 1, 1, none⟩ (.int .u64 0)) (w.heap.size + 1) 47 #[.int .i64 44, .int .u64 0]) := by show Bk _ _ _ _; exact (HK.out.set_ 0 _).set_ 1 _
 have HB2 : Hid (Below w.heap.size w ((w1.setCell ⟨w.heap.size + 1, 0, none⟩ (.int .i64 44)).setCell ⟨w.heap.size + 1, 1, none⟩ (.int .u64 0))) := (HB.out.setCell (p := ⟨w.heap.size + 1, 0, none⟩) (Nat.le_succ _) _).setCell (p := ⟨w.heap.size + 1, 1, none⟩) (Nat.le_succ _) _
 have HX2 := Lib.hid (HX.out.below HB2.out)
 have HG2 : Hid (w.grownBy _ (some g)) := below_grow HB2.out (some g)
 have d0 : decide (n < 0) = false := decide_eq_false (by omega)
 have d1 : decide (n ≥ 19) = false := decide_eq_false (by omega)
 go_wp2_with ((with_reducible show bodyPost _ _ _ _ _ _); refine bodyPost_ret (results_c1 rfl _ _ (w.heap.size + 1) 47 #[.int .i64 44, .int .u64 0] _ (by rfl) HK2.out Tryz.underlying47 rfl (by kernel_rfl)) rfl ?_; exact doPost_mk _ _ HX2.out HG2.out)
theorem thing_at {w : World} {g k : Nat} {ths : List Th} {x : Th} (h : OwIn w g ths) (hx : ths[k]? = some x) : ∃ b0 b1 b2, w.rangeAt g (k * 3) [.pointer b0, .pointer b1, .pointer b2] ∧ ThIn w x (.pointer b0) (.pointer b1) (.pointer b2) := by
 obtain ⟨ps, hs, hb, h0, hh⟩ := h.blk
 obtain ⟨b0, b1, b2, e0, e1, e2, ht⟩ := hh k x hx
 have hk : k < 16 := by
  have := (List.getElem?_eq_some_iff.mp hx).1
  rw [h.len] at this; exact this
 refine ⟨b0, b1, b2, ?_, ht⟩
 intro i v hi
 match i, hi with
 | 0, hi => injection hi with hi; subst hi; exact (hb.cell (k * 3)).trans e0
 | 1, hi => injection hi with hi; subst hi; exact (hb.cell (k * 3 + 1)).trans e1
 | 2, hi => injection hi with hi; subst hi; exact (hb.cell (k * 3 + 2)).trans e2
theorem range_below {w w' : World} {g o : Nat} {cs : List Value} (h : w.rangeAt g o cs) (hb : Below w.heap.size w w') (hg : g < w.heap.size) : w'.rangeAt g o cs := fun j v hv => (hb.cell (p := ⟨g, o + j, none⟩) hg).trans (h j v hv)
theorem range_set {w : World} {g o : Nat} {cs : List Value} (h : w.rangeAt g o cs) {p : Addr} (hp : p.block ≠ g) (u : Value) : (w.setCell p u).rangeAt g o cs := fun j v hv => (World.cell?_of_block (a := ⟨g, o + j, none⟩) (Below.heap_setCell w p u g (fun e => hp e.symm))).trans (h j v hv)
theorem OwIn.other {w : World} {g k : Nat} {ths : List Th} {t : TypeId} {cs : Array Value} (h : OwIn w g ths) (hk : Bk w k t cs) (h1 : t ≠ 32) (h2 : t ≠ 112) (h0 : ∀ u, cs[0]? ≠ some (.int .u64 u)) (p : Addr) (hp : p.block = k) (hne : k ≠ g) (u : Value) : OwIn (w.setCell p u) g ths := by
 obtain ⟨ps, hs, hb, hz, hx⟩ := h.blk
 refine ⟨h.len, ps, hs, bk_set_ne hb (by rw [hp]; exact hne), hz, fun k x e => ?_⟩
 obtain ⟨b0, b1, b2, e0, e1, e2, ht⟩ := hx k x e
 exact ⟨b0, b1, b2, e0, e1, e2, ht.set hk h1 h2 h0 p hp u⟩
theorem own_cells {w : World} {g k : Nat} {ths : List Th} (h : OwIn w g ths) (hk : k < 16) : (∃ a, w.cell? ⟨g, k * 3, none⟩ = some a) ∧ (∃ a, w.cell? ⟨g, k * 3 + 1, none⟩ = some a) ∧ (∃ a, w.cell? ⟨g, k * 3 + 2, none⟩ = some a) ∧ w.frozen? ⟨g, k * 3, none⟩ = false ∧ w.frozen? ⟨g, k * 3 + 1, none⟩ = false ∧ w.frozen? ⟨g, k * 3 + 2, none⟩ = false := by
 obtain ⟨ps, hs, hb, _, _⟩ := h.blk
 refine ⟨⟨ps[k * 3]'(by omega), ?_⟩, ⟨ps[k * 3 + 1]'(by omega), ?_⟩, ⟨ps[k * 3 + 2]'(by omega), ?_⟩, hb.frozen _, hb.frozen _, hb.frozen _⟩
 ·exact (hb.cell _).trans (Array.getElem?_eq_getElem _)
 ·exact (hb.cell _).trans (Array.getElem?_eq_getElem _)
 ·exact (hb.cell _).trans (Array.getElem?_eq_getElem _)
theorem grow_set {w w' : World} {g : Nat} (h : w.grownBy w' (some g)) {p : Addr} (hp : p.block = g) (u : Value) : w.grownBy (w'.setCell p u) (some g) := by
 obtain ⟨h1, h2, h3, h4, h5⟩ := h
 refine ⟨h1, h2, h3, by simpa [World.setCell] using h4, fun i hi hne => ?_⟩
 rw [Below.heap_setCell w' p u i (fun e => hne (by rw [e, hp]))]
 exact h5 i hi hne
theorem grow_new {w w' : World} {g : Nat} (h : w.grownBy w' (some g)) {p : Addr} (hp : w.heap.size ≤ p.block) (u : Value) : w.grownBy (w'.setCell p u) (some g) := by
 obtain ⟨h1, h2, h3, h4, h5⟩ := h
 refine ⟨h1, h2, h3, by simpa [World.setCell] using h4, fun i hi hne => ?_⟩
 rw [Below.heap_setCell w' p u i (by omega)]
 exact h5 i hi hne
set_option maxRecDepth 100000 in
set_option maxHeartbeats 8000000 in
theorem do_core (ths : List Th) (g n k : Nat) (a1 a2 a3 : Int) (nm : Bys) (kind what : ByteArray) (x x' : Th) (w : World) (hx : OwIn w g ths) (hnl : n < 19) (hk : k < 16) (hxk : ths[k]? = some x) (hnm : objNames[n]? = some nm)
 (hcut : ∀ W : World, Calls Tryz.prog 19 #[.string (str nm), .string ⟨#[46]⟩] W (CutPost kind what W))
 (hdo : ∀ (p0 p1 p2 : Option Addr) (W : World), ThIn W x (.pointer p0) (.pointer p1) (.pointer p2) → Calls Tryz.prog 20 #[.agg #[.pointer p0, .pointer p1, .pointer p2], .string kind, .string what, .int .u64 a1, .int .u64 a2] W (DoesTh W x')) :
 Calls Tryz.prog 6 #[.pointer (some ⟨g, 0, none⟩), .int .i64 (n : Int), .agg #[.int .u64 (k : Int), .int .u64 a1, .int .u64 a2, .int .u64 a3]] w (DoPost w g (ths.set k x')) := by
 have HDO := Lib.hid hdo
 clear hdo
 have HX := Lib.hid hx
 obtain ⟨W1, hW1⟩ : ∃ W1, (w.alloc (.cells #[.int .u64 (k : Int), .int .u64 a1, .int .u64 a2, .int .u64 a3] 49)).alloc (.cells #[.int .i64 0, .int .u64 0] 47) = W1 := ⟨_, rfl⟩
 have htb := two_blocks w #[.int .u64 (k : Int), .int .u64 a1, .int .u64 a2, .int .u64 a3] #[.int .i64 0, .int .u64 0] 49 47
 rw [hW1] at htb
 have HA := Lib.hid htb.1
 have HK := Lib.hid htb.2.1
 have HB := Lib.hid htb.2.2.1
 have HW1 := Lib.hid hW1
 clear htb hW1 hx
 go_enter Tryz.func6, Tryz.ntmps6
 go_upto_region 1 with fail
 rw [HW1.out]
 clear HW1
 go_wp2_with fail
 refine (names_any W1).mono ?_
 rintro e w1 ⟨v, rfl, hown, hb1⟩
 have HO := Lib.hid hown
 have HA := Lib.hid (HA.out.below hb1 HA.out.lt)
 have HK := Lib.hid (HK.out.below hb1 HK.out.lt)
 have HB := Lib.hid (HB.out.trans (hb1.mono HB.out.size))
 clear hown hb1
 obtain ⟨Av, cv, rfl, hsv, hrd⟩ := own_slv HO.out
 have HRd := Lib.hid hrd
 clear hsv hrd
 have e0 := (HK.out.cell 0).trans rfl
 have e1 := (HK.out.cell 1).trans rfl
 have f0 := HK.out.frozen 0
 have f1 := HK.out.frozen 1
 have kf := HK.out.lt
 have aa0 := (HA.out.cell 0).trans rfl
 have aa1 := (HA.out.cell 1).trans rfl
 have aa2 := (HA.out.cell 2).trans rfl
 have ka := HA.out.lt
 have HGl := Lib.hid HX.out.lt
 have d0 : decide ((n : Int) < 0) = false := decide_eq_false (by omega)
 have d1 : decide ((n : Int) ≥ 19) = false := decide_eq_false (by omega)
 have d2 : decide ((k : Int) ≥ 16) = false := decide_eq_false (by omega)
 have k16 : (k : Int) < 16 := by omega
 obtain ⟨bn, on, rfl, hbn, hcn⟩ := HRd.out.at_ (by decide)
 have hnv : w1.cell? ⟨bn, on + n, none⟩ = some (.string (str nm)) := hcn n _ (by rw [List.getElem?_map, hnm]; rfl)
 have HX := Lib.hid (HX.out.below HB.out)
 clear hcn
 go_upto_region 6 with fail
 go_wp2_with fail
 refine (hcut _).mono ?_
 rintro e w2 ⟨rfl, hb2⟩
 have HA := Lib.hid (HA.out.below hb2 HA.out.lt)
 have HK := Lib.hid (HK.out.below hb2 HK.out.lt)
 have HB := Lib.hid (HB.out.trans (hb2.mono HB.out.size))
 have HX := Lib.hid (HX.out.below hb2)
 obtain ⟨b0, b1, b2, hr, ht⟩ := thing_at HX.out hxk
 have HR := Lib.hid hr
 have HT0 := Lib.hid ht
 clear hr ht hb2 e0 e1 f0 f1 kf aa0 aa1 aa2 ka hnv HO HRd hcut hnm
 go_upto_region 7 with fail
 go_cut [11, 12] (fun u v wx => ∃ (g11 g12 : Nat) (q0 q1 q2 : Option Addr) (rc ru : Int), u = .pointer (some ⟨g11, 0, none⟩) ∧ v = .pointer (some ⟨g12, 0, none⟩) ∧ Hid (Bk wx g11 75 #[.pointer q0, .pointer q1, .pointer q2]) ∧ Hid (Bk wx g12 47 #[.int .i64 rc, .int .u64 ru]) ∧ Hid (ThIn wx x' (.pointer q0) (.pointer q1) (.pointer q2)) ∧ Hid (OwIn wx g ths) ∧ Hid (Bk wx w.heap.size 49 #[.int .u64 (k : Int), .int .u64 a1, .int .u64 a2, .int .u64 a3]) ∧ Hid (Bk wx (w.heap.size + 1) 47 #[.int .i64 0, .int .u64 0]) ∧ Hid (Below w.heap.size w wx) ∧ Hid (w.heap.size + 1 < g11 ∧ w.heap.size + 1 < g12))
 ·refine wp_region_held_drew (S := (fun w' => w'.cell? ⟨w.heap.size, 0, none⟩ = some (.int .u64 (k : Int)) ∧ w'.cell? ⟨w.heap.size, 1, none⟩ = some (.int .u64 a1) ∧ w'.cell? ⟨w.heap.size, 2, none⟩ = some (.int .u64 a2) ∧ w'.rangeAt g (k * 3) [.pointer b0, .pointer b1, .pointer b2])) (by kernel_rfl) ?_ (fun hHeld => ?_)
  ·exact ⟨HA.out.cell 0, HA.out.cell 1, HA.out.cell 2, HR.out⟩
  refine takeA 0 ?_
  try simp only [Act.put, pS]
  refine takeA 1 ?_
  try simp only [Act.put, pS]
  refine takeA 2 ?_
  try simp only [Act.put, pS]
  refine takeA 3 ?_
  try simp only [Act.put, pS]
  refine takeA 4 ?_
  try simp only [Act.put, pS]
  refine takeA 5 ?_
  try simp only [Act.put, pS]
  refine loadA 6 #[.pointer b0, .pointer b1, .pointer b2] Tryz.underlying75 rfl (by kernel_rfl) ?_ ?_
  ·(intro w hSw; exact hSw.2.2.2)
  try simp only [Act.put, pS]
  refine takeA 7 ?_
  try simp only [Act.put, pS]
  refine takeA 8 ?_
  try simp only [Act.put, pS]
  refine takeA 9 ?_
  try simp only [Act.put, pS]
  refine takeA 10 ?_
  try simp only [Act.put, pS]
  refine takeA 11 ?_
  try simp only [Act.put, pS]
  refine takeA 12 ?_
  try simp only [Act.put, pS]
  obtain ⟨V7, hV7⟩ : ∃ V7, w2.drew = V7 := ⟨_, rfl⟩
  have HA : Hid (Bk V7 w.heap.size 49 #[.int .u64 (k : Int), .int .u64 a1, .int .u64 a2, .int .u64 a3]) := by show Bk _ _ _ _; rw [← hV7]; exact HA.out
  have HK : Hid (Bk V7 (w.heap.size + 1) 47 #[.int .i64 0, .int .u64 0]) := by show Bk _ _ _ _; rw [← hV7]; exact HK.out
  have HB : Hid (Below w.heap.size w V7) := by show Below _ _ _; rw [← hV7]; exact HB.out.drew
  have HX : Hid (OwIn V7 g ths) := by show OwIn _ _ _; rw [← hV7]; exact HX.out.below (Below.refl _ _).drew
  have HT0 : Hid (ThIn V7 x (.pointer b0) (.pointer b1) (.pointer b2)) := by show ThIn _ _ _ _ _; rw [← hV7]; exact HT0.out.below (Below.refl _ _).drew
  have HR : Hid (V7.rangeAt g (k * 3) [.pointer b0, .pointer b1, .pointer b2]) := by show World.rangeAt _ _ _ _; rw [← hV7]; exact (World.rangeAt_drew ..).mpr HR.out
  rw [hV7] at hHeld ⊢
  clear hV7
  refine comeH3 13 17 18 rfl rfl rfl rfl rfl rfl rfl rfl rfl rfl rfl rfl (by kernel_rfl) (by rfl) (by rfl) (by rfl) (fun K hK => ?_) (fun K hK => ?_) (fun K hK => ?_)
  ·go_simp
   refine (HDO.out _ _ _ _ HT0.out).mono ?_
   rintro e v1 ⟨q0, q1, q2, r7, rfl, ht, ⟨rc, ru, rfl⟩, hb⟩
   have HA := Lib.hid (HA.out.below hb HA.out.lt)
   have HK := Lib.hid (HK.out.below hb HK.out.lt)
   have HR := Lib.hid (range_below HR.out hb HX.out.lt)
   have HX := Lib.hid (HX.out.below hb)
   have HB := Lib.hid (HB.out.trans (hb.mono HB.out.size))
   have HT := Lib.hid ht
   clear ht hb
   go_simp
   refine hK.out _ _ ?_ (fun hHeld => ?_)
   ·exact ⟨HA.out.cell 0, HA.out.cell 1, HA.out.cell 2, HR.out⟩
   clear hK K
   try simp only [Act.put, pS]
   refine takeA 14 ?_
   try simp only [Act.put, pS]
   refine takeA 15 ?_
   try simp only [Act.put, pS]
   refine takeA 16 ?_
   try simp only [Act.put, pS]
   refine comeH2 17 18 rfl rfl rfl rfl rfl rfl rfl rfl (by kernel_rfl) (by rfl) (by rfl) (fun K hK => ?_) (fun K hK => ?_)
   ·go_simp
    obtain ⟨v2, hW⟩ : ∃ W7, v1.alloc (.cells #[.pointer none, .pointer none, .pointer none] 75) = W7 := ⟨_, rfl⟩
    have H11n : Hid (Bk v2 v1.heap.size 75 #[.pointer none, .pointer none, .pointer none]) := by show Bk _ _ _ _; rw [← hW]; exact Bk.new _ _ _
    have hb : Below v1.heap.size v1 v2 := by rw [← hW]; exact (Below.refl _ _).alloc (Nat.le_refl _) _
    have HGg11 := Lib.hid (show w.heap.size + 1 < v1.heap.size from HK.out.lt)
    have HA := Lib.hid (HA.out.below hb HA.out.lt)
    have HK := Lib.hid (HK.out.below hb HK.out.lt)
    have HR := Lib.hid (range_below HR.out hb HX.out.lt)
    have HX := Lib.hid (HX.out.below hb)
    have HT := Lib.hid (HT.out.below hb)
    have HB := Lib.hid (HB.out.trans (hb.mono HB.out.size))
    rw [hW]
    obtain ⟨g11, hgd⟩ : ∃ gd, v1.heap.size = gd := ⟨_, rfl⟩
    rw [hgd] at H11n HGg11 ⊢
    have H11 := H11n
    clear hW hb hgd H11n
    refine hK.out _ _ ?_ (fun hHeld => ?_)
    ·exact ⟨HA.out.cell 0, HA.out.cell 1, HA.out.cell 2, HR.out⟩
    clear hK K
    try simp only [Act.put, pS]
    refine comeA 18 fun K hK => ?_
    go_simp
    obtain ⟨v3, hW⟩ : ∃ W7, v2.alloc (.cells #[.int .i64 0, .int .u64 0] 47) = W7 := ⟨_, rfl⟩
    have H12n : Hid (Bk v3 v2.heap.size 47 #[.int .i64 0, .int .u64 0]) := by show Bk _ _ _ _; rw [← hW]; exact Bk.new _ _ _
    have hb : Below v2.heap.size v2 v3 := by rw [← hW]; exact (Below.refl _ _).alloc (Nat.le_refl _) _
    have HGg12 := Lib.hid (show w.heap.size + 1 < v2.heap.size ∧ g11 < v2.heap.size from ⟨HK.out.lt, H11.out.lt⟩)
    have HA := Lib.hid (HA.out.below hb HA.out.lt)
    have HK := Lib.hid (HK.out.below hb HK.out.lt)
    have H11 := Lib.hid (H11.out.below hb H11.out.lt)
    have HR := Lib.hid (range_below HR.out hb HX.out.lt)
    have HX := Lib.hid (HX.out.below hb)
    have HT := Lib.hid (HT.out.below hb)
    have HB := Lib.hid (HB.out.trans (hb.mono HB.out.size))
    rw [hW]
    obtain ⟨g12, hgd⟩ : ∃ gd, v2.heap.size = gd := ⟨_, rfl⟩
    rw [hgd] at H12n HGg12 ⊢
    have H12 := H12n
    clear hW hb hgd H12n
    refine hK.out _ _ ?_ (fun hHeld => ?_)
    ·exact ⟨HA.out.cell 0, HA.out.cell 1, HA.out.cell 2, HR.out⟩
    clear hK K
    try simp only [Act.put, pS]
    refine comeA 19 fun K hK => ?_
    have e0 := (H11.out.cell 0).trans rfl
    have e1 := (H11.out.cell 1).trans rfl
    have e2 := (H11.out.cell 2).trans rfl
    have f0 := H11.out.frozen 0
    have f1 := H11.out.frozen 1
    have f2 := H11.out.frozen 2
    have kf := H11.out.lt
    go_simp
    clear e0 f0 e1 f1 e2 f2 kf
    obtain ⟨x5, hX⟩ : ∃ X, (((v3.setCell ⟨g11, 0, none⟩ (.pointer q0)).setCell ⟨g11, 1, none⟩ (.pointer q1)).setCell ⟨g11, 2, none⟩ (.pointer q2)) = X := ⟨_, rfl⟩
    have H11n : Hid (Bk x5 g11 75 #[.pointer q0, .pointer q1, .pointer q2]) := by show Bk _ _ _ _; rw [← hX]; exact (((H11.out.set_ 0 _).set_ 1 _).set_ 2 _)
    have HAn : Hid (Bk x5 w.heap.size 49 #[.int .u64 (k : Int), .int .u64 a1, .int .u64 a2, .int .u64 a3]) := by have q1 := HGg11.out; have q2 := HGg12.out; have q3 := HGl.out; show Bk _ _ _ _; rw [← hX]; exact bk_set_ne (bk_set_ne (bk_set_ne (HA.out) (p := ⟨g11, 0, none⟩) (show g11 ≠ w.heap.size by omega)) (p := ⟨g11, 1, none⟩) (show g11 ≠ w.heap.size by omega)) (p := ⟨g11, 2, none⟩) (show g11 ≠ w.heap.size by omega)
    have HKn : Hid (Bk x5 (w.heap.size + 1) 47 #[.int .i64 0, .int .u64 0]) := by have q1 := HGg11.out; have q2 := HGg12.out; have q3 := HGl.out; show Bk _ _ _ _; rw [← hX]; exact bk_set_ne (bk_set_ne (bk_set_ne (HK.out) (p := ⟨g11, 0, none⟩) (show g11 ≠ (w.heap.size + 1) by omega)) (p := ⟨g11, 1, none⟩) (show g11 ≠ (w.heap.size + 1) by omega)) (p := ⟨g11, 2, none⟩) (show g11 ≠ (w.heap.size + 1) by omega)
    have H12n : Hid (Bk x5 g12 47 #[.int .i64 0, .int .u64 0]) := by have q1 := HGg11.out; have q2 := HGg12.out; have q3 := HGl.out; show Bk _ _ _ _; rw [← hX]; exact bk_set_ne (bk_set_ne (bk_set_ne (H12.out) (p := ⟨g11, 0, none⟩) (show g11 ≠ g12 by omega)) (p := ⟨g11, 1, none⟩) (show g11 ≠ g12 by omega)) (p := ⟨g11, 2, none⟩) (show g11 ≠ g12 by omega)
    have HTn : Hid (ThIn x5 x' (.pointer q0) (.pointer q1) (.pointer q2)) := by show ThIn _ _ _ _ _; rw [← hX]; exact (((HT.out.set H11.out (by decide) (by decide) (by simp) ⟨g11, 0, none⟩ rfl _).set (H11.out.set_ 0 _) (by decide) (by decide) (by simp) ⟨g11, 1, none⟩ rfl _).set ((H11.out.set_ 0 _).set_ 1 _) (by decide) (by decide) (by simp) ⟨g11, 2, none⟩ rfl _)
    have HXn : Hid (OwIn x5 g ths) := by have q1 := HGg11.out; have q2 := HGg12.out; have q3 := HGl.out; show OwIn _ _ _; rw [← hX]; exact (((HX.out.other H11.out (by decide) (by decide) (by simp) ⟨g11, 0, none⟩ rfl (by omega) _).other (H11.out.set_ 0 _) (by decide) (by decide) (by simp) ⟨g11, 1, none⟩ rfl (by omega) _).other ((H11.out.set_ 0 _).set_ 1 _) (by decide) (by decide) (by simp) ⟨g11, 2, none⟩ rfl (by omega) _)
    have HRn : Hid (x5.rangeAt g (k * 3) [.pointer b0, .pointer b1, .pointer b2]) := by have q1 := HGg11.out; have q2 := HGg12.out; have q3 := HGl.out; show World.rangeAt _ _ _ _; rw [← hX]; exact (range_set (range_set (range_set HR.out (p := ⟨g11, 0, none⟩) (show g11 ≠ g by omega) _) (p := ⟨g11, 1, none⟩) (show g11 ≠ g by omega) _) (p := ⟨g11, 2, none⟩) (show g11 ≠ g by omega) _)
    have HBn : Hid (Below w.heap.size w x5) := by have q1 := HGg11.out; have q2 := HGg12.out; have q3 := HGl.out; show Below _ _ _; rw [← hX]; exact (((HB.out.setCell (p := ⟨g11, 0, none⟩) (show w.heap.size ≤ g11 by omega) _).setCell (p := ⟨g11, 1, none⟩) (show w.heap.size ≤ g11 by omega) _).setCell (p := ⟨g11, 2, none⟩) (show w.heap.size ≤ g11 by omega) _)
    rw [hX]
    have H11 := H11n
    clear H11n
    have HA := HAn
    clear HAn
    have HK := HKn
    clear HKn
    have H12 := H12n
    clear H12n
    have HT := HTn
    clear HTn
    have HX := HXn
    clear HXn
    have HR := HRn
    clear HRn
    have HB := HBn
    clear HBn
    clear hX
    refine hK.out _ _ ?_ (fun hHeld => ?_)
    ·exact ⟨HA.out.cell 0, HA.out.cell 1, HA.out.cell 2, HR.out⟩
    clear hK K
    try simp only [Act.put, pS]
    refine comeA 20 fun K hK => ?_
    have e0 := (H12.out.cell 0).trans rfl
    have e1 := (H12.out.cell 1).trans rfl
    have f0 := H12.out.frozen 0
    have f1 := H12.out.frozen 1
    have kf := H12.out.lt
    go_simp
    clear e0 f0 e1 f1 kf
    obtain ⟨y5, hX⟩ : ∃ X, ((x5.setCell ⟨g12, 0, none⟩ (.int .i64 rc)).setCell ⟨g12, 1, none⟩ (.int .u64 ru)) = X := ⟨_, rfl⟩
    have H12n : Hid (Bk y5 g12 47 #[.int .i64 rc, .int .u64 ru]) := by show Bk _ _ _ _; rw [← hX]; exact ((H12.out.set_ 0 _).set_ 1 _)
    have HAn : Hid (Bk y5 w.heap.size 49 #[.int .u64 (k : Int), .int .u64 a1, .int .u64 a2, .int .u64 a3]) := by have q1 := HGg11.out; have q2 := HGg12.out; have q3 := HGl.out; show Bk _ _ _ _; rw [← hX]; exact bk_set_ne (bk_set_ne (HA.out) (p := ⟨g12, 0, none⟩) (show g12 ≠ w.heap.size by omega)) (p := ⟨g12, 1, none⟩) (show g12 ≠ w.heap.size by omega)
    have HKn : Hid (Bk y5 (w.heap.size + 1) 47 #[.int .i64 0, .int .u64 0]) := by have q1 := HGg11.out; have q2 := HGg12.out; have q3 := HGl.out; show Bk _ _ _ _; rw [← hX]; exact bk_set_ne (bk_set_ne (HK.out) (p := ⟨g12, 0, none⟩) (show g12 ≠ (w.heap.size + 1) by omega)) (p := ⟨g12, 1, none⟩) (show g12 ≠ (w.heap.size + 1) by omega)
    have H11n : Hid (Bk y5 g11 75 #[.pointer q0, .pointer q1, .pointer q2]) := by have q1 := HGg11.out; have q2 := HGg12.out; have q3 := HGl.out; show Bk _ _ _ _; rw [← hX]; exact bk_set_ne (bk_set_ne (H11.out) (p := ⟨g12, 0, none⟩) (show g12 ≠ g11 by omega)) (p := ⟨g12, 1, none⟩) (show g12 ≠ g11 by omega)
    have HTn : Hid (ThIn y5 x' (.pointer q0) (.pointer q1) (.pointer q2)) := by show ThIn _ _ _ _ _; rw [← hX]; exact ((HT.out.set H12.out (by decide) (by decide) (by simp) ⟨g12, 0, none⟩ rfl _).set (H12.out.set_ 0 _) (by decide) (by decide) (by simp) ⟨g12, 1, none⟩ rfl _)
    have HXn : Hid (OwIn y5 g ths) := by have q1 := HGg11.out; have q2 := HGg12.out; have q3 := HGl.out; show OwIn _ _ _; rw [← hX]; exact ((HX.out.other H12.out (by decide) (by decide) (by simp) ⟨g12, 0, none⟩ rfl (by omega) _).other (H12.out.set_ 0 _) (by decide) (by decide) (by simp) ⟨g12, 1, none⟩ rfl (by omega) _)
    have HRn : Hid (y5.rangeAt g (k * 3) [.pointer b0, .pointer b1, .pointer b2]) := by have q1 := HGg11.out; have q2 := HGg12.out; have q3 := HGl.out; show World.rangeAt _ _ _ _; rw [← hX]; exact (range_set (range_set HR.out (p := ⟨g12, 0, none⟩) (show g12 ≠ g by omega) _) (p := ⟨g12, 1, none⟩) (show g12 ≠ g by omega) _)
    have HBn : Hid (Below w.heap.size w y5) := by have q1 := HGg11.out; have q2 := HGg12.out; have q3 := HGl.out; show Below _ _ _; rw [← hX]; exact ((HB.out.setCell (p := ⟨g12, 0, none⟩) (show w.heap.size ≤ g12 by omega) _).setCell (p := ⟨g12, 1, none⟩) (show w.heap.size ≤ g12 by omega) _)
    rw [hX]
    have H12 := H12n
    clear H12n
    have HA := HAn
    clear HAn
    have HK := HKn
    clear HKn
    have H11 := H11n
    clear H11n
    have HT := HTn
    clear HTn
    have HX := HXn
    clear HXn
    have HR := HRn
    clear HRn
    have HB := HBn
    clear HBn
    clear hX
    refine hK.out _ _ ?_ (fun hHeld => ?_)
    ·exact ⟨HA.out.cell 0, HA.out.cell 1, HA.out.cell 2, HR.out⟩
    clear hK K
    try simp only [Act.put, pS]
    refine wpAnyH_done (by kernel_rfl) ?_ _
    try simp only [Act.put, pS]
    go_wp2_with fail
    go_meet
    exact ⟨g11, g12, q0, q1, q2, rc, ru, rfl, rfl, H11.out, H12.out, HT.out, HX.out, HA.out, HK.out, HB.out, by have q1 := HGg11.out; have q2 := HGg12.out; have q3 := HGl.out; exact (show _ ∧ _ from by constructor <;> omega)⟩
   ·go_simp
    obtain ⟨v6, hW⟩ : ∃ W7, v1.alloc (.cells #[.int .i64 0, .int .u64 0] 47) = W7 := ⟨_, rfl⟩
    have H12n : Hid (Bk v6 v1.heap.size 47 #[.int .i64 0, .int .u64 0]) := by show Bk _ _ _ _; rw [← hW]; exact Bk.new _ _ _
    have hb : Below v1.heap.size v1 v6 := by rw [← hW]; exact (Below.refl _ _).alloc (Nat.le_refl _) _
    have HGg12 := Lib.hid (show w.heap.size + 1 < v1.heap.size from HK.out.lt)
    have HA := Lib.hid (HA.out.below hb HA.out.lt)
    have HK := Lib.hid (HK.out.below hb HK.out.lt)
    have HR := Lib.hid (range_below HR.out hb HX.out.lt)
    have HX := Lib.hid (HX.out.below hb)
    have HT := Lib.hid (HT.out.below hb)
    have HB := Lib.hid (HB.out.trans (hb.mono HB.out.size))
    rw [hW]
    obtain ⟨g12, hgd⟩ : ∃ gd, v1.heap.size = gd := ⟨_, rfl⟩
    rw [hgd] at H12n HGg12 ⊢
    have H12 := H12n
    clear hW hb hgd H12n
    refine hK.out _ _ ?_ (fun hHeld => ?_)
    ·exact ⟨HA.out.cell 0, HA.out.cell 1, HA.out.cell 2, HR.out⟩
    clear hK K
    try simp only [Act.put, pS]
    refine comeA 17 fun K hK => ?_
    go_simp
    obtain ⟨v7, hW⟩ : ∃ W7, v6.alloc (.cells #[.pointer none, .pointer none, .pointer none] 75) = W7 := ⟨_, rfl⟩
    have H11n : Hid (Bk v7 v6.heap.size 75 #[.pointer none, .pointer none, .pointer none]) := by show Bk _ _ _ _; rw [← hW]; exact Bk.new _ _ _
    have hb : Below v6.heap.size v6 v7 := by rw [← hW]; exact (Below.refl _ _).alloc (Nat.le_refl _) _
    have HGg11 := Lib.hid (show w.heap.size + 1 < v6.heap.size ∧ g12 < v6.heap.size from ⟨HK.out.lt, H12.out.lt⟩)
    have HA := Lib.hid (HA.out.below hb HA.out.lt)
    have HK := Lib.hid (HK.out.below hb HK.out.lt)
    have H12 := Lib.hid (H12.out.below hb H12.out.lt)
    have HR := Lib.hid (range_below HR.out hb HX.out.lt)
    have HX := Lib.hid (HX.out.below hb)
    have HT := Lib.hid (HT.out.below hb)
    have HB := Lib.hid (HB.out.trans (hb.mono HB.out.size))
    rw [hW]
    obtain ⟨g11, hgd⟩ : ∃ gd, v6.heap.size = gd := ⟨_, rfl⟩
    rw [hgd] at H11n HGg11 ⊢
    have H11 := H11n
    clear hW hb hgd H11n
    refine hK.out _ _ ?_ (fun hHeld => ?_)
    ·exact ⟨HA.out.cell 0, HA.out.cell 1, HA.out.cell 2, HR.out⟩
    clear hK K
    try simp only [Act.put, pS]
    refine comeA 19 fun K hK => ?_
    have e0 := (H11.out.cell 0).trans rfl
    have e1 := (H11.out.cell 1).trans rfl
    have e2 := (H11.out.cell 2).trans rfl
    have f0 := H11.out.frozen 0
    have f1 := H11.out.frozen 1
    have f2 := H11.out.frozen 2
    have kf := H11.out.lt
    go_simp
    clear e0 f0 e1 f1 e2 f2 kf
    obtain ⟨x9, hX⟩ : ∃ X, (((v7.setCell ⟨g11, 0, none⟩ (.pointer q0)).setCell ⟨g11, 1, none⟩ (.pointer q1)).setCell ⟨g11, 2, none⟩ (.pointer q2)) = X := ⟨_, rfl⟩
    have H11n : Hid (Bk x9 g11 75 #[.pointer q0, .pointer q1, .pointer q2]) := by show Bk _ _ _ _; rw [← hX]; exact (((H11.out.set_ 0 _).set_ 1 _).set_ 2 _)
    have HAn : Hid (Bk x9 w.heap.size 49 #[.int .u64 (k : Int), .int .u64 a1, .int .u64 a2, .int .u64 a3]) := by have q1 := HGg11.out; have q2 := HGg12.out; have q3 := HGl.out; show Bk _ _ _ _; rw [← hX]; exact bk_set_ne (bk_set_ne (bk_set_ne (HA.out) (p := ⟨g11, 0, none⟩) (show g11 ≠ w.heap.size by omega)) (p := ⟨g11, 1, none⟩) (show g11 ≠ w.heap.size by omega)) (p := ⟨g11, 2, none⟩) (show g11 ≠ w.heap.size by omega)
    have HKn : Hid (Bk x9 (w.heap.size + 1) 47 #[.int .i64 0, .int .u64 0]) := by have q1 := HGg11.out; have q2 := HGg12.out; have q3 := HGl.out; show Bk _ _ _ _; rw [← hX]; exact bk_set_ne (bk_set_ne (bk_set_ne (HK.out) (p := ⟨g11, 0, none⟩) (show g11 ≠ (w.heap.size + 1) by omega)) (p := ⟨g11, 1, none⟩) (show g11 ≠ (w.heap.size + 1) by omega)) (p := ⟨g11, 2, none⟩) (show g11 ≠ (w.heap.size + 1) by omega)
    have H12n : Hid (Bk x9 g12 47 #[.int .i64 0, .int .u64 0]) := by have q1 := HGg11.out; have q2 := HGg12.out; have q3 := HGl.out; show Bk _ _ _ _; rw [← hX]; exact bk_set_ne (bk_set_ne (bk_set_ne (H12.out) (p := ⟨g11, 0, none⟩) (show g11 ≠ g12 by omega)) (p := ⟨g11, 1, none⟩) (show g11 ≠ g12 by omega)) (p := ⟨g11, 2, none⟩) (show g11 ≠ g12 by omega)
    have HTn : Hid (ThIn x9 x' (.pointer q0) (.pointer q1) (.pointer q2)) := by show ThIn _ _ _ _ _; rw [← hX]; exact (((HT.out.set H11.out (by decide) (by decide) (by simp) ⟨g11, 0, none⟩ rfl _).set (H11.out.set_ 0 _) (by decide) (by decide) (by simp) ⟨g11, 1, none⟩ rfl _).set ((H11.out.set_ 0 _).set_ 1 _) (by decide) (by decide) (by simp) ⟨g11, 2, none⟩ rfl _)
    have HXn : Hid (OwIn x9 g ths) := by have q1 := HGg11.out; have q2 := HGg12.out; have q3 := HGl.out; show OwIn _ _ _; rw [← hX]; exact (((HX.out.other H11.out (by decide) (by decide) (by simp) ⟨g11, 0, none⟩ rfl (by omega) _).other (H11.out.set_ 0 _) (by decide) (by decide) (by simp) ⟨g11, 1, none⟩ rfl (by omega) _).other ((H11.out.set_ 0 _).set_ 1 _) (by decide) (by decide) (by simp) ⟨g11, 2, none⟩ rfl (by omega) _)
    have HRn : Hid (x9.rangeAt g (k * 3) [.pointer b0, .pointer b1, .pointer b2]) := by have q1 := HGg11.out; have q2 := HGg12.out; have q3 := HGl.out; show World.rangeAt _ _ _ _; rw [← hX]; exact (range_set (range_set (range_set HR.out (p := ⟨g11, 0, none⟩) (show g11 ≠ g by omega) _) (p := ⟨g11, 1, none⟩) (show g11 ≠ g by omega) _) (p := ⟨g11, 2, none⟩) (show g11 ≠ g by omega) _)
    have HBn : Hid (Below w.heap.size w x9) := by have q1 := HGg11.out; have q2 := HGg12.out; have q3 := HGl.out; show Below _ _ _; rw [← hX]; exact (((HB.out.setCell (p := ⟨g11, 0, none⟩) (show w.heap.size ≤ g11 by omega) _).setCell (p := ⟨g11, 1, none⟩) (show w.heap.size ≤ g11 by omega) _).setCell (p := ⟨g11, 2, none⟩) (show w.heap.size ≤ g11 by omega) _)
    rw [hX]
    have H11 := H11n
    clear H11n
    have HA := HAn
    clear HAn
    have HK := HKn
    clear HKn
    have H12 := H12n
    clear H12n
    have HT := HTn
    clear HTn
    have HX := HXn
    clear HXn
    have HR := HRn
    clear HRn
    have HB := HBn
    clear HBn
    clear hX
    refine hK.out _ _ ?_ (fun hHeld => ?_)
    ·exact ⟨HA.out.cell 0, HA.out.cell 1, HA.out.cell 2, HR.out⟩
    clear hK K
    try simp only [Act.put, pS]
    refine comeA 20 fun K hK => ?_
    have e0 := (H12.out.cell 0).trans rfl
    have e1 := (H12.out.cell 1).trans rfl
    have f0 := H12.out.frozen 0
    have f1 := H12.out.frozen 1
    have kf := H12.out.lt
    go_simp
    clear e0 f0 e1 f1 kf
    obtain ⟨y9, hX⟩ : ∃ X, ((x9.setCell ⟨g12, 0, none⟩ (.int .i64 rc)).setCell ⟨g12, 1, none⟩ (.int .u64 ru)) = X := ⟨_, rfl⟩
    have H12n : Hid (Bk y9 g12 47 #[.int .i64 rc, .int .u64 ru]) := by show Bk _ _ _ _; rw [← hX]; exact ((H12.out.set_ 0 _).set_ 1 _)
    have HAn : Hid (Bk y9 w.heap.size 49 #[.int .u64 (k : Int), .int .u64 a1, .int .u64 a2, .int .u64 a3]) := by have q1 := HGg11.out; have q2 := HGg12.out; have q3 := HGl.out; show Bk _ _ _ _; rw [← hX]; exact bk_set_ne (bk_set_ne (HA.out) (p := ⟨g12, 0, none⟩) (show g12 ≠ w.heap.size by omega)) (p := ⟨g12, 1, none⟩) (show g12 ≠ w.heap.size by omega)
    have HKn : Hid (Bk y9 (w.heap.size + 1) 47 #[.int .i64 0, .int .u64 0]) := by have q1 := HGg11.out; have q2 := HGg12.out; have q3 := HGl.out; show Bk _ _ _ _; rw [← hX]; exact bk_set_ne (bk_set_ne (HK.out) (p := ⟨g12, 0, none⟩) (show g12 ≠ (w.heap.size + 1) by omega)) (p := ⟨g12, 1, none⟩) (show g12 ≠ (w.heap.size + 1) by omega)
    have H11n : Hid (Bk y9 g11 75 #[.pointer q0, .pointer q1, .pointer q2]) := by have q1 := HGg11.out; have q2 := HGg12.out; have q3 := HGl.out; show Bk _ _ _ _; rw [← hX]; exact bk_set_ne (bk_set_ne (H11.out) (p := ⟨g12, 0, none⟩) (show g12 ≠ g11 by omega)) (p := ⟨g12, 1, none⟩) (show g12 ≠ g11 by omega)
    have HTn : Hid (ThIn y9 x' (.pointer q0) (.pointer q1) (.pointer q2)) := by show ThIn _ _ _ _ _; rw [← hX]; exact ((HT.out.set H12.out (by decide) (by decide) (by simp) ⟨g12, 0, none⟩ rfl _).set (H12.out.set_ 0 _) (by decide) (by decide) (by simp) ⟨g12, 1, none⟩ rfl _)
    have HXn : Hid (OwIn y9 g ths) := by have q1 := HGg11.out; have q2 := HGg12.out; have q3 := HGl.out; show OwIn _ _ _; rw [← hX]; exact ((HX.out.other H12.out (by decide) (by decide) (by simp) ⟨g12, 0, none⟩ rfl (by omega) _).other (H12.out.set_ 0 _) (by decide) (by decide) (by simp) ⟨g12, 1, none⟩ rfl (by omega) _)
    have HRn : Hid (y9.rangeAt g (k * 3) [.pointer b0, .pointer b1, .pointer b2]) := by have q1 := HGg11.out; have q2 := HGg12.out; have q3 := HGl.out; show World.rangeAt _ _ _ _; rw [← hX]; exact (range_set (range_set HR.out (p := ⟨g12, 0, none⟩) (show g12 ≠ g by omega) _) (p := ⟨g12, 1, none⟩) (show g12 ≠ g by omega) _)
    have HBn : Hid (Below w.heap.size w y9) := by have q1 := HGg11.out; have q2 := HGg12.out; have q3 := HGl.out; show Below _ _ _; rw [← hX]; exact ((HB.out.setCell (p := ⟨g12, 0, none⟩) (show w.heap.size ≤ g12 by omega) _).setCell (p := ⟨g12, 1, none⟩) (show w.heap.size ≤ g12 by omega) _)
    rw [hX]
    have H12 := H12n
    clear H12n
    have HA := HAn
    clear HAn
    have HK := HKn
    clear HKn
    have H11 := H11n
    clear H11n
    have HT := HTn
    clear HTn
    have HX := HXn
    clear HXn
    have HR := HRn
    clear HRn
    have HB := HBn
    clear HBn
    clear hX
    refine hK.out _ _ ?_ (fun hHeld => ?_)
    ·exact ⟨HA.out.cell 0, HA.out.cell 1, HA.out.cell 2, HR.out⟩
    clear hK K
    try simp only [Act.put, pS]
    refine wpAnyH_done (by kernel_rfl) ?_ _
    try simp only [Act.put, pS]
    go_wp2_with fail
    go_meet
    exact ⟨g11, g12, q0, q1, q2, rc, ru, rfl, rfl, H11.out, H12.out, HT.out, HX.out, HA.out, HK.out, HB.out, by have q1 := HGg11.out; have q2 := HGg12.out; have q3 := HGl.out; exact (show _ ∧ _ from by constructor <;> omega)⟩
  ·go_simp
   obtain ⟨v10, hW⟩ : ∃ W7, V7.alloc (.cells #[.pointer none, .pointer none, .pointer none] 75) = W7 := ⟨_, rfl⟩
   have H11n : Hid (Bk v10 V7.heap.size 75 #[.pointer none, .pointer none, .pointer none]) := by show Bk _ _ _ _; rw [← hW]; exact Bk.new _ _ _
   have hb : Below V7.heap.size V7 v10 := by rw [← hW]; exact (Below.refl _ _).alloc (Nat.le_refl _) _
   have HGg11 := Lib.hid (show w.heap.size + 1 < V7.heap.size from HK.out.lt)
   have HA := Lib.hid (HA.out.below hb HA.out.lt)
   have HK := Lib.hid (HK.out.below hb HK.out.lt)
   have HR := Lib.hid (range_below HR.out hb HX.out.lt)
   have HX := Lib.hid (HX.out.below hb)
   have HT0 := Lib.hid (HT0.out.below hb)
   have HB := Lib.hid (HB.out.trans (hb.mono HB.out.size))
   rw [hW]
   obtain ⟨g11, hgd⟩ : ∃ gd, V7.heap.size = gd := ⟨_, rfl⟩
   rw [hgd] at H11n HGg11 ⊢
   have H11 := H11n
   clear hW hb hgd H11n
   refine hK.out _ _ ?_ (fun hHeld => ?_)
   ·exact ⟨HA.out.cell 0, HA.out.cell 1, HA.out.cell 2, HR.out⟩
   clear hK K
   try simp only [Act.put, pS]
   refine comeH2 13 18 rfl rfl rfl rfl rfl rfl rfl rfl (by kernel_rfl) (by rfl) (by rfl) (fun K hK => ?_) (fun K hK => ?_)
   ·go_simp
    refine (HDO.out _ _ _ _ HT0.out).mono ?_
    rintro e v11 ⟨q0, q1, q2, r7, rfl, ht, ⟨rc, ru, rfl⟩, hb⟩
    have HA := Lib.hid (HA.out.below hb HA.out.lt)
    have HK := Lib.hid (HK.out.below hb HK.out.lt)
    have H11 := Lib.hid (H11.out.below hb H11.out.lt)
    have HR := Lib.hid (range_below HR.out hb HX.out.lt)
    have HX := Lib.hid (HX.out.below hb)
    have HB := Lib.hid (HB.out.trans (hb.mono HB.out.size))
    have HT := Lib.hid ht
    clear ht hb
    go_simp
    refine hK.out _ _ ?_ (fun hHeld => ?_)
    ·exact ⟨HA.out.cell 0, HA.out.cell 1, HA.out.cell 2, HR.out⟩
    clear hK K
    try simp only [Act.put, pS]
    refine takeA 14 ?_
    try simp only [Act.put, pS]
    refine takeA 15 ?_
    try simp only [Act.put, pS]
    refine takeA 16 ?_
    try simp only [Act.put, pS]
    refine comeA 18 fun K hK => ?_
    go_simp
    obtain ⟨v12, hW⟩ : ∃ W7, v11.alloc (.cells #[.int .i64 0, .int .u64 0] 47) = W7 := ⟨_, rfl⟩
    have H12n : Hid (Bk v12 v11.heap.size 47 #[.int .i64 0, .int .u64 0]) := by show Bk _ _ _ _; rw [← hW]; exact Bk.new _ _ _
    have hb : Below v11.heap.size v11 v12 := by rw [← hW]; exact (Below.refl _ _).alloc (Nat.le_refl _) _
    have HGg12 := Lib.hid (show w.heap.size + 1 < v11.heap.size ∧ g11 < v11.heap.size from ⟨HK.out.lt, H11.out.lt⟩)
    have HA := Lib.hid (HA.out.below hb HA.out.lt)
    have HK := Lib.hid (HK.out.below hb HK.out.lt)
    have H11 := Lib.hid (H11.out.below hb H11.out.lt)
    have HR := Lib.hid (range_below HR.out hb HX.out.lt)
    have HX := Lib.hid (HX.out.below hb)
    have HT := Lib.hid (HT.out.below hb)
    have HB := Lib.hid (HB.out.trans (hb.mono HB.out.size))
    rw [hW]
    obtain ⟨g12, hgd⟩ : ∃ gd, v11.heap.size = gd := ⟨_, rfl⟩
    rw [hgd] at H12n HGg12 ⊢
    have H12 := H12n
    clear hW hb hgd H12n
    refine hK.out _ _ ?_ (fun hHeld => ?_)
    ·exact ⟨HA.out.cell 0, HA.out.cell 1, HA.out.cell 2, HR.out⟩
    clear hK K
    try simp only [Act.put, pS]
    refine comeA 19 fun K hK => ?_
    have e0 := (H11.out.cell 0).trans rfl
    have e1 := (H11.out.cell 1).trans rfl
    have e2 := (H11.out.cell 2).trans rfl
    have f0 := H11.out.frozen 0
    have f1 := H11.out.frozen 1
    have f2 := H11.out.frozen 2
    have kf := H11.out.lt
    go_simp
    clear e0 f0 e1 f1 e2 f2 kf
    obtain ⟨x14, hX⟩ : ∃ X, (((v12.setCell ⟨g11, 0, none⟩ (.pointer q0)).setCell ⟨g11, 1, none⟩ (.pointer q1)).setCell ⟨g11, 2, none⟩ (.pointer q2)) = X := ⟨_, rfl⟩
    have H11n : Hid (Bk x14 g11 75 #[.pointer q0, .pointer q1, .pointer q2]) := by show Bk _ _ _ _; rw [← hX]; exact (((H11.out.set_ 0 _).set_ 1 _).set_ 2 _)
    have HAn : Hid (Bk x14 w.heap.size 49 #[.int .u64 (k : Int), .int .u64 a1, .int .u64 a2, .int .u64 a3]) := by have q1 := HGg11.out; have q2 := HGg12.out; have q3 := HGl.out; show Bk _ _ _ _; rw [← hX]; exact bk_set_ne (bk_set_ne (bk_set_ne (HA.out) (p := ⟨g11, 0, none⟩) (show g11 ≠ w.heap.size by omega)) (p := ⟨g11, 1, none⟩) (show g11 ≠ w.heap.size by omega)) (p := ⟨g11, 2, none⟩) (show g11 ≠ w.heap.size by omega)
    have HKn : Hid (Bk x14 (w.heap.size + 1) 47 #[.int .i64 0, .int .u64 0]) := by have q1 := HGg11.out; have q2 := HGg12.out; have q3 := HGl.out; show Bk _ _ _ _; rw [← hX]; exact bk_set_ne (bk_set_ne (bk_set_ne (HK.out) (p := ⟨g11, 0, none⟩) (show g11 ≠ (w.heap.size + 1) by omega)) (p := ⟨g11, 1, none⟩) (show g11 ≠ (w.heap.size + 1) by omega)) (p := ⟨g11, 2, none⟩) (show g11 ≠ (w.heap.size + 1) by omega)
    have H12n : Hid (Bk x14 g12 47 #[.int .i64 0, .int .u64 0]) := by have q1 := HGg11.out; have q2 := HGg12.out; have q3 := HGl.out; show Bk _ _ _ _; rw [← hX]; exact bk_set_ne (bk_set_ne (bk_set_ne (H12.out) (p := ⟨g11, 0, none⟩) (show g11 ≠ g12 by omega)) (p := ⟨g11, 1, none⟩) (show g11 ≠ g12 by omega)) (p := ⟨g11, 2, none⟩) (show g11 ≠ g12 by omega)
    have HTn : Hid (ThIn x14 x' (.pointer q0) (.pointer q1) (.pointer q2)) := by show ThIn _ _ _ _ _; rw [← hX]; exact (((HT.out.set H11.out (by decide) (by decide) (by simp) ⟨g11, 0, none⟩ rfl _).set (H11.out.set_ 0 _) (by decide) (by decide) (by simp) ⟨g11, 1, none⟩ rfl _).set ((H11.out.set_ 0 _).set_ 1 _) (by decide) (by decide) (by simp) ⟨g11, 2, none⟩ rfl _)
    have HXn : Hid (OwIn x14 g ths) := by have q1 := HGg11.out; have q2 := HGg12.out; have q3 := HGl.out; show OwIn _ _ _; rw [← hX]; exact (((HX.out.other H11.out (by decide) (by decide) (by simp) ⟨g11, 0, none⟩ rfl (by omega) _).other (H11.out.set_ 0 _) (by decide) (by decide) (by simp) ⟨g11, 1, none⟩ rfl (by omega) _).other ((H11.out.set_ 0 _).set_ 1 _) (by decide) (by decide) (by simp) ⟨g11, 2, none⟩ rfl (by omega) _)
    have HRn : Hid (x14.rangeAt g (k * 3) [.pointer b0, .pointer b1, .pointer b2]) := by have q1 := HGg11.out; have q2 := HGg12.out; have q3 := HGl.out; show World.rangeAt _ _ _ _; rw [← hX]; exact (range_set (range_set (range_set HR.out (p := ⟨g11, 0, none⟩) (show g11 ≠ g by omega) _) (p := ⟨g11, 1, none⟩) (show g11 ≠ g by omega) _) (p := ⟨g11, 2, none⟩) (show g11 ≠ g by omega) _)
    have HBn : Hid (Below w.heap.size w x14) := by have q1 := HGg11.out; have q2 := HGg12.out; have q3 := HGl.out; show Below _ _ _; rw [← hX]; exact (((HB.out.setCell (p := ⟨g11, 0, none⟩) (show w.heap.size ≤ g11 by omega) _).setCell (p := ⟨g11, 1, none⟩) (show w.heap.size ≤ g11 by omega) _).setCell (p := ⟨g11, 2, none⟩) (show w.heap.size ≤ g11 by omega) _)
    rw [hX]
    have H11 := H11n
    clear H11n
    have HA := HAn
    clear HAn
    have HK := HKn
    clear HKn
    have H12 := H12n
    clear H12n
    have HT := HTn
    clear HTn
    have HX := HXn
    clear HXn
    have HR := HRn
    clear HRn
    have HB := HBn
    clear HBn
    clear hX
    refine hK.out _ _ ?_ (fun hHeld => ?_)
    ·exact ⟨HA.out.cell 0, HA.out.cell 1, HA.out.cell 2, HR.out⟩
    clear hK K
    try simp only [Act.put, pS]
    refine comeA 20 fun K hK => ?_
    have e0 := (H12.out.cell 0).trans rfl
    have e1 := (H12.out.cell 1).trans rfl
    have f0 := H12.out.frozen 0
    have f1 := H12.out.frozen 1
    have kf := H12.out.lt
    go_simp
    clear e0 f0 e1 f1 kf
    obtain ⟨y14, hX⟩ : ∃ X, ((x14.setCell ⟨g12, 0, none⟩ (.int .i64 rc)).setCell ⟨g12, 1, none⟩ (.int .u64 ru)) = X := ⟨_, rfl⟩
    have H12n : Hid (Bk y14 g12 47 #[.int .i64 rc, .int .u64 ru]) := by show Bk _ _ _ _; rw [← hX]; exact ((H12.out.set_ 0 _).set_ 1 _)
    have HAn : Hid (Bk y14 w.heap.size 49 #[.int .u64 (k : Int), .int .u64 a1, .int .u64 a2, .int .u64 a3]) := by have q1 := HGg11.out; have q2 := HGg12.out; have q3 := HGl.out; show Bk _ _ _ _; rw [← hX]; exact bk_set_ne (bk_set_ne (HA.out) (p := ⟨g12, 0, none⟩) (show g12 ≠ w.heap.size by omega)) (p := ⟨g12, 1, none⟩) (show g12 ≠ w.heap.size by omega)
    have HKn : Hid (Bk y14 (w.heap.size + 1) 47 #[.int .i64 0, .int .u64 0]) := by have q1 := HGg11.out; have q2 := HGg12.out; have q3 := HGl.out; show Bk _ _ _ _; rw [← hX]; exact bk_set_ne (bk_set_ne (HK.out) (p := ⟨g12, 0, none⟩) (show g12 ≠ (w.heap.size + 1) by omega)) (p := ⟨g12, 1, none⟩) (show g12 ≠ (w.heap.size + 1) by omega)
    have H11n : Hid (Bk y14 g11 75 #[.pointer q0, .pointer q1, .pointer q2]) := by have q1 := HGg11.out; have q2 := HGg12.out; have q3 := HGl.out; show Bk _ _ _ _; rw [← hX]; exact bk_set_ne (bk_set_ne (H11.out) (p := ⟨g12, 0, none⟩) (show g12 ≠ g11 by omega)) (p := ⟨g12, 1, none⟩) (show g12 ≠ g11 by omega)
    have HTn : Hid (ThIn y14 x' (.pointer q0) (.pointer q1) (.pointer q2)) := by show ThIn _ _ _ _ _; rw [← hX]; exact ((HT.out.set H12.out (by decide) (by decide) (by simp) ⟨g12, 0, none⟩ rfl _).set (H12.out.set_ 0 _) (by decide) (by decide) (by simp) ⟨g12, 1, none⟩ rfl _)
    have HXn : Hid (OwIn y14 g ths) := by have q1 := HGg11.out; have q2 := HGg12.out; have q3 := HGl.out; show OwIn _ _ _; rw [← hX]; exact ((HX.out.other H12.out (by decide) (by decide) (by simp) ⟨g12, 0, none⟩ rfl (by omega) _).other (H12.out.set_ 0 _) (by decide) (by decide) (by simp) ⟨g12, 1, none⟩ rfl (by omega) _)
    have HRn : Hid (y14.rangeAt g (k * 3) [.pointer b0, .pointer b1, .pointer b2]) := by have q1 := HGg11.out; have q2 := HGg12.out; have q3 := HGl.out; show World.rangeAt _ _ _ _; rw [← hX]; exact (range_set (range_set HR.out (p := ⟨g12, 0, none⟩) (show g12 ≠ g by omega) _) (p := ⟨g12, 1, none⟩) (show g12 ≠ g by omega) _)
    have HBn : Hid (Below w.heap.size w y14) := by have q1 := HGg11.out; have q2 := HGg12.out; have q3 := HGl.out; show Below _ _ _; rw [← hX]; exact ((HB.out.setCell (p := ⟨g12, 0, none⟩) (show w.heap.size ≤ g12 by omega) _).setCell (p := ⟨g12, 1, none⟩) (show w.heap.size ≤ g12 by omega) _)
    rw [hX]
    have H12 := H12n
    clear H12n
    have HA := HAn
    clear HAn
    have HK := HKn
    clear HKn
    have H11 := H11n
    clear H11n
    have HT := HTn
    clear HTn
    have HX := HXn
    clear HXn
    have HR := HRn
    clear HRn
    have HB := HBn
    clear HBn
    clear hX
    refine hK.out _ _ ?_ (fun hHeld => ?_)
    ·exact ⟨HA.out.cell 0, HA.out.cell 1, HA.out.cell 2, HR.out⟩
    clear hK K
    try simp only [Act.put, pS]
    refine wpAnyH_done (by kernel_rfl) ?_ _
    try simp only [Act.put, pS]
    go_wp2_with fail
    go_meet
    exact ⟨g11, g12, q0, q1, q2, rc, ru, rfl, rfl, H11.out, H12.out, HT.out, HX.out, HA.out, HK.out, HB.out, by have q1 := HGg11.out; have q2 := HGg12.out; have q3 := HGl.out; exact (show _ ∧ _ from by constructor <;> omega)⟩
   ·go_simp
    obtain ⟨v15, hW⟩ : ∃ W7, v10.alloc (.cells #[.int .i64 0, .int .u64 0] 47) = W7 := ⟨_, rfl⟩
    have H12n : Hid (Bk v15 v10.heap.size 47 #[.int .i64 0, .int .u64 0]) := by show Bk _ _ _ _; rw [← hW]; exact Bk.new _ _ _
    have hb : Below v10.heap.size v10 v15 := by rw [← hW]; exact (Below.refl _ _).alloc (Nat.le_refl _) _
    have HGg12 := Lib.hid (show w.heap.size + 1 < v10.heap.size ∧ g11 < v10.heap.size from ⟨HK.out.lt, H11.out.lt⟩)
    have HA := Lib.hid (HA.out.below hb HA.out.lt)
    have HK := Lib.hid (HK.out.below hb HK.out.lt)
    have H11 := Lib.hid (H11.out.below hb H11.out.lt)
    have HR := Lib.hid (range_below HR.out hb HX.out.lt)
    have HX := Lib.hid (HX.out.below hb)
    have HT0 := Lib.hid (HT0.out.below hb)
    have HB := Lib.hid (HB.out.trans (hb.mono HB.out.size))
    rw [hW]
    obtain ⟨g12, hgd⟩ : ∃ gd, v10.heap.size = gd := ⟨_, rfl⟩
    rw [hgd] at H12n HGg12 ⊢
    have H12 := H12n
    clear hW hb hgd H12n
    refine hK.out _ _ ?_ (fun hHeld => ?_)
    ·exact ⟨HA.out.cell 0, HA.out.cell 1, HA.out.cell 2, HR.out⟩
    clear hK K
    try simp only [Act.put, pS]
    refine comeA 13 fun K hK => ?_
    go_simp
    refine (HDO.out _ _ _ _ HT0.out).mono ?_
    rintro e v16 ⟨q0, q1, q2, r7, rfl, ht, ⟨rc, ru, rfl⟩, hb⟩
    have HA := Lib.hid (HA.out.below hb HA.out.lt)
    have HK := Lib.hid (HK.out.below hb HK.out.lt)
    have H11 := Lib.hid (H11.out.below hb H11.out.lt)
    have H12 := Lib.hid (H12.out.below hb H12.out.lt)
    have HR := Lib.hid (range_below HR.out hb HX.out.lt)
    have HX := Lib.hid (HX.out.below hb)
    have HB := Lib.hid (HB.out.trans (hb.mono HB.out.size))
    have HT := Lib.hid ht
    clear ht hb
    go_simp
    refine hK.out _ _ ?_ (fun hHeld => ?_)
    ·exact ⟨HA.out.cell 0, HA.out.cell 1, HA.out.cell 2, HR.out⟩
    clear hK K
    try simp only [Act.put, pS]
    refine takeA 14 ?_
    try simp only [Act.put, pS]
    refine takeA 15 ?_
    try simp only [Act.put, pS]
    refine takeA 16 ?_
    try simp only [Act.put, pS]
    refine comeA 19 fun K hK => ?_
    have e0 := (H11.out.cell 0).trans rfl
    have e1 := (H11.out.cell 1).trans rfl
    have e2 := (H11.out.cell 2).trans rfl
    have f0 := H11.out.frozen 0
    have f1 := H11.out.frozen 1
    have f2 := H11.out.frozen 2
    have kf := H11.out.lt
    go_simp
    clear e0 f0 e1 f1 e2 f2 kf
    obtain ⟨x18, hX⟩ : ∃ X, (((v16.setCell ⟨g11, 0, none⟩ (.pointer q0)).setCell ⟨g11, 1, none⟩ (.pointer q1)).setCell ⟨g11, 2, none⟩ (.pointer q2)) = X := ⟨_, rfl⟩
    have H11n : Hid (Bk x18 g11 75 #[.pointer q0, .pointer q1, .pointer q2]) := by show Bk _ _ _ _; rw [← hX]; exact (((H11.out.set_ 0 _).set_ 1 _).set_ 2 _)
    have HAn : Hid (Bk x18 w.heap.size 49 #[.int .u64 (k : Int), .int .u64 a1, .int .u64 a2, .int .u64 a3]) := by have q1 := HGg11.out; have q2 := HGg12.out; have q3 := HGl.out; show Bk _ _ _ _; rw [← hX]; exact bk_set_ne (bk_set_ne (bk_set_ne (HA.out) (p := ⟨g11, 0, none⟩) (show g11 ≠ w.heap.size by omega)) (p := ⟨g11, 1, none⟩) (show g11 ≠ w.heap.size by omega)) (p := ⟨g11, 2, none⟩) (show g11 ≠ w.heap.size by omega)
    have HKn : Hid (Bk x18 (w.heap.size + 1) 47 #[.int .i64 0, .int .u64 0]) := by have q1 := HGg11.out; have q2 := HGg12.out; have q3 := HGl.out; show Bk _ _ _ _; rw [← hX]; exact bk_set_ne (bk_set_ne (bk_set_ne (HK.out) (p := ⟨g11, 0, none⟩) (show g11 ≠ (w.heap.size + 1) by omega)) (p := ⟨g11, 1, none⟩) (show g11 ≠ (w.heap.size + 1) by omega)) (p := ⟨g11, 2, none⟩) (show g11 ≠ (w.heap.size + 1) by omega)
    have H12n : Hid (Bk x18 g12 47 #[.int .i64 0, .int .u64 0]) := by have q1 := HGg11.out; have q2 := HGg12.out; have q3 := HGl.out; show Bk _ _ _ _; rw [← hX]; exact bk_set_ne (bk_set_ne (bk_set_ne (H12.out) (p := ⟨g11, 0, none⟩) (show g11 ≠ g12 by omega)) (p := ⟨g11, 1, none⟩) (show g11 ≠ g12 by omega)) (p := ⟨g11, 2, none⟩) (show g11 ≠ g12 by omega)
    have HTn : Hid (ThIn x18 x' (.pointer q0) (.pointer q1) (.pointer q2)) := by show ThIn _ _ _ _ _; rw [← hX]; exact (((HT.out.set H11.out (by decide) (by decide) (by simp) ⟨g11, 0, none⟩ rfl _).set (H11.out.set_ 0 _) (by decide) (by decide) (by simp) ⟨g11, 1, none⟩ rfl _).set ((H11.out.set_ 0 _).set_ 1 _) (by decide) (by decide) (by simp) ⟨g11, 2, none⟩ rfl _)
    have HXn : Hid (OwIn x18 g ths) := by have q1 := HGg11.out; have q2 := HGg12.out; have q3 := HGl.out; show OwIn _ _ _; rw [← hX]; exact (((HX.out.other H11.out (by decide) (by decide) (by simp) ⟨g11, 0, none⟩ rfl (by omega) _).other (H11.out.set_ 0 _) (by decide) (by decide) (by simp) ⟨g11, 1, none⟩ rfl (by omega) _).other ((H11.out.set_ 0 _).set_ 1 _) (by decide) (by decide) (by simp) ⟨g11, 2, none⟩ rfl (by omega) _)
    have HRn : Hid (x18.rangeAt g (k * 3) [.pointer b0, .pointer b1, .pointer b2]) := by have q1 := HGg11.out; have q2 := HGg12.out; have q3 := HGl.out; show World.rangeAt _ _ _ _; rw [← hX]; exact (range_set (range_set (range_set HR.out (p := ⟨g11, 0, none⟩) (show g11 ≠ g by omega) _) (p := ⟨g11, 1, none⟩) (show g11 ≠ g by omega) _) (p := ⟨g11, 2, none⟩) (show g11 ≠ g by omega) _)
    have HBn : Hid (Below w.heap.size w x18) := by have q1 := HGg11.out; have q2 := HGg12.out; have q3 := HGl.out; show Below _ _ _; rw [← hX]; exact (((HB.out.setCell (p := ⟨g11, 0, none⟩) (show w.heap.size ≤ g11 by omega) _).setCell (p := ⟨g11, 1, none⟩) (show w.heap.size ≤ g11 by omega) _).setCell (p := ⟨g11, 2, none⟩) (show w.heap.size ≤ g11 by omega) _)
    rw [hX]
    have H11 := H11n
    clear H11n
    have HA := HAn
    clear HAn
    have HK := HKn
    clear HKn
    have H12 := H12n
    clear H12n
    have HT := HTn
    clear HTn
    have HX := HXn
    clear HXn
    have HR := HRn
    clear HRn
    have HB := HBn
    clear HBn
    clear hX
    refine hK.out _ _ ?_ (fun hHeld => ?_)
    ·exact ⟨HA.out.cell 0, HA.out.cell 1, HA.out.cell 2, HR.out⟩
    clear hK K
    try simp only [Act.put, pS]
    refine comeA 20 fun K hK => ?_
    have e0 := (H12.out.cell 0).trans rfl
    have e1 := (H12.out.cell 1).trans rfl
    have f0 := H12.out.frozen 0
    have f1 := H12.out.frozen 1
    have kf := H12.out.lt
    go_simp
    clear e0 f0 e1 f1 kf
    obtain ⟨y18, hX⟩ : ∃ X, ((x18.setCell ⟨g12, 0, none⟩ (.int .i64 rc)).setCell ⟨g12, 1, none⟩ (.int .u64 ru)) = X := ⟨_, rfl⟩
    have H12n : Hid (Bk y18 g12 47 #[.int .i64 rc, .int .u64 ru]) := by show Bk _ _ _ _; rw [← hX]; exact ((H12.out.set_ 0 _).set_ 1 _)
    have HAn : Hid (Bk y18 w.heap.size 49 #[.int .u64 (k : Int), .int .u64 a1, .int .u64 a2, .int .u64 a3]) := by have q1 := HGg11.out; have q2 := HGg12.out; have q3 := HGl.out; show Bk _ _ _ _; rw [← hX]; exact bk_set_ne (bk_set_ne (HA.out) (p := ⟨g12, 0, none⟩) (show g12 ≠ w.heap.size by omega)) (p := ⟨g12, 1, none⟩) (show g12 ≠ w.heap.size by omega)
    have HKn : Hid (Bk y18 (w.heap.size + 1) 47 #[.int .i64 0, .int .u64 0]) := by have q1 := HGg11.out; have q2 := HGg12.out; have q3 := HGl.out; show Bk _ _ _ _; rw [← hX]; exact bk_set_ne (bk_set_ne (HK.out) (p := ⟨g12, 0, none⟩) (show g12 ≠ (w.heap.size + 1) by omega)) (p := ⟨g12, 1, none⟩) (show g12 ≠ (w.heap.size + 1) by omega)
    have H11n : Hid (Bk y18 g11 75 #[.pointer q0, .pointer q1, .pointer q2]) := by have q1 := HGg11.out; have q2 := HGg12.out; have q3 := HGl.out; show Bk _ _ _ _; rw [← hX]; exact bk_set_ne (bk_set_ne (H11.out) (p := ⟨g12, 0, none⟩) (show g12 ≠ g11 by omega)) (p := ⟨g12, 1, none⟩) (show g12 ≠ g11 by omega)
    have HTn : Hid (ThIn y18 x' (.pointer q0) (.pointer q1) (.pointer q2)) := by show ThIn _ _ _ _ _; rw [← hX]; exact ((HT.out.set H12.out (by decide) (by decide) (by simp) ⟨g12, 0, none⟩ rfl _).set (H12.out.set_ 0 _) (by decide) (by decide) (by simp) ⟨g12, 1, none⟩ rfl _)
    have HXn : Hid (OwIn y18 g ths) := by have q1 := HGg11.out; have q2 := HGg12.out; have q3 := HGl.out; show OwIn _ _ _; rw [← hX]; exact ((HX.out.other H12.out (by decide) (by decide) (by simp) ⟨g12, 0, none⟩ rfl (by omega) _).other (H12.out.set_ 0 _) (by decide) (by decide) (by simp) ⟨g12, 1, none⟩ rfl (by omega) _)
    have HRn : Hid (y18.rangeAt g (k * 3) [.pointer b0, .pointer b1, .pointer b2]) := by have q1 := HGg11.out; have q2 := HGg12.out; have q3 := HGl.out; show World.rangeAt _ _ _ _; rw [← hX]; exact (range_set (range_set HR.out (p := ⟨g12, 0, none⟩) (show g12 ≠ g by omega) _) (p := ⟨g12, 1, none⟩) (show g12 ≠ g by omega) _)
    have HBn : Hid (Below w.heap.size w y18) := by have q1 := HGg11.out; have q2 := HGg12.out; have q3 := HGl.out; show Below _ _ _; rw [← hX]; exact ((HB.out.setCell (p := ⟨g12, 0, none⟩) (show w.heap.size ≤ g12 by omega) _).setCell (p := ⟨g12, 1, none⟩) (show w.heap.size ≤ g12 by omega) _)
    rw [hX]
    have H12 := H12n
    clear H12n
    have HA := HAn
    clear HAn
    have HK := HKn
    clear HKn
    have H11 := H11n
    clear H11n
    have HT := HTn
    clear HTn
    have HX := HXn
    clear HXn
    have HR := HRn
    clear HRn
    have HB := HBn
    clear HBn
    clear hX
    refine hK.out _ _ ?_ (fun hHeld => ?_)
    ·exact ⟨HA.out.cell 0, HA.out.cell 1, HA.out.cell 2, HR.out⟩
    clear hK K
    try simp only [Act.put, pS]
    refine wpAnyH_done (by kernel_rfl) ?_ _
    try simp only [Act.put, pS]
    go_wp2_with fail
    go_meet
    exact ⟨g11, g12, q0, q1, q2, rc, ru, rfl, rfl, H11.out, H12.out, HT.out, HX.out, HA.out, HK.out, HB.out, by have q1 := HGg11.out; have q2 := HGg12.out; have q3 := HGl.out; exact (show _ ∧ _ from by constructor <;> omega)⟩
  ·go_simp
   obtain ⟨v19, hW⟩ : ∃ W7, V7.alloc (.cells #[.int .i64 0, .int .u64 0] 47) = W7 := ⟨_, rfl⟩
   have H12n : Hid (Bk v19 V7.heap.size 47 #[.int .i64 0, .int .u64 0]) := by show Bk _ _ _ _; rw [← hW]; exact Bk.new _ _ _
   have hb : Below V7.heap.size V7 v19 := by rw [← hW]; exact (Below.refl _ _).alloc (Nat.le_refl _) _
   have HGg12 := Lib.hid (show w.heap.size + 1 < V7.heap.size from HK.out.lt)
   have HA := Lib.hid (HA.out.below hb HA.out.lt)
   have HK := Lib.hid (HK.out.below hb HK.out.lt)
   have HR := Lib.hid (range_below HR.out hb HX.out.lt)
   have HX := Lib.hid (HX.out.below hb)
   have HT0 := Lib.hid (HT0.out.below hb)
   have HB := Lib.hid (HB.out.trans (hb.mono HB.out.size))
   rw [hW]
   obtain ⟨g12, hgd⟩ : ∃ gd, V7.heap.size = gd := ⟨_, rfl⟩
   rw [hgd] at H12n HGg12 ⊢
   have H12 := H12n
   clear hW hb hgd H12n
   refine hK.out _ _ ?_ (fun hHeld => ?_)
   ·exact ⟨HA.out.cell 0, HA.out.cell 1, HA.out.cell 2, HR.out⟩
   clear hK K
   try simp only [Act.put, pS]
   refine comeH2 13 17 rfl rfl rfl rfl rfl rfl rfl rfl (by kernel_rfl) (by rfl) (by rfl) (fun K hK => ?_) (fun K hK => ?_)
   ·go_simp
    refine (HDO.out _ _ _ _ HT0.out).mono ?_
    rintro e v20 ⟨q0, q1, q2, r7, rfl, ht, ⟨rc, ru, rfl⟩, hb⟩
    have HA := Lib.hid (HA.out.below hb HA.out.lt)
    have HK := Lib.hid (HK.out.below hb HK.out.lt)
    have H12 := Lib.hid (H12.out.below hb H12.out.lt)
    have HR := Lib.hid (range_below HR.out hb HX.out.lt)
    have HX := Lib.hid (HX.out.below hb)
    have HB := Lib.hid (HB.out.trans (hb.mono HB.out.size))
    have HT := Lib.hid ht
    clear ht hb
    go_simp
    refine hK.out _ _ ?_ (fun hHeld => ?_)
    ·exact ⟨HA.out.cell 0, HA.out.cell 1, HA.out.cell 2, HR.out⟩
    clear hK K
    try simp only [Act.put, pS]
    refine takeA 14 ?_
    try simp only [Act.put, pS]
    refine takeA 15 ?_
    try simp only [Act.put, pS]
    refine takeA 16 ?_
    try simp only [Act.put, pS]
    refine comeA 17 fun K hK => ?_
    go_simp
    obtain ⟨v21, hW⟩ : ∃ W7, v20.alloc (.cells #[.pointer none, .pointer none, .pointer none] 75) = W7 := ⟨_, rfl⟩
    have H11n : Hid (Bk v21 v20.heap.size 75 #[.pointer none, .pointer none, .pointer none]) := by show Bk _ _ _ _; rw [← hW]; exact Bk.new _ _ _
    have hb : Below v20.heap.size v20 v21 := by rw [← hW]; exact (Below.refl _ _).alloc (Nat.le_refl _) _
    have HGg11 := Lib.hid (show w.heap.size + 1 < v20.heap.size ∧ g12 < v20.heap.size from ⟨HK.out.lt, H12.out.lt⟩)
    have HA := Lib.hid (HA.out.below hb HA.out.lt)
    have HK := Lib.hid (HK.out.below hb HK.out.lt)
    have H12 := Lib.hid (H12.out.below hb H12.out.lt)
    have HR := Lib.hid (range_below HR.out hb HX.out.lt)
    have HX := Lib.hid (HX.out.below hb)
    have HT := Lib.hid (HT.out.below hb)
    have HB := Lib.hid (HB.out.trans (hb.mono HB.out.size))
    rw [hW]
    obtain ⟨g11, hgd⟩ : ∃ gd, v20.heap.size = gd := ⟨_, rfl⟩
    rw [hgd] at H11n HGg11 ⊢
    have H11 := H11n
    clear hW hb hgd H11n
    refine hK.out _ _ ?_ (fun hHeld => ?_)
    ·exact ⟨HA.out.cell 0, HA.out.cell 1, HA.out.cell 2, HR.out⟩
    clear hK K
    try simp only [Act.put, pS]
    refine comeA 19 fun K hK => ?_
    have e0 := (H11.out.cell 0).trans rfl
    have e1 := (H11.out.cell 1).trans rfl
    have e2 := (H11.out.cell 2).trans rfl
    have f0 := H11.out.frozen 0
    have f1 := H11.out.frozen 1
    have f2 := H11.out.frozen 2
    have kf := H11.out.lt
    go_simp
    clear e0 f0 e1 f1 e2 f2 kf
    obtain ⟨x23, hX⟩ : ∃ X, (((v21.setCell ⟨g11, 0, none⟩ (.pointer q0)).setCell ⟨g11, 1, none⟩ (.pointer q1)).setCell ⟨g11, 2, none⟩ (.pointer q2)) = X := ⟨_, rfl⟩
    have H11n : Hid (Bk x23 g11 75 #[.pointer q0, .pointer q1, .pointer q2]) := by show Bk _ _ _ _; rw [← hX]; exact (((H11.out.set_ 0 _).set_ 1 _).set_ 2 _)
    have HAn : Hid (Bk x23 w.heap.size 49 #[.int .u64 (k : Int), .int .u64 a1, .int .u64 a2, .int .u64 a3]) := by have q1 := HGg11.out; have q2 := HGg12.out; have q3 := HGl.out; show Bk _ _ _ _; rw [← hX]; exact bk_set_ne (bk_set_ne (bk_set_ne (HA.out) (p := ⟨g11, 0, none⟩) (show g11 ≠ w.heap.size by omega)) (p := ⟨g11, 1, none⟩) (show g11 ≠ w.heap.size by omega)) (p := ⟨g11, 2, none⟩) (show g11 ≠ w.heap.size by omega)
    have HKn : Hid (Bk x23 (w.heap.size + 1) 47 #[.int .i64 0, .int .u64 0]) := by have q1 := HGg11.out; have q2 := HGg12.out; have q3 := HGl.out; show Bk _ _ _ _; rw [← hX]; exact bk_set_ne (bk_set_ne (bk_set_ne (HK.out) (p := ⟨g11, 0, none⟩) (show g11 ≠ (w.heap.size + 1) by omega)) (p := ⟨g11, 1, none⟩) (show g11 ≠ (w.heap.size + 1) by omega)) (p := ⟨g11, 2, none⟩) (show g11 ≠ (w.heap.size + 1) by omega)
    have H12n : Hid (Bk x23 g12 47 #[.int .i64 0, .int .u64 0]) := by have q1 := HGg11.out; have q2 := HGg12.out; have q3 := HGl.out; show Bk _ _ _ _; rw [← hX]; exact bk_set_ne (bk_set_ne (bk_set_ne (H12.out) (p := ⟨g11, 0, none⟩) (show g11 ≠ g12 by omega)) (p := ⟨g11, 1, none⟩) (show g11 ≠ g12 by omega)) (p := ⟨g11, 2, none⟩) (show g11 ≠ g12 by omega)
    have HTn : Hid (ThIn x23 x' (.pointer q0) (.pointer q1) (.pointer q2)) := by show ThIn _ _ _ _ _; rw [← hX]; exact (((HT.out.set H11.out (by decide) (by decide) (by simp) ⟨g11, 0, none⟩ rfl _).set (H11.out.set_ 0 _) (by decide) (by decide) (by simp) ⟨g11, 1, none⟩ rfl _).set ((H11.out.set_ 0 _).set_ 1 _) (by decide) (by decide) (by simp) ⟨g11, 2, none⟩ rfl _)
    have HXn : Hid (OwIn x23 g ths) := by have q1 := HGg11.out; have q2 := HGg12.out; have q3 := HGl.out; show OwIn _ _ _; rw [← hX]; exact (((HX.out.other H11.out (by decide) (by decide) (by simp) ⟨g11, 0, none⟩ rfl (by omega) _).other (H11.out.set_ 0 _) (by decide) (by decide) (by simp) ⟨g11, 1, none⟩ rfl (by omega) _).other ((H11.out.set_ 0 _).set_ 1 _) (by decide) (by decide) (by simp) ⟨g11, 2, none⟩ rfl (by omega) _)
    have HRn : Hid (x23.rangeAt g (k * 3) [.pointer b0, .pointer b1, .pointer b2]) := by have q1 := HGg11.out; have q2 := HGg12.out; have q3 := HGl.out; show World.rangeAt _ _ _ _; rw [← hX]; exact (range_set (range_set (range_set HR.out (p := ⟨g11, 0, none⟩) (show g11 ≠ g by omega) _) (p := ⟨g11, 1, none⟩) (show g11 ≠ g by omega) _) (p := ⟨g11, 2, none⟩) (show g11 ≠ g by omega) _)
    have HBn : Hid (Below w.heap.size w x23) := by have q1 := HGg11.out; have q2 := HGg12.out; have q3 := HGl.out; show Below _ _ _; rw [← hX]; exact (((HB.out.setCell (p := ⟨g11, 0, none⟩) (show w.heap.size ≤ g11 by omega) _).setCell (p := ⟨g11, 1, none⟩) (show w.heap.size ≤ g11 by omega) _).setCell (p := ⟨g11, 2, none⟩) (show w.heap.size ≤ g11 by omega) _)
    rw [hX]
    have H11 := H11n
    clear H11n
    have HA := HAn
    clear HAn
    have HK := HKn
    clear HKn
    have H12 := H12n
    clear H12n
    have HT := HTn
    clear HTn
    have HX := HXn
    clear HXn
    have HR := HRn
    clear HRn
    have HB := HBn
    clear HBn
    clear hX
    refine hK.out _ _ ?_ (fun hHeld => ?_)
    ·exact ⟨HA.out.cell 0, HA.out.cell 1, HA.out.cell 2, HR.out⟩
    clear hK K
    try simp only [Act.put, pS]
    refine comeA 20 fun K hK => ?_
    have e0 := (H12.out.cell 0).trans rfl
    have e1 := (H12.out.cell 1).trans rfl
    have f0 := H12.out.frozen 0
    have f1 := H12.out.frozen 1
    have kf := H12.out.lt
    go_simp
    clear e0 f0 e1 f1 kf
    obtain ⟨y23, hX⟩ : ∃ X, ((x23.setCell ⟨g12, 0, none⟩ (.int .i64 rc)).setCell ⟨g12, 1, none⟩ (.int .u64 ru)) = X := ⟨_, rfl⟩
    have H12n : Hid (Bk y23 g12 47 #[.int .i64 rc, .int .u64 ru]) := by show Bk _ _ _ _; rw [← hX]; exact ((H12.out.set_ 0 _).set_ 1 _)
    have HAn : Hid (Bk y23 w.heap.size 49 #[.int .u64 (k : Int), .int .u64 a1, .int .u64 a2, .int .u64 a3]) := by have q1 := HGg11.out; have q2 := HGg12.out; have q3 := HGl.out; show Bk _ _ _ _; rw [← hX]; exact bk_set_ne (bk_set_ne (HA.out) (p := ⟨g12, 0, none⟩) (show g12 ≠ w.heap.size by omega)) (p := ⟨g12, 1, none⟩) (show g12 ≠ w.heap.size by omega)
    have HKn : Hid (Bk y23 (w.heap.size + 1) 47 #[.int .i64 0, .int .u64 0]) := by have q1 := HGg11.out; have q2 := HGg12.out; have q3 := HGl.out; show Bk _ _ _ _; rw [← hX]; exact bk_set_ne (bk_set_ne (HK.out) (p := ⟨g12, 0, none⟩) (show g12 ≠ (w.heap.size + 1) by omega)) (p := ⟨g12, 1, none⟩) (show g12 ≠ (w.heap.size + 1) by omega)
    have H11n : Hid (Bk y23 g11 75 #[.pointer q0, .pointer q1, .pointer q2]) := by have q1 := HGg11.out; have q2 := HGg12.out; have q3 := HGl.out; show Bk _ _ _ _; rw [← hX]; exact bk_set_ne (bk_set_ne (H11.out) (p := ⟨g12, 0, none⟩) (show g12 ≠ g11 by omega)) (p := ⟨g12, 1, none⟩) (show g12 ≠ g11 by omega)
    have HTn : Hid (ThIn y23 x' (.pointer q0) (.pointer q1) (.pointer q2)) := by show ThIn _ _ _ _ _; rw [← hX]; exact ((HT.out.set H12.out (by decide) (by decide) (by simp) ⟨g12, 0, none⟩ rfl _).set (H12.out.set_ 0 _) (by decide) (by decide) (by simp) ⟨g12, 1, none⟩ rfl _)
    have HXn : Hid (OwIn y23 g ths) := by have q1 := HGg11.out; have q2 := HGg12.out; have q3 := HGl.out; show OwIn _ _ _; rw [← hX]; exact ((HX.out.other H12.out (by decide) (by decide) (by simp) ⟨g12, 0, none⟩ rfl (by omega) _).other (H12.out.set_ 0 _) (by decide) (by decide) (by simp) ⟨g12, 1, none⟩ rfl (by omega) _)
    have HRn : Hid (y23.rangeAt g (k * 3) [.pointer b0, .pointer b1, .pointer b2]) := by have q1 := HGg11.out; have q2 := HGg12.out; have q3 := HGl.out; show World.rangeAt _ _ _ _; rw [← hX]; exact (range_set (range_set HR.out (p := ⟨g12, 0, none⟩) (show g12 ≠ g by omega) _) (p := ⟨g12, 1, none⟩) (show g12 ≠ g by omega) _)
    have HBn : Hid (Below w.heap.size w y23) := by have q1 := HGg11.out; have q2 := HGg12.out; have q3 := HGl.out; show Below _ _ _; rw [← hX]; exact ((HB.out.setCell (p := ⟨g12, 0, none⟩) (show w.heap.size ≤ g12 by omega) _).setCell (p := ⟨g12, 1, none⟩) (show w.heap.size ≤ g12 by omega) _)
    rw [hX]
    have H12 := H12n
    clear H12n
    have HA := HAn
    clear HAn
    have HK := HKn
    clear HKn
    have H11 := H11n
    clear H11n
    have HT := HTn
    clear HTn
    have HX := HXn
    clear HXn
    have HR := HRn
    clear HRn
    have HB := HBn
    clear HBn
    clear hX
    refine hK.out _ _ ?_ (fun hHeld => ?_)
    ·exact ⟨HA.out.cell 0, HA.out.cell 1, HA.out.cell 2, HR.out⟩
    clear hK K
    try simp only [Act.put, pS]
    refine wpAnyH_done (by kernel_rfl) ?_ _
    try simp only [Act.put, pS]
    go_wp2_with fail
    go_meet
    exact ⟨g11, g12, q0, q1, q2, rc, ru, rfl, rfl, H11.out, H12.out, HT.out, HX.out, HA.out, HK.out, HB.out, by have q1 := HGg11.out; have q2 := HGg12.out; have q3 := HGl.out; exact (show _ ∧ _ from by constructor <;> omega)⟩
   ·go_simp
    obtain ⟨v24, hW⟩ : ∃ W7, v19.alloc (.cells #[.pointer none, .pointer none, .pointer none] 75) = W7 := ⟨_, rfl⟩
    have H11n : Hid (Bk v24 v19.heap.size 75 #[.pointer none, .pointer none, .pointer none]) := by show Bk _ _ _ _; rw [← hW]; exact Bk.new _ _ _
    have hb : Below v19.heap.size v19 v24 := by rw [← hW]; exact (Below.refl _ _).alloc (Nat.le_refl _) _
    have HGg11 := Lib.hid (show w.heap.size + 1 < v19.heap.size ∧ g12 < v19.heap.size from ⟨HK.out.lt, H12.out.lt⟩)
    have HA := Lib.hid (HA.out.below hb HA.out.lt)
    have HK := Lib.hid (HK.out.below hb HK.out.lt)
    have H12 := Lib.hid (H12.out.below hb H12.out.lt)
    have HR := Lib.hid (range_below HR.out hb HX.out.lt)
    have HX := Lib.hid (HX.out.below hb)
    have HT0 := Lib.hid (HT0.out.below hb)
    have HB := Lib.hid (HB.out.trans (hb.mono HB.out.size))
    rw [hW]
    obtain ⟨g11, hgd⟩ : ∃ gd, v19.heap.size = gd := ⟨_, rfl⟩
    rw [hgd] at H11n HGg11 ⊢
    have H11 := H11n
    clear hW hb hgd H11n
    refine hK.out _ _ ?_ (fun hHeld => ?_)
    ·exact ⟨HA.out.cell 0, HA.out.cell 1, HA.out.cell 2, HR.out⟩
    clear hK K
    try simp only [Act.put, pS]
    refine comeA 13 fun K hK => ?_
    go_simp
    refine (HDO.out _ _ _ _ HT0.out).mono ?_
    rintro e v25 ⟨q0, q1, q2, r7, rfl, ht, ⟨rc, ru, rfl⟩, hb⟩
    have HA := Lib.hid (HA.out.below hb HA.out.lt)
    have HK := Lib.hid (HK.out.below hb HK.out.lt)
    have H11 := Lib.hid (H11.out.below hb H11.out.lt)
    have H12 := Lib.hid (H12.out.below hb H12.out.lt)
    have HR := Lib.hid (range_below HR.out hb HX.out.lt)
    have HX := Lib.hid (HX.out.below hb)
    have HB := Lib.hid (HB.out.trans (hb.mono HB.out.size))
    have HT := Lib.hid ht
    clear ht hb
    go_simp
    refine hK.out _ _ ?_ (fun hHeld => ?_)
    ·exact ⟨HA.out.cell 0, HA.out.cell 1, HA.out.cell 2, HR.out⟩
    clear hK K
    try simp only [Act.put, pS]
    refine takeA 14 ?_
    try simp only [Act.put, pS]
    refine takeA 15 ?_
    try simp only [Act.put, pS]
    refine takeA 16 ?_
    try simp only [Act.put, pS]
    refine comeA 19 fun K hK => ?_
    have e0 := (H11.out.cell 0).trans rfl
    have e1 := (H11.out.cell 1).trans rfl
    have e2 := (H11.out.cell 2).trans rfl
    have f0 := H11.out.frozen 0
    have f1 := H11.out.frozen 1
    have f2 := H11.out.frozen 2
    have kf := H11.out.lt
    go_simp
    clear e0 f0 e1 f1 e2 f2 kf
    obtain ⟨x27, hX⟩ : ∃ X, (((v25.setCell ⟨g11, 0, none⟩ (.pointer q0)).setCell ⟨g11, 1, none⟩ (.pointer q1)).setCell ⟨g11, 2, none⟩ (.pointer q2)) = X := ⟨_, rfl⟩
    have H11n : Hid (Bk x27 g11 75 #[.pointer q0, .pointer q1, .pointer q2]) := by show Bk _ _ _ _; rw [← hX]; exact (((H11.out.set_ 0 _).set_ 1 _).set_ 2 _)
    have HAn : Hid (Bk x27 w.heap.size 49 #[.int .u64 (k : Int), .int .u64 a1, .int .u64 a2, .int .u64 a3]) := by have q1 := HGg11.out; have q2 := HGg12.out; have q3 := HGl.out; show Bk _ _ _ _; rw [← hX]; exact bk_set_ne (bk_set_ne (bk_set_ne (HA.out) (p := ⟨g11, 0, none⟩) (show g11 ≠ w.heap.size by omega)) (p := ⟨g11, 1, none⟩) (show g11 ≠ w.heap.size by omega)) (p := ⟨g11, 2, none⟩) (show g11 ≠ w.heap.size by omega)
    have HKn : Hid (Bk x27 (w.heap.size + 1) 47 #[.int .i64 0, .int .u64 0]) := by have q1 := HGg11.out; have q2 := HGg12.out; have q3 := HGl.out; show Bk _ _ _ _; rw [← hX]; exact bk_set_ne (bk_set_ne (bk_set_ne (HK.out) (p := ⟨g11, 0, none⟩) (show g11 ≠ (w.heap.size + 1) by omega)) (p := ⟨g11, 1, none⟩) (show g11 ≠ (w.heap.size + 1) by omega)) (p := ⟨g11, 2, none⟩) (show g11 ≠ (w.heap.size + 1) by omega)
    have H12n : Hid (Bk x27 g12 47 #[.int .i64 0, .int .u64 0]) := by have q1 := HGg11.out; have q2 := HGg12.out; have q3 := HGl.out; show Bk _ _ _ _; rw [← hX]; exact bk_set_ne (bk_set_ne (bk_set_ne (H12.out) (p := ⟨g11, 0, none⟩) (show g11 ≠ g12 by omega)) (p := ⟨g11, 1, none⟩) (show g11 ≠ g12 by omega)) (p := ⟨g11, 2, none⟩) (show g11 ≠ g12 by omega)
    have HTn : Hid (ThIn x27 x' (.pointer q0) (.pointer q1) (.pointer q2)) := by show ThIn _ _ _ _ _; rw [← hX]; exact (((HT.out.set H11.out (by decide) (by decide) (by simp) ⟨g11, 0, none⟩ rfl _).set (H11.out.set_ 0 _) (by decide) (by decide) (by simp) ⟨g11, 1, none⟩ rfl _).set ((H11.out.set_ 0 _).set_ 1 _) (by decide) (by decide) (by simp) ⟨g11, 2, none⟩ rfl _)
    have HXn : Hid (OwIn x27 g ths) := by have q1 := HGg11.out; have q2 := HGg12.out; have q3 := HGl.out; show OwIn _ _ _; rw [← hX]; exact (((HX.out.other H11.out (by decide) (by decide) (by simp) ⟨g11, 0, none⟩ rfl (by omega) _).other (H11.out.set_ 0 _) (by decide) (by decide) (by simp) ⟨g11, 1, none⟩ rfl (by omega) _).other ((H11.out.set_ 0 _).set_ 1 _) (by decide) (by decide) (by simp) ⟨g11, 2, none⟩ rfl (by omega) _)
    have HRn : Hid (x27.rangeAt g (k * 3) [.pointer b0, .pointer b1, .pointer b2]) := by have q1 := HGg11.out; have q2 := HGg12.out; have q3 := HGl.out; show World.rangeAt _ _ _ _; rw [← hX]; exact (range_set (range_set (range_set HR.out (p := ⟨g11, 0, none⟩) (show g11 ≠ g by omega) _) (p := ⟨g11, 1, none⟩) (show g11 ≠ g by omega) _) (p := ⟨g11, 2, none⟩) (show g11 ≠ g by omega) _)
    have HBn : Hid (Below w.heap.size w x27) := by have q1 := HGg11.out; have q2 := HGg12.out; have q3 := HGl.out; show Below _ _ _; rw [← hX]; exact (((HB.out.setCell (p := ⟨g11, 0, none⟩) (show w.heap.size ≤ g11 by omega) _).setCell (p := ⟨g11, 1, none⟩) (show w.heap.size ≤ g11 by omega) _).setCell (p := ⟨g11, 2, none⟩) (show w.heap.size ≤ g11 by omega) _)
    rw [hX]
    have H11 := H11n
    clear H11n
    have HA := HAn
    clear HAn
    have HK := HKn
    clear HKn
    have H12 := H12n
    clear H12n
    have HT := HTn
    clear HTn
    have HX := HXn
    clear HXn
    have HR := HRn
    clear HRn
    have HB := HBn
    clear HBn
    clear hX
    refine hK.out _ _ ?_ (fun hHeld => ?_)
    ·exact ⟨HA.out.cell 0, HA.out.cell 1, HA.out.cell 2, HR.out⟩
    clear hK K
    try simp only [Act.put, pS]
    refine comeA 20 fun K hK => ?_
    have e0 := (H12.out.cell 0).trans rfl
    have e1 := (H12.out.cell 1).trans rfl
    have f0 := H12.out.frozen 0
    have f1 := H12.out.frozen 1
    have kf := H12.out.lt
    go_simp
    clear e0 f0 e1 f1 kf
    obtain ⟨y27, hX⟩ : ∃ X, ((x27.setCell ⟨g12, 0, none⟩ (.int .i64 rc)).setCell ⟨g12, 1, none⟩ (.int .u64 ru)) = X := ⟨_, rfl⟩
    have H12n : Hid (Bk y27 g12 47 #[.int .i64 rc, .int .u64 ru]) := by show Bk _ _ _ _; rw [← hX]; exact ((H12.out.set_ 0 _).set_ 1 _)
    have HAn : Hid (Bk y27 w.heap.size 49 #[.int .u64 (k : Int), .int .u64 a1, .int .u64 a2, .int .u64 a3]) := by have q1 := HGg11.out; have q2 := HGg12.out; have q3 := HGl.out; show Bk _ _ _ _; rw [← hX]; exact bk_set_ne (bk_set_ne (HA.out) (p := ⟨g12, 0, none⟩) (show g12 ≠ w.heap.size by omega)) (p := ⟨g12, 1, none⟩) (show g12 ≠ w.heap.size by omega)
    have HKn : Hid (Bk y27 (w.heap.size + 1) 47 #[.int .i64 0, .int .u64 0]) := by have q1 := HGg11.out; have q2 := HGg12.out; have q3 := HGl.out; show Bk _ _ _ _; rw [← hX]; exact bk_set_ne (bk_set_ne (HK.out) (p := ⟨g12, 0, none⟩) (show g12 ≠ (w.heap.size + 1) by omega)) (p := ⟨g12, 1, none⟩) (show g12 ≠ (w.heap.size + 1) by omega)
    have H11n : Hid (Bk y27 g11 75 #[.pointer q0, .pointer q1, .pointer q2]) := by have q1 := HGg11.out; have q2 := HGg12.out; have q3 := HGl.out; show Bk _ _ _ _; rw [← hX]; exact bk_set_ne (bk_set_ne (H11.out) (p := ⟨g12, 0, none⟩) (show g12 ≠ g11 by omega)) (p := ⟨g12, 1, none⟩) (show g12 ≠ g11 by omega)
    have HTn : Hid (ThIn y27 x' (.pointer q0) (.pointer q1) (.pointer q2)) := by show ThIn _ _ _ _ _; rw [← hX]; exact ((HT.out.set H12.out (by decide) (by decide) (by simp) ⟨g12, 0, none⟩ rfl _).set (H12.out.set_ 0 _) (by decide) (by decide) (by simp) ⟨g12, 1, none⟩ rfl _)
    have HXn : Hid (OwIn y27 g ths) := by have q1 := HGg11.out; have q2 := HGg12.out; have q3 := HGl.out; show OwIn _ _ _; rw [← hX]; exact ((HX.out.other H12.out (by decide) (by decide) (by simp) ⟨g12, 0, none⟩ rfl (by omega) _).other (H12.out.set_ 0 _) (by decide) (by decide) (by simp) ⟨g12, 1, none⟩ rfl (by omega) _)
    have HRn : Hid (y27.rangeAt g (k * 3) [.pointer b0, .pointer b1, .pointer b2]) := by have q1 := HGg11.out; have q2 := HGg12.out; have q3 := HGl.out; show World.rangeAt _ _ _ _; rw [← hX]; exact (range_set (range_set HR.out (p := ⟨g12, 0, none⟩) (show g12 ≠ g by omega) _) (p := ⟨g12, 1, none⟩) (show g12 ≠ g by omega) _)
    have HBn : Hid (Below w.heap.size w y27) := by have q1 := HGg11.out; have q2 := HGg12.out; have q3 := HGl.out; show Below _ _ _; rw [← hX]; exact ((HB.out.setCell (p := ⟨g12, 0, none⟩) (show w.heap.size ≤ g12 by omega) _).setCell (p := ⟨g12, 1, none⟩) (show w.heap.size ≤ g12 by omega) _)
    rw [hX]
    have H12 := H12n
    clear H12n
    have HA := HAn
    clear HAn
    have HK := HKn
    clear HKn
    have H11 := H11n
    clear H11n
    have HT := HTn
    clear HTn
    have HX := HXn
    clear HXn
    have HR := HRn
    clear HRn
    have HB := HBn
    clear HBn
    clear hX
    refine hK.out _ _ ?_ (fun hHeld => ?_)
    ·exact ⟨HA.out.cell 0, HA.out.cell 1, HA.out.cell 2, HR.out⟩
    clear hK K
    try simp only [Act.put, pS]
    refine wpAnyH_done (by kernel_rfl) ?_ _
    try simp only [Act.put, pS]
    go_wp2_with fail
    go_meet
    exact ⟨g11, g12, q0, q1, q2, rc, ru, rfl, rfl, H11.out, H12.out, HT.out, HX.out, HA.out, HK.out, HB.out, by have q1 := HGg11.out; have q2 := HGg12.out; have q3 := HGl.out; exact (show _ ∧ _ from by constructor <;> omega)⟩
 obtain ⟨g11, g12, q0, q1, q2, rc, ru, rfl, rfl, H11, H12, HT, HX, HA, HK, HB, HG⟩ := hcut
 clear d0 d1 d2 HT0 HR
 go_upto_region 8 with fail
 obtain ⟨V8, hV8⟩ : ∃ V8, wc.drew = V8 := ⟨_, rfl⟩
 refine wp_region_held_drew (S := (fun w' => w'.cell? ⟨w.heap.size, 0, none⟩ = some (.int .u64 (k : Int)) ∧ w'.rangeAt g11 0 (#[.pointer q0, .pointer q1, .pointer q2] : Array Value).toList)) (by kernel_rfl) ?_ (fun hHeld => ?_)
 ·exact ⟨HA.out.cell 0, H11.out.rng⟩
 refine takeA 0 ?_
 try simp only [Act.put, pS]
 refine takeA 1 ?_
 try simp only [Act.put, pS]
 refine takeA 2 ?_
 try simp only [Act.put, pS]
 refine loadA 3 #[.pointer q0, .pointer q1, .pointer q2] Tryz.underlying75 rfl (by kernel_rfl) ?_ ?_
 ·(intro w hSw; exact hSw.2)
 try simp only [Act.put, pS]
 refine takeA 4 ?_
 try simp only [Act.put, pS]
 refine takeA 5 ?_
 try simp only [Act.put, pS]
 refine takeA 6 ?_
 try simp only [Act.put, pS]
 have H12 : Hid (Bk V8 g12 47 #[.int .i64 rc, .int .u64 ru]) := by show Bk _ _ _ _; rw [← hV8]; exact H12.out
 have H11 : Hid (Bk V8 g11 75 #[.pointer q0, .pointer q1, .pointer q2]) := by show Bk _ _ _ _; rw [← hV8]; exact H11.out
 have HA : Hid (Bk V8 w.heap.size 49 #[.int .u64 (k : Int), .int .u64 a1, .int .u64 a2, .int .u64 a3]) := by show Bk _ _ _ _; rw [← hV8]; exact HA.out
 have HK : Hid (Bk V8 (w.heap.size + 1) 47 #[.int .i64 0, .int .u64 0]) := by show Bk _ _ _ _; rw [← hV8]; exact HK.out
 have HX : Hid (OwIn V8 g ths) := by show OwIn _ _ _; rw [← hV8]; exact HX.out.below (Below.refl _ _).drew
 have HT : Hid (ThIn V8 x' (.pointer q0) (.pointer q1) (.pointer q2)) := by show ThIn _ _ _ _ _; rw [← hV8]; exact HT.out.below (Below.refl _ _).drew
 have HB : Hid (Below w.heap.size w V8) := by show Below _ _ _; rw [← hV8]; exact HB.out.drew
 rw [hV8] at hHeld ⊢
 clear hV8
 refine comeA 7 fun K hK => ?_
 obtain ⟨⟨z0, c0⟩, ⟨z1, c1⟩, ⟨z2, c2⟩, m0, m1, m2⟩ := own_cells HX.out hk
 go_simp
 clear c0 c1 c2 m0 m1 m2 z0 z1 z2
 obtain ⟨V9, hV9⟩ : ∃ V9, (((V8.setCell ⟨g, k * 3, none⟩ (.pointer q0)).setCell ⟨g, k * 3 + 1, none⟩ (.pointer q1)).setCell ⟨g, k * 3 + 2, none⟩ (.pointer q2)) = V9 := ⟨_, rfl⟩
 have HX9 : Hid (OwIn V9 g (ths.set k x')) := by show OwIn _ _ _; rw [← hV9]; exact HX.out.put hk HT.out
 have H12n : Hid (Bk V9 g12 47 #[.int .i64 rc, .int .u64 ru]) := by have q1 := HG.out; have q3 := HGl.out; show Bk _ _ _ _; rw [← hV9]; exact bk_set_ne (bk_set_ne (bk_set_ne (H12.out) (p := ⟨g, k * 3, none⟩) (show g ≠ g12 by omega)) (p := ⟨g, k * 3 + 1, none⟩) (show g ≠ g12 by omega)) (p := ⟨g, k * 3 + 2, none⟩) (show g ≠ g12 by omega)
 have HAn : Hid (Bk V9 w.heap.size 49 #[.int .u64 (k : Int), .int .u64 a1, .int .u64 a2, .int .u64 a3]) := by have q1 := HG.out; have q3 := HGl.out; show Bk _ _ _ _; rw [← hV9]; exact bk_set_ne (bk_set_ne (bk_set_ne (HA.out) (p := ⟨g, k * 3, none⟩) (show g ≠ w.heap.size by omega)) (p := ⟨g, k * 3 + 1, none⟩) (show g ≠ w.heap.size by omega)) (p := ⟨g, k * 3 + 2, none⟩) (show g ≠ w.heap.size by omega)
 have HKn : Hid (Bk V9 (w.heap.size + 1) 47 #[.int .i64 0, .int .u64 0]) := by have q1 := HG.out; have q3 := HGl.out; show Bk _ _ _ _; rw [← hV9]; exact bk_set_ne (bk_set_ne (bk_set_ne (HK.out) (p := ⟨g, k * 3, none⟩) (show g ≠ (w.heap.size + 1) by omega)) (p := ⟨g, k * 3 + 1, none⟩) (show g ≠ (w.heap.size + 1) by omega)) (p := ⟨g, k * 3 + 2, none⟩) (show g ≠ (w.heap.size + 1) by omega)
 have H11n : Hid (Bk V9 g11 75 #[.pointer q0, .pointer q1, .pointer q2]) := by have q1 := HG.out; have q3 := HGl.out; show Bk _ _ _ _; rw [← hV9]; exact bk_set_ne (bk_set_ne (bk_set_ne (H11.out) (p := ⟨g, k * 3, none⟩) (show g ≠ g11 by omega)) (p := ⟨g, k * 3 + 1, none⟩) (show g ≠ g11 by omega)) (p := ⟨g, k * 3 + 2, none⟩) (show g ≠ g11 by omega)
 have HG9 : Hid (w.grownBy V9 (some g)) := by show World.grownBy _ _ _; rw [← hV9]; exact ((grow_set (grow_set (grow_set (below_grow HB.out (some g)) (p := ⟨g, k * 3, none⟩) rfl _) (p := ⟨g, k * 3 + 1, none⟩) rfl _) (p := ⟨g, k * 3 + 2, none⟩) rfl _))
 rw [hV9]
 clear hV9
 refine hK.out _ _ ?_ (fun hHeld => ?_)
 ·exact ⟨HAn.out.cell 0, H11n.out.rng⟩
 clear hK K hHeld
 try simp only [Act.put, pS]
 refine wpAnyH_done (by kernel_rfl) ?_ _
 try simp only [Act.put, pS]
 go_upto_region 9 with fail
 have e0 := (HKn.out.cell 0).trans rfl
 have e1 := (HKn.out.cell 1).trans rfl
 have f0 := HKn.out.frozen 0
 have f1 := HKn.out.frozen 1
 have kf := HKn.out.lt
 have r0 := (H12n.out.cell 0).trans rfl
 have r1 := (H12n.out.cell 1).trans rfl
 have kg := H12n.out.lt
 have HK2 : Hid (Bk ((V9.setCell ⟨w.heap.size + 1, 0, none⟩ (.int .i64 rc)).setCell ⟨w.heap.size + 1, 1, none⟩ (.int .u64 ru)) (w.heap.size + 1) 47 #[.int .i64 rc, .int .u64 ru]) := by show Bk _ _ _ _; exact (HKn.out.set_ 0 _).set_ 1 _
 have HX2 : Hid (OwIn ((V9.setCell ⟨w.heap.size + 1, 0, none⟩ (.int .i64 rc)).setCell ⟨w.heap.size + 1, 1, none⟩ (.int .u64 ru)) g (ths.set k x')) := by have q3 := HGl.out; show OwIn _ _ _; exact ((HX9.out.other HKn.out (by decide) (by decide) (by simp) ⟨w.heap.size + 1, 0, none⟩ rfl (by omega) _).other (HKn.out.set_ 0 _) (by decide) (by decide) (by simp) ⟨w.heap.size + 1, 1, none⟩ rfl (by omega) _)
 have HG2 : Hid (w.grownBy ((V9.setCell ⟨w.heap.size + 1, 0, none⟩ (.int .i64 rc)).setCell ⟨w.heap.size + 1, 1, none⟩ (.int .u64 ru)) (some g)) := by show World.grownBy _ _ _; exact grow_new (grow_new HG9.out (p := ⟨w.heap.size + 1, 0, none⟩) (Nat.le_succ _) _) (p := ⟨w.heap.size + 1, 1, none⟩) (Nat.le_succ _) _
 go_wp2_with ((with_reducible show bodyPost _ _ _ _ _ _); refine bodyPost_ret (results_c1 rfl _ _ (w.heap.size + 1) 47 #[.int .i64 rc, .int .u64 ru] _ (by rfl) HK2.out Tryz.underlying47 rfl (by kernel_rfl)) rfl ?_; exact doPost_mk _ _ HX2.out HG2.out)
end Go.Proofs.YtiiaingepbkikaaGreatDoor
