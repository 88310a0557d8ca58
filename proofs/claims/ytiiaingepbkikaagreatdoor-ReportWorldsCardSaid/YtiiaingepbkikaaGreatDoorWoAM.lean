import Derived.Test.YtiiaingepbkikaaGreatDoorWoAK
import Derived.Test.YtiiaingepbkikaaGreatDoorWoAL
import Derived.Test.YtiiaingepbkikaaGreatDoorWoAH
namespace Go.Proofs.YtiiaingepbkikaaGreatDoor
open Go.RowKit
set_option linter.unusedVariables false
set_option linter.unusedSimpArgs false
theorem takeT {l : List (Int × Int)} {a : Int} {i : Nat} {t : Bool} (h : AtK (l.map (·.1)) a i t) : l.takeWhile (fun x => decide (x.1 < a)) = l.take i ∧ l.dropWhile (fun x => decide (x.1 < a)) = l.drop i := by
 have h1 : (l.takeWhile (fun x => decide (x.1 < a))).length = i := by
  have h2 := congrArg List.length (map_take a l)
  rw [h.take, List.length_map, List.length_take, List.length_map] at h2
  have := h.le
  rw [List.length_map] at this
  omega
 have h3 : l.takeWhile (fun x => decide (x.1 < a)) = l.take i := by rw [← h1]; exact List.prefix_iff_eq_take.1 (List.takeWhile_prefix _)
 refine ⟨h3, ?_⟩
 have h4 := List.takeWhile_append_dropWhile (p := fun x : Int × Int => decide (x.1 < a)) (l := l)
 rw [h3] at h4
 have h5 := (List.take_append_drop i l).symm
 exact (List.append_cancel_left (h4.trans h5))
theorem putT_new {l : List (Int × Int)} {a v : Int} {i : Nat} {t : Bool} (h : AtK (l.map (·.1)) a i t) (hn : a ∉ l.map (·.1)) : insT (a, v) (delT a l) = l.take i ++ (a, v) :: l.drop i := by
 rw [delT_not hn]
 unfold insT
 rw [(takeT h).1, (takeT h).2]
theorem delT_at {l : List (Int × Int)} {a : Int} {i : Nat} {x : Int × Int} (hu : Up (l.map (·.1))) (hi : l[i]? = some x) (hx : x.1 = a) : delT a l = l.take i ++ l.drop (i + 1) := by
 have e : l = l.take i ++ x :: l.drop (i + 1) := by
  obtain ⟨hlt, rfl⟩ := List.getElem?_eq_some_iff.1 hi
  rw [List.getElem_cons_drop]
  exact (List.take_append_drop i l).symm
 have hu' := hu
 rw [e, List.map_append, List.map_cons, hx] at hu'
 obtain ⟨h1, h2, h3⟩ := List.pairwise_append.1 hu'
 have h4 := (List.pairwise_cons.1 h2).1
 unfold delT
 conv => lhs; rw [e]
 rw [List.filter_append, List.filter_cons]
 simp only [hx, ne_eq, not_true_eq_false, decide_false, Bool.false_eq_true, if_false]
 rw [List.filter_eq_self.2 (fun y hy => by have := h3 y.1 (List.mem_map.2 ⟨y, hy, rfl⟩) a (List.mem_cons_self ..); simp only [decide_eq_true_eq]; omega), List.filter_eq_self.2 (fun y hy => by have := h4 y.1 (List.mem_map.2 ⟨y, hy, rfl⟩); simp only [decide_eq_true_eq]; omega)]
theorem takeW_mem {α : Type} {p : α → Bool} (l : List α) {y : α} (hy : y ∈ l.takeWhile p) : p y = true := by
 induction l with
 | nil => simp at hy
 | cons z l ih =>
   rw [List.takeWhile_cons] at hy
   split at hy
   ·next hz =>
    rcases List.mem_cons.1 hy with rfl | hy
    ·exact hz
    ·exact ih hy
   ·simp at hy
theorem putT_old {l : List (Int × Int)} {a v : Int} {i : Nat} {t : Bool} {x : Int × Int} (h : AtK (l.map (·.1)) a i t) (hu : Up (l.map (·.1))) (hi : l[i]? = some x) (hx : x.1 = a) : insT (a, v) (delT a l) = l.take i ++ (a, v) :: l.drop (i + 1) := by
 have hlt := (List.getElem?_eq_some_iff.1 hi).1
 have hl : (l.take i).length = i := by rw [List.length_take]; omega
 have htk := (takeT h).1
 have hdr := (takeT h).2
 rw [delT_at hu hi hx]
 have e : l.drop i = x :: l.drop (i + 1) := by
  obtain ⟨hlt, rfl⟩ := List.getElem?_eq_some_iff.1 hi
  exact List.drop_eq_getElem_cons hlt
 have h1 : ∀ y ∈ l.take i, decide (y.1 < a) = true := fun y hy => by
  rw [← htk] at hy
  exact takeW_mem l hy
 have h2 : ∀ y ∈ l.drop (i + 1), decide (y.1 < a) = false := by
  intro y hy
  have hu' := hu
  rw [← List.take_append_drop i l, e, List.map_append, List.map_cons, hx] at hu'
  have h4 := (List.pairwise_cons.1 (List.pairwise_append.1 hu').2.1).1 y.1 (List.mem_map.2 ⟨y, hy, rfl⟩)
  simp only [decide_eq_false_iff_not]; omega
 unfold insT
 rw [List.takeWhile_append_of_pos h1, List.dropWhile_append_of_pos h1]
 cases hd : l.drop (i + 1) with
 | nil => simp
 | cons y r =>
   have := h2 y (by rw [hd]; exact List.mem_cons_self ..)
   simp [List.takeWhile_cons, List.dropWhile_cons, this]
theorem pCells_set (l : List (Int × Int)) (i : Nat) (a v : Int) (hi : i < l.length) : ((pCells l).set (i * 2) (.int .u64 a)).set (i * 2 + 1) (.int .u64 v) = pCells (l.take i ++ (a, v) :: l.drop (i + 1)) := by
 induction l generalizing i with
 | nil => simp at hi
 | cons p l ih =>
   have e : pCells (p :: l) = Value.int .u64 p.1 :: .int .u64 p.2 :: pCells l := rfl
   rcases i with _ | i
   ·rw [e]; rfl
   ·rw [e, show (i + 1) * 2 = i * 2 + 1 + 1 by omega, List.set_cons_succ, List.set_cons_succ, List.set_cons_succ, List.set_cons_succ, ih i (by simpa using hi)]
    rfl
theorem row_set {cur : Array Value} {l : List (Int × Int)} {n i : Nat} (a v : Int) (hx : cur.toList.take (n * 2) = pCells l) (hi : i < l.length) : ((cur.setIfInBounds (i * 2) (.int .u64 a)).setIfInBounds (i * 2 + 1) (.int .u64 v)).toList.take (n * 2) = pCells (l.take i ++ (a, v) :: l.drop (i + 1)) := by
 rw [Array.toList_setIfInBounds, Array.toList_setIfInBounds, List.take_set, List.take_set, hx]
 exact pCells_set l i a v hi
theorem own_set_ne {w : World} {base : Nat} {e : TypeId} {size n : Nat} {v : Value} {xs : List Value} (h : w.ownsRow base e size v n xs) {p : Addr} (hp : v.ownBlock ≠ some p.block) (u : Value) : (w.setCell p u).ownsRow base e size v n xs :=
 h.kept (row := some p.block) (grown_setCell w p u) (by
  cases hv : v.ownBlock with
  | none => exact .inl rfl
  | some b => exact .inr (fun e => hp (by rw [hv, e])))
theorem t_made {V : World} {M g b n c : Nat} {A : Option Addr} {cap : Int} {l : List (Int × Int)} {t : TypeId} (ho : V.ownsRow M 112 2 (.slice A n c) n (pCells l)) (hs : SlV A n c) (hn : Bk V b t #[.int .u64 cap, .slice A n c]) (hg : g < M) (hb : M ≤ b) (x y : Value) :
 TIn ((V.setCell ⟨g, 0, none⟩ x).setCell ⟨g, 1, none⟩ y) (.pointer (some ⟨b, 0, none⟩)) (some (cap, l)) := by
 have h1 := own_set (own_set ho (p := ⟨g, 0, none⟩) hg x) (p := ⟨g, 1, none⟩) hg y
 have h2 := bk_set_ne (bk_set_ne hn (p := ⟨g, 0, none⟩) (u := x) (show g ≠ b by omega)) (p := ⟨g, 1, none⟩) (u := y) (show g ≠ b by omega)
 exact ⟨b, A, n, c, rfl, hs, h2.lt, h2.cell 0, h2.cell 1, Rd.of_own' h1, own_int h1⟩
theorem pCells_take (l : List (Int × Int)) (k : Nat) : (pCells l).take (k * 2) = pCells (l.take k) := by
 induction l generalizing k with
 | nil => simp [pCells]
 | cons p l ih =>
   rcases k with _ | k
   ·simp [pCells]
   ·have e : pCells (p :: l) = Value.int .u64 p.1 :: .int .u64 p.2 :: pCells l := rfl
    rw [e, show (k + 1) * 2 = k * 2 + 1 + 1 by omega, List.take_succ_cons, List.take_succ_cons, ih]; rfl
theorem pCells_drop (l : List (Int × Int)) (k : Nat) : (pCells l).drop (k * 2) = pCells (l.drop k) := by
 induction l generalizing k with
 | nil => simp [pCells]
 | cons p l ih =>
   rcases k with _ | k
   ·simp [pCells]
   ·have e : pCells (p :: l) = Value.int .u64 p.1 :: .int .u64 p.2 :: pCells l := rfl
    rw [e, show (k + 1) * 2 = k * 2 + 1 + 1 by omega, List.drop_succ_cons, List.drop_succ_cons, ih]; rfl
set_option maxRecDepth 100000 in
set_option maxHeartbeats 8000000 in
theorem tkey_put (cap : Int) (l : List (Int × Int)) (p : Value) (a v : Int) (w : World) (hq : TIn w p (some (cap, l))) (hok : TOk 100 (some (cap, l))) (ha : U64' a) (hv : U64' v) :
 Calls Tryz.prog 70 #[p, .string ⟨#[112, 117, 116]⟩, .agg #[.int .u64 a, .int .u64 v]] w (DoesT w (tS 1 a v cap l)) := by
 have HQ := Lib.hid hq
 have HA := Lib.hid ha
 have HV := Lib.hid hv
 obtain ⟨b, A, n, c, hp0, hc, hb, h0, h1, hr, _⟩ := hq
 subst hp0
 have HR := Lib.hid hr
 have HC := Lib.hid hc
 have HL := Lib.hid hr.pairLen
 obtain ⟨⟨hc0, hc1⟩, hok2, hl, hup⟩ := hok
 have HM := Lib.hid hok2
 have HU := Lib.hid hup
 have HLm : Hid ((l.map (·.1)).length = n) := by show _ = _; rw [List.length_map, HL.out]
 have hn : n ≤ 100 := by rw [← HL.out]; exact hl
 clear hr hc hok2 hl ha hv hup
 obtain ⟨W1, hW1⟩ : ∃ W1, (w.alloc (.cells #[.int .u64 a, .int .u64 v] 112)).alloc (.cells #[.int .i64 0, .int .u64 0] 47) = W1 := ⟨_, rfl⟩
 have HP : Hid (Bk W1 w.heap.size 112 #[.int .u64 a, .int .u64 v]) := by show Bk _ _ _ _; rw [← hW1]; exact (two_blocks _ _ _ _ _).1
 have HK : Hid (Bk W1 (w.heap.size + 1) 47 #[.int .i64 0, .int .u64 0]) := by show Bk _ _ _ _; rw [← hW1]; exact (two_blocks _ _ _ _ _).2.1
 have HB : Hid (Below w.heap.size w W1) := by show Below _ _ _; rw [← hW1]; exact (two_blocks _ _ _ _ _).2.2.1
 have HW1 := Lib.hid hW1
 clear hW1
 go_enter Tryz.func70, Tryz.ntmps70
 go_upto_region 1 with fail
 rw [HW1.out]
 clear HW1
 refine wp_region_held_drew (S := (fun w' => w'.cell? ⟨b, 0, none⟩ = some (.int .u64 cap) ∧ w'.cell? ⟨b, 1, none⟩ = some (.slice A n c) ∧ w'.rangeAt w.heap.size 0 [.int .u64 a, .int .u64 v])) (by kernel_rfl) ?_ (fun hHeld => ?_)
 ·exact ⟨(HB.out.cell (p := ⟨b, 0, none⟩) hb).trans h0, (HB.out.cell (p := ⟨b, 1, none⟩) hb).trans h1, HP.out.rng⟩
 refine takeA 0 ?_
 try simp only [Act.put, pS]
 refine takeA 1 ?_
 try simp only [Act.put, pS]
 refine takeA 2 ?_
 try simp only [Act.put, pS]
 refine takeA 3 ?_
 try simp only [Act.put, pS]
 refine loadA 4 #[.int .u64 a, .int .u64 v] Tryz.underlying112 rfl (by kernel_rfl) ?_ ?_
 ·(intro w hSw; exact hSw.2.2)
 try simp only [Act.put, pS]
 obtain ⟨V0, hV0⟩ : ∃ V0, W1.drew = V0 := ⟨_, rfl⟩
 have HK : Hid (Bk V0 (w.heap.size + 1) 47 #[.int .i64 0, .int .u64 0]) := by show Bk _ _ _ _; rw [← hV0]; exact HK.out
 have HP : Hid (Bk V0 w.heap.size 112 #[.int .u64 a, .int .u64 v]) := by show Bk _ _ _ _; rw [← hV0]; exact HP.out
 have HB : Hid (Below w.heap.size w V0) := by show Below _ _ _; rw [← hV0]; exact HB.out.drew
 rw [hV0] at hHeld ⊢
 clear hV0
 refine comeA 5 fun K hK => ?_
 go_simp
 refine (tsearch_any l A n c a v V0 ((HR.out.below HB.out).more HB.out.size) HU.out (by omega)).mono ?_
 rintro e w1 ⟨⟨i, there, rfl, hat⟩, hb1⟩
 have HB := Lib.hid (HB.out.trans (hb1.mono HB.out.size))
 have HK := Lib.hid (HK.out.below hb1 HK.out.lt)
 have HP := Lib.hid (HP.out.below hb1 HP.out.lt)
 have HAt := Lib.hid hat
 have hil := hat.le
 rw [HLm.out] at hil
 clear hat hb1
 go_simp
 refine hK.out _ _ ?_ (fun hHeld => ?_)
 ·exact ⟨(HB.out.cell (p := ⟨b, 0, none⟩) hb).trans h0, (HB.out.cell (p := ⟨b, 1, none⟩) hb).trans h1, HP.out.rng⟩
 clear hK K
 try simp only [Act.put, pS]
 refine takeA 6 ?_
 try simp only [Act.put, pS]
 refine takeA 7 ?_
 try simp only [Act.put, pS]
 refine takeA 8 ?_
 try simp only [Act.put, pS]
 refine takeA 9 ?_
 try simp only [Act.put, pS]
 refine takeA 10 ?_
 try simp only [Act.put, pS]
 refine wpAnyH_done (by kernel_rfl) ?_ _
 try simp only [Act.put, pS]
 clear hHeld
 have HMs : Hid (w.heap.size + 1 < w1.heap.size) := HK.out.lt
 go_wp2_with fail
 refine wp_region_held_drew (S := (fun w' => w'.cell? ⟨b, 0, none⟩ = some (.int .u64 cap) ∧ w'.cell? ⟨b, 1, none⟩ = some (.slice A n c) ∧ w'.rangeAt w.heap.size 0 [.int .u64 a, .int .u64 v])) (by kernel_rfl) ?_ (fun hHeld => ?_)
 ·exact ⟨(HB.out.cell (p := ⟨b, 0, none⟩) hb).trans h0, (HB.out.cell (p := ⟨b, 1, none⟩) hb).trans h1, HP.out.rng⟩
 refine takeA 0 ?_
 try simp only [Act.put, pS]
 refine takeA 1 ?_
 try simp only [Act.put, pS]
 refine takeA 2 ?_
 try simp only [Act.put, pS]
 refine takeA 3 ?_
 try simp only [Act.put, pS]
 refine takeA 4 ?_
 try simp only [Act.put, pS]
 refine takeA 5 ?_
 try simp only [Act.put, pS]
 refine takeA 6 ?_
 try simp only [Act.put, pS]
 refine takeA 7 ?_
 try simp only [Act.put, pS]
 obtain ⟨V1, hV0⟩ : ∃ V0, w1.drew = V0 := ⟨_, rfl⟩
 have HK : Hid (Bk V1 (w.heap.size + 1) 47 #[.int .i64 0, .int .u64 0]) := by show Bk _ _ _ _; rw [← hV0]; exact HK.out
 have HP : Hid (Bk V1 w.heap.size 112 #[.int .u64 a, .int .u64 v]) := by show Bk _ _ _ _; rw [← hV0]; exact HP.out
 have HB : Hid (Below w.heap.size w V1) := by show Below _ _ _; rw [← hV0]; exact HB.out.drew
 rw [hV0] at hHeld ⊢
 clear hV0
 have HRv := Lib.hid ((HR.out.below HB.out).more HB.out.size)
 have HM1 : Hid (w.heap.size + 1 < V1.heap.size) := HK.out.lt
 refine comeA 8 fun K hK => ?_
 go_simp
 refine (cloneP_any l A n c _ HRv.out HC.out (by omega)).mono ?_
 rintro e w2 ⟨v1, rfl, hown, hb2⟩
 have HO := Lib.hid hown
 have HB := Lib.hid (HB.out.trans (hb2.mono HB.out.size))
 have HK := Lib.hid (HK.out.below hb2 HK.out.lt)
 have HP := Lib.hid (HP.out.below hb2 HP.out.lt)
 have HVs : Hid (V1.heap.size ≤ w2.heap.size) := hb2.size
 clear hown hb2
 obtain ⟨A5, c5, rfl, hc5, _⟩ := own_slv HO.out
 have HC5 := Lib.hid hc5
 clear hc5
 go_simp
 refine hK.out _ _ ?_ (fun hHeld => ?_)
 ·exact ⟨(HB.out.cell (p := ⟨b, 0, none⟩) hb).trans h0, (HB.out.cell (p := ⟨b, 1, none⟩) hb).trans h1, HP.out.rng⟩
 clear hK K
 try simp only [Act.put, pS]
 refine takeA 9 ?_
 try simp only [Act.put, pS]
 refine comeA 10 fun K hK => ?_
 go_simp
 obtain ⟨W3, hW3⟩ : ∃ W7, w2.alloc (.cells #[.int .u64 cap, .slice A5 n c5] 116) = W7 := ⟨_, rfl⟩
 have hb3 : Below w2.heap.size w2 W3 := by rw [← hW3]; exact (Below.refl _ _).alloc (Nat.le_refl _) _
 have HN : Hid (Bk W3 w2.heap.size 116 #[.int .u64 cap, .slice A5 n c5]) := by show Bk _ _ _ _; rw [← hW3]; exact Bk.new _ _ _
 have HO := Lib.hid (own_below HO.out hb3)
 have HB := Lib.hid (HB.out.trans (hb3.mono HB.out.size))
 have HK := Lib.hid (HK.out.below hb3 HK.out.lt)
 have HP := Lib.hid (HP.out.below hb3 HP.out.lt)
 rw [hW3]
 clear hW3 hb3
 obtain ⟨gN, hgN⟩ : ∃ gN, w2.heap.size = gN := ⟨_, rfl⟩
 rw [hgN] at HN HVs ⊢
 clear hgN
 refine hK.out _ _ ?_ (fun hHeld => ?_)
 ·exact ⟨(HB.out.cell (p := ⟨b, 0, none⟩) hb).trans h0, (HB.out.cell (p := ⟨b, 1, none⟩) hb).trans h1, HP.out.rng⟩
 clear hK K
 try simp only [Act.put, pS]
 refine takeA 11 ?_
 try simp only [Act.put, pS]
 refine wpAnyH_done (by kernel_rfl) ?_ _
 try simp only [Act.put, pS]
 clear hHeld
 have kc0 := HK.out.cell 0
 have kc1 := HK.out.cell 1
 have kf := HK.out.lt
 have kg0 := HK.out.frozen 0
 have kg1 := HK.out.frozen 1
 have hsz := HB.out.size
 have q0 : W3.cell? ⟨b, 0, none⟩ = some (.int .u64 cap) := (HB.out.cell (p := ⟨b, 0, none⟩) hb).trans h0
 have q1 : W3.cell? ⟨b, 1, none⟩ = some (.slice A n c) := (HB.out.cell (p := ⟨b, 1, none⟩) hb).trans h1
 cases there
 ·have hna : a ∉ l.map (·.1) := fun h => by have := HAt.out.is.2 h; simp at this
  have HNa := Lib.hid hna
  clear hna
  by_cases hfull : cap ≤ (n : Int)
  ·have hq' : tS 1 a v cap l = some (cap, l) := by unfold tS; rw [if_pos rfl, if_neg HNa.out, if_pos (by rw [HL.out]; exact hfull)]
   have HE := Lib.hid hq'
   clear hq'
   have hdf : decide (cap ≤ (n : Int)) = true := decide_eq_true hfull
   have hwn : IntKind.u64.wrap (n : Int) = (n : Int) := by rw [IntKind.wrap_u64]; omega
   go_wp2_with fail
   refine wp_region_held_drew (S := (fun w' => w'.cell? ⟨b, 0, none⟩ = some (.int .u64 cap) ∧ w'.cell? ⟨b, 1, none⟩ = some (.slice A n c))) (by kernel_rfl) ?_ (fun hHeld => ?_)
   ·exact ⟨q0, q1⟩
   refine takeA 0 ?_
   try simp only [Act.put, pS]
   refine takeA 1 ?_
   try simp only [Act.put, pS]
   refine takeA 2 ?_
   try simp only [Act.put, pS]
   refine takeA 3 ?_
   try simp only [Act.put, pS]
   refine takeA 4 ?_
   try simp only [Act.put, pS]
   refine takeA 5 ?_
   try simp only [Act.put, pS]
   refine takeA 6 ?_
   try simp only [Act.put, pS]
   refine takeA 7 ?_
   try simp only [Act.put, pS]
   refine takeA 8 ?_
   try simp only [Act.put, pS]
   refine takeA 9 ?_
   try simp only [Act.put, pS]
   refine takeA 10 ?_
   try simp only [Act.put, pS]
   refine takeA 11 ?_
   try simp only [Act.put, pS]
   obtain ⟨W4, hV0⟩ : ∃ V0, W3.drew = V0 := ⟨_, rfl⟩
   have HK : Hid (Bk W4 (w.heap.size + 1) 47 #[.int .i64 0, .int .u64 0]) := by show Bk _ _ _ _; rw [← hV0]; exact HK.out
   have HP : Hid (Bk W4 w.heap.size 112 #[.int .u64 a, .int .u64 v]) := by show Bk _ _ _ _; rw [← hV0]; exact HP.out
   have HB : Hid (Below w.heap.size w W4) := by show Below _ _ _; rw [← hV0]; exact HB.out.drew
   have HN : Hid (Bk W4 gN 116 #[.int .u64 cap, .slice A5 n c5]) := by show Bk _ _ _ _; rw [← hV0]; exact HN.out
   have HO : Hid (W4.ownsRow V1.heap.size 112 2 (.slice A5 n c5) n (pCells l)) := by show World.ownsRow _ _ _ _ _ _ _; rw [← hV0]; exact own_drew HO.out
   rw [hV0] at hHeld ⊢
   clear hV0
   clear q0 q1 kc0 kc1 kf kg0 kg1 hsz
   refine wpAnyH_done (by kernel_rfl) ?_ _
   try simp only [Act.put, pS]
   clear hHeld
   have kc0 := HK.out.cell 0
   have kc1 := HK.out.cell 1
   have kf := HK.out.lt
   have kg0 := HK.out.frozen 0
   have kg1 := HK.out.frozen 1
   have hsz := HB.out.size
   go_wp2
   refine bodyPost_ret (results_tc rfl _ _ (w.heap.size + 1) 47 _ _ (by rfl) (((HK.out.set_ 0 _).set_ 1 _).alloc _) Tryz.underlying47 rfl info_res) rfl ?_
   exact ⟨.pointer (some ⟨b, 0, none⟩), _, rfl, (by rw [HE.out]; exact HQ.out.below (((HB.out.setCell (Nat.le_succ _) _).setCell (Nat.le_succ _) _).alloc (by simp; omega) _)), ⟨_, rfl⟩, ⟨_, _, rfl⟩, ((HB.out.setCell (Nat.le_succ _) _).setCell (Nat.le_succ _) _).alloc (by simp; omega) _⟩
  ·have hq' : tS 1 a v cap l = some (cap, l.take i ++ (a, v) :: l.drop i) := by unfold tS; rw [if_pos rfl, if_neg HNa.out, if_neg (by rw [HL.out]; exact hfull), putT_new HAt.out HNa.out]
   have HE := Lib.hid hq'
   clear hq'
   have hdf : decide (cap ≤ (n : Int)) = false := decide_eq_false hfull
   have hwn : IntKind.u64.wrap (n : Int) = (n : Int) := by rw [IntKind.wrap_u64]; omega
   go_wp2_with fail
   refine wp_region_held_drew (S := (fun w' => w'.cell? ⟨b, 0, none⟩ = some (.int .u64 cap) ∧ w'.cell? ⟨b, 1, none⟩ = some (.slice A n c))) (by kernel_rfl) ?_ (fun hHeld => ?_)
   ·exact ⟨q0, q1⟩
   refine takeA 0 ?_
   try simp only [Act.put, pS]
   refine takeA 1 ?_
   try simp only [Act.put, pS]
   refine takeA 2 ?_
   try simp only [Act.put, pS]
   refine takeA 3 ?_
   try simp only [Act.put, pS]
   refine takeA 4 ?_
   try simp only [Act.put, pS]
   refine takeA 5 ?_
   try simp only [Act.put, pS]
   refine takeA 6 ?_
   try simp only [Act.put, pS]
   refine takeA 7 ?_
   try simp only [Act.put, pS]
   refine takeA 8 ?_
   try simp only [Act.put, pS]
   refine takeA 9 ?_
   try simp only [Act.put, pS]
   refine takeA 10 ?_
   try simp only [Act.put, pS]
   refine takeA 11 ?_
   try simp only [Act.put, pS]
   obtain ⟨W4, hV0⟩ : ∃ V0, W3.drew = V0 := ⟨_, rfl⟩
   have HK : Hid (Bk W4 (w.heap.size + 1) 47 #[.int .i64 0, .int .u64 0]) := by show Bk _ _ _ _; rw [← hV0]; exact HK.out
   have HP : Hid (Bk W4 w.heap.size 112 #[.int .u64 a, .int .u64 v]) := by show Bk _ _ _ _; rw [← hV0]; exact HP.out
   have HB : Hid (Below w.heap.size w W4) := by show Below _ _ _; rw [← hV0]; exact HB.out.drew
   have HN : Hid (Bk W4 gN 116 #[.int .u64 cap, .slice A5 n c5]) := by show Bk _ _ _ _; rw [← hV0]; exact HN.out
   have HO : Hid (W4.ownsRow V1.heap.size 112 2 (.slice A5 n c5) n (pCells l)) := by show World.ownsRow _ _ _ _ _ _ _; rw [← hV0]; exact own_drew HO.out
   rw [hV0] at hHeld ⊢
   clear hV0
   clear q0 q1 kc0 kc1 kf kg0 kg1 hsz
   refine wpAnyH_done (by kernel_rfl) ?_ _
   try simp only [Act.put, pS]
   clear hHeld
   have kc0 := HK.out.cell 0
   have kc1 := HK.out.cell 1
   have kf := HK.out.lt
   have kg0 := HK.out.frozen 0
   have kg1 := HK.out.frozen 1
   have hsz := HB.out.size
   go_wp2_with fail
   refine wp_region_held_drew (S := (fun w' => w'.rangeAt w.heap.size 0 [.int .u64 a, .int .u64 v])) (by kernel_rfl) ?_ (fun hHeld => ?_)
   ·exact HP.out.rng
   refine takeA 0 ?_
   try simp only [Act.put, pS]
   refine takeA 1 ?_
   try simp only [Act.put, pS]
   refine takeA 2 ?_
   try simp only [Act.put, pS]
   refine takeA 3 ?_
   try simp only [Act.put, pS]
   refine takeA 5 ?_
   try simp only [Act.put, pS]
   refine loadA 6 #[.int .u64 a, .int .u64 v] Tryz.underlying112 rfl (by kernel_rfl) ?_ ?_
   ·(intro w hSw; exact hSw)
   try simp only [Act.put, pS]
   obtain ⟨V4, hV0⟩ : ∃ V0, W4.drew = V0 := ⟨_, rfl⟩
   have HK : Hid (Bk V4 (w.heap.size + 1) 47 #[.int .i64 0, .int .u64 0]) := by show Bk _ _ _ _; rw [← hV0]; exact HK.out
   have HP : Hid (Bk V4 w.heap.size 112 #[.int .u64 a, .int .u64 v]) := by show Bk _ _ _ _; rw [← hV0]; exact HP.out
   have HB : Hid (Below w.heap.size w V4) := by show Below _ _ _; rw [← hV0]; exact HB.out.drew
   have HN : Hid (Bk V4 gN 116 #[.int .u64 cap, .slice A5 n c5]) := by show Bk _ _ _ _; rw [← hV0]; exact HN.out
   have HO : Hid (V4.ownsRow V1.heap.size 112 2 (.slice A5 n c5) n (pCells l)) := by show World.ownsRow _ _ _ _ _ _ _; rw [← hV0]; exact own_drew HO.out
   rw [hV0] at hHeld ⊢
   clear hV0
   clear kc0 kc1 kf kg0 kg1 hsz
   have HVs4 : Hid (V1.heap.size ≤ V4.heap.size) := Nat.le_of_lt (Nat.lt_of_le_of_lt HVs.out HN.out.lt)
   have HOv := Lib.hid HO.out
   refine comeH2 4 7 rfl rfl rfl rfl rfl rfl rfl rfl (by kernel_rfl) (by rfl) (by rfl) (fun K hK => ?_) (fun K hK => ?_)
   ·have kn1 : V4.cell? ⟨gN, 1, none⟩ = some (.slice A5 n c5) := HN.out.cell 1
    go_simp
    refine hK.out _ _ ?_ (fun hHeld => ?_)
    ·exact HP.out.rng
    clear hK K
    try simp only [Act.put, pS]
    clear kn1
    refine comeA 7 fun K hK => ?_
    go_simp
    obtain ⟨W7, hW7⟩ : ∃ W7, V4.alloc (.cells #[.int .u64 a, .int .u64 v] 112) = W7 := ⟨_, rfl⟩
    have hb7 : Below V4.heap.size V4 W7 := by rw [← hW7]; exact (Below.refl _ _).alloc (Nat.le_refl _) _
    have HNw : Hid (Bk W7 V4.heap.size 112 #[.int .u64 a, .int .u64 v]) := by show Bk _ _ _ _; rw [← hW7]; exact Bk.new _ _ _
    have HO := Lib.hid (own_below HO.out hb7)
    have HN := Lib.hid (HN.out.below hb7 HN.out.lt)
    have HB := Lib.hid (HB.out.trans (hb7.mono HB.out.size))
    have HK := Lib.hid (HK.out.below hb7 HK.out.lt)
    have HP := Lib.hid (HP.out.below hb7 HP.out.lt)
    have HVs7 : Hid (V1.heap.size ≤ W7.heap.size) := Nat.le_trans HVs4.out hb7.size
    rw [hW7]
    clear hW7 hb7
    have HNe : Hid ((Value.slice A5 n c5).ownBlock ≠ some V4.heap.size) := fun e => by have := (HOv.out.lt _ e).2; omega
    refine hK.out _ _ ?_ (fun hHeld => ?_)
    ·exact HP.out.rng
    clear hK K
    try simp only [Act.put, pS]
    refine comeA 8 fun K hK => ?_
    go_simp
    refine (insP_any V1.heap.size (.slice A5 n c5) n i V4.heap.size (pCells l) [.int .u64 a, .int .u64 v] W7 HO.out hil (by omega) (pair_one l) (by intro u hu; simp at hu; rcases hu with rfl | rfl <;> rfl) HVs7.out rfl HNw.out HNe.out).mono ?_
    rintro e W5 ⟨v5, rfl, hown5, hg5⟩
    have HO5 : Hid (W5.ownsRow V1.heap.size 112 2 v5 (n + 1) (pCells (l.take i ++ (a, v) :: l.drop i))) := by show World.ownsRow _ _ _ _ _ _ _; rw [show l.take i ++ (a, v) :: l.drop i = l.take i ++ [(a, v)] ++ l.drop i by simp, pCells_app, pCells_app, ← pCells_take, ← pCells_drop]; exact hown5
    have HK := Lib.hid (HK.out.grown hg5 (fun e => by have := (HO.out.lt _ e).1; have := HM1.out; omega))
    have HP := Lib.hid (HP.out.grown hg5 (fun e => by have := (HO.out.lt _ e).1; have := HM1.out; omega))
    have HN := Lib.hid (HN.out.grown hg5 (fun e => HN.out.ne_own HO.out (by decide) e))
    have HB := Lib.hid (below_own HB.out HO.out hg5 (by have := HM1.out; omega) HB.out.size)
    clear hg5
    clear hown5 HO HNw HNe
    obtain ⟨A6, c6, rfl, hc6, _⟩ := own_slv HO5.out
    have HC6 := Lib.hid hc6
    clear hc6
    go_simp
    refine hK.out _ _ ?_ (fun hHeld => ?_)
    ·exact HP.out.rng
    clear hK K
    try simp only [Act.put, pS]
    refine takeA 9 ?_
    try simp only [Act.put, pS]
    refine takeA 10 ?_
    try simp only [Act.put, pS]
    refine comeA 11 fun K hK => ?_
    have kn1 := HN.out.cell 1
    have kn2 := HN.out.frozen 1
    have hsz := HB.out.size
    go_simp
    have HN6 := Lib.hid (HN.out.set_ 1 (.slice A6 (n + 1) c6))
    have HK6 := Lib.hid (bk_set_ne HK.out (p := ⟨gN, 1, none⟩) (u := .slice A6 (n + 1) c6) (fun e => by have e : gN = w.heap.size + 1 := e; have := HM1.out; have := HVs.out; omega))
    have HO6 := Lib.hid (own_set_ne HO5.out (p := ⟨gN, 1, none⟩) (HN.out.ne_own HO5.out (by decide)) (.slice A6 (n + 1) c6))
    have HB6 := Lib.hid (HB.out.setCell (p := ⟨gN, 1, none⟩) (show w.heap.size ≤ gN by have := HM1.out; have := HVs.out; omega) (.slice A6 (n + 1) c6))
    obtain ⟨W6, hW6⟩ : ∃ W6, W5.setCell ⟨gN, 1, none⟩ (.slice A6 (n + 1) c6) = W6 := ⟨_, rfl⟩
    have HW6 := Lib.hid hW6
    rw [hW6] at HN6 HK6 HO6 HB6 ⊢
    clear hW6 kn1 kn2 hsz HO5 HN HB HK
    have HN := HN6
    have HK := HK6
    have HB := HB6
    clear HN6 HK6 HB6
    skip
    refine hK.out _ _ ?_ (fun hHeld => ?_)
    ·rw [← HW6.out]; exact (bk_set_ne HP.out (p := ⟨gN, 1, none⟩) (show gN ≠ w.heap.size by have := HM1.out; have := HVs.out; omega)).rng
    clear hK K
    try simp only [Act.put, pS]
    refine wpAnyH_done (by kernel_rfl) ?_ _
    try simp only [Act.put, pS]
    clear hHeld
    have kc0 := HK.out.cell 0
    have kc1 := HK.out.cell 1
    have kf := HK.out.lt
    have kg0 := HK.out.frozen 0
    have kg1 := HK.out.frozen 1
    have hsz := HB.out.size
    go_wp2
    refine bodyPost_ret (results_tc rfl _ _ (w.heap.size + 1) 47 _ _ (by rfl) ((HK.out.set_ 0 _).set_ 1 _) Tryz.underlying47 rfl info_res) rfl ?_
    exact ⟨.pointer (some ⟨gN, 0, none⟩), _, rfl, (by rw [HE.out]; exact t_made HO6.out HC6.out HN.out HM1.out HVs.out _ _), ⟨_, rfl⟩, ⟨_, _, rfl⟩, ((HB.out.setCell (Nat.le_succ _) _).setCell (Nat.le_succ _) _)⟩
   ·go_simp
    obtain ⟨W7, hW7⟩ : ∃ W7, V4.alloc (.cells #[.int .u64 a, .int .u64 v] 112) = W7 := ⟨_, rfl⟩
    have hb7 : Below V4.heap.size V4 W7 := by rw [← hW7]; exact (Below.refl _ _).alloc (Nat.le_refl _) _
    have HNw : Hid (Bk W7 V4.heap.size 112 #[.int .u64 a, .int .u64 v]) := by show Bk _ _ _ _; rw [← hW7]; exact Bk.new _ _ _
    have HO := Lib.hid (own_below HO.out hb7)
    have HN := Lib.hid (HN.out.below hb7 HN.out.lt)
    have HB := Lib.hid (HB.out.trans (hb7.mono HB.out.size))
    have HK := Lib.hid (HK.out.below hb7 HK.out.lt)
    have HP := Lib.hid (HP.out.below hb7 HP.out.lt)
    have HVs7 : Hid (V1.heap.size ≤ W7.heap.size) := Nat.le_trans HVs4.out hb7.size
    rw [hW7]
    clear hW7 hb7
    have HNe : Hid ((Value.slice A5 n c5).ownBlock ≠ some V4.heap.size) := fun e => by have := (HOv.out.lt _ e).2; omega
    refine hK.out _ _ ?_ (fun hHeld => ?_)
    ·exact HP.out.rng
    clear hK K
    try simp only [Act.put, pS]
    refine comeA 4 fun K hK => ?_
    have kn1 : W7.cell? ⟨gN, 1, none⟩ = some (.slice A5 n c5) := HN.out.cell 1
    go_simp
    refine hK.out _ _ ?_ (fun hHeld => ?_)
    ·exact HP.out.rng
    clear hK K
    try simp only [Act.put, pS]
    clear kn1
    refine comeA 8 fun K hK => ?_
    go_simp
    refine (insP_any V1.heap.size (.slice A5 n c5) n i V4.heap.size (pCells l) [.int .u64 a, .int .u64 v] W7 HO.out hil (by omega) (pair_one l) (by intro u hu; simp at hu; rcases hu with rfl | rfl <;> rfl) HVs7.out rfl HNw.out HNe.out).mono ?_
    rintro e W5 ⟨v5, rfl, hown5, hg5⟩
    have HO5 : Hid (W5.ownsRow V1.heap.size 112 2 v5 (n + 1) (pCells (l.take i ++ (a, v) :: l.drop i))) := by show World.ownsRow _ _ _ _ _ _ _; rw [show l.take i ++ (a, v) :: l.drop i = l.take i ++ [(a, v)] ++ l.drop i by simp, pCells_app, pCells_app, ← pCells_take, ← pCells_drop]; exact hown5
    have HK := Lib.hid (HK.out.grown hg5 (fun e => by have := (HO.out.lt _ e).1; have := HM1.out; omega))
    have HP := Lib.hid (HP.out.grown hg5 (fun e => by have := (HO.out.lt _ e).1; have := HM1.out; omega))
    have HN := Lib.hid (HN.out.grown hg5 (fun e => HN.out.ne_own HO.out (by decide) e))
    have HB := Lib.hid (below_own HB.out HO.out hg5 (by have := HM1.out; omega) HB.out.size)
    clear hg5
    clear hown5 HO HNw HNe
    obtain ⟨A6, c6, rfl, hc6, _⟩ := own_slv HO5.out
    have HC6 := Lib.hid hc6
    clear hc6
    go_simp
    refine hK.out _ _ ?_ (fun hHeld => ?_)
    ·exact HP.out.rng
    clear hK K
    try simp only [Act.put, pS]
    refine takeA 9 ?_
    try simp only [Act.put, pS]
    refine takeA 10 ?_
    try simp only [Act.put, pS]
    refine comeA 11 fun K hK => ?_
    have kn1 := HN.out.cell 1
    have kn2 := HN.out.frozen 1
    have hsz := HB.out.size
    go_simp
    have HN6 := Lib.hid (HN.out.set_ 1 (.slice A6 (n + 1) c6))
    have HK6 := Lib.hid (bk_set_ne HK.out (p := ⟨gN, 1, none⟩) (u := .slice A6 (n + 1) c6) (fun e => by have e : gN = w.heap.size + 1 := e; have := HM1.out; have := HVs.out; omega))
    have HO6 := Lib.hid (own_set_ne HO5.out (p := ⟨gN, 1, none⟩) (HN.out.ne_own HO5.out (by decide)) (.slice A6 (n + 1) c6))
    have HB6 := Lib.hid (HB.out.setCell (p := ⟨gN, 1, none⟩) (show w.heap.size ≤ gN by have := HM1.out; have := HVs.out; omega) (.slice A6 (n + 1) c6))
    obtain ⟨W6, hW6⟩ : ∃ W6, W5.setCell ⟨gN, 1, none⟩ (.slice A6 (n + 1) c6) = W6 := ⟨_, rfl⟩
    have HW6 := Lib.hid hW6
    rw [hW6] at HN6 HK6 HO6 HB6 ⊢
    clear hW6 kn1 kn2 hsz HO5 HN HB HK
    have HN := HN6
    have HK := HK6
    have HB := HB6
    clear HN6 HK6 HB6
    skip
    refine hK.out _ _ ?_ (fun hHeld => ?_)
    ·rw [← HW6.out]; exact (bk_set_ne HP.out (p := ⟨gN, 1, none⟩) (show gN ≠ w.heap.size by have := HM1.out; have := HVs.out; omega)).rng
    clear hK K
    try simp only [Act.put, pS]
    refine wpAnyH_done (by kernel_rfl) ?_ _
    try simp only [Act.put, pS]
    clear hHeld
    have kc0 := HK.out.cell 0
    have kc1 := HK.out.cell 1
    have kf := HK.out.lt
    have kg0 := HK.out.frozen 0
    have kg1 := HK.out.frozen 1
    have hsz := HB.out.size
    go_wp2
    refine bodyPost_ret (results_tc rfl _ _ (w.heap.size + 1) 47 _ _ (by rfl) ((HK.out.set_ 0 _).set_ 1 _) Tryz.underlying47 rfl info_res) rfl ?_
    exact ⟨.pointer (some ⟨gN, 0, none⟩), _, rfl, (by rw [HE.out]; exact t_made HO6.out HC6.out HN.out HM1.out HVs.out _ _), ⟨_, rfl⟩, ⟨_, _, rfl⟩, ((HB.out.setCell (Nat.le_succ _) _).setCell (Nat.le_succ _) _)⟩
 ·have hia := HAt.out.at_ rfl
  have hin : i < n := by rw [← HLm.out]; exact (List.getElem?_eq_some_iff.1 hia).1
  obtain ⟨x0, hx0⟩ : ∃ x, l[i]? = some x := ⟨_, List.getElem?_eq_getElem (by rw [HL.out]; exact hin)⟩
  have hxa : x0.1 = a := by rw [List.getElem?_map, hx0] at hia; simpa using hia
  have HX0 := Lib.hid hx0
  have HXa := Lib.hid hxa
  clear hia hx0 hxa
  have hma : a ∈ l.map (·.1) := HAt.out.is.1 rfl
  have hq' : tS 1 a v cap l = some (cap, l.take i ++ (a, v) :: l.drop (i + 1)) := by unfold tS; rw [if_pos rfl, if_pos hma, putT_old HAt.out HU.out HX0.out HXa.out]
  have HE := Lib.hid hq'
  clear hq'
  clear hma
  obtain ⟨g1, cur, he1, hbg, hg, hnc5, hcm, hcs, hxc⟩ := own_open HO.out (fun e => by have := HC5.out.2 e; have := HC5.out.1; omega)
  subst he1
  have HGc := Lib.hid hg
  have HCs := Lib.hid hcs
  have HXc := Lib.hid hxc
  clear hg hcs hxc
  have kn1 : W3.cell? ⟨gN, 1, none⟩ = some (.slice (some ⟨g1, 0, none⟩) n c5) := HN.out.cell 1
  go_wp2_with fail
  refine wp_region_held_drew (S := (fun w' => w'.cell? ⟨gN, 1, none⟩ = some (.slice (some ⟨g1, 0, none⟩) n c5) ∧ w'.rangeAt w.heap.size 0 [.int .u64 a, .int .u64 v])) (by kernel_rfl) ?_ (fun hHeld => ?_)
  ·exact ⟨kn1, HP.out.rng⟩
  refine takeA 0 ?_
  try simp only [Act.put, pS]
  refine takeA 1 ?_
  try simp only [Act.put, pS]
  refine takeA 2 ?_
  try simp only [Act.put, pS]
  refine takeA 3 ?_
  try simp only [Act.put, pS]
  refine takeA 4 ?_
  try simp only [Act.put, pS]
  refine loadA 5 #[.int .u64 a, .int .u64 v] Tryz.underlying112 rfl (by kernel_rfl) ?_ ?_
  ·(intro w hSw; exact hSw.2)
  try simp only [Act.put, pS]
  refine takeA 6 ?_
  try simp only [Act.put, pS]
  obtain ⟨V4, hV0⟩ : ∃ V0, W3.drew = V0 := ⟨_, rfl⟩
  have HK : Hid (Bk V4 (w.heap.size + 1) 47 #[.int .i64 0, .int .u64 0]) := by show Bk _ _ _ _; rw [← hV0]; exact HK.out
  have HP : Hid (Bk V4 w.heap.size 112 #[.int .u64 a, .int .u64 v]) := by show Bk _ _ _ _; rw [← hV0]; exact HP.out
  have HB : Hid (Below w.heap.size w V4) := by show Below _ _ _; rw [← hV0]; exact HB.out.drew
  have HN : Hid (Bk V4 gN 116 #[.int .u64 cap, .slice (some ⟨g1, 0, none⟩) n c5]) := by show Bk _ _ _ _; rw [← hV0]; exact HN.out
  have HO : Hid (V4.ownsRow V1.heap.size 112 2 (.slice (some ⟨g1, 0, none⟩) n c5) n (pCells l)) := by show World.ownsRow _ _ _ _ _ _ _; rw [← hV0]; exact own_drew HO.out
  have HGc : Hid (V4.heap[g1]? = some (.cells cur 112 (0, 0))) := by show _ = _; rw [← hV0]; exact HGc.out
  rw [hV0] at hHeld ⊢
  clear hV0
  clear q0 q1 kn1 kc0 kc1 kf kg0 kg1 hsz
  have hic : i * 2 + 1 < cur.size := by rw [HCs.out]; omega
  have kr0 : V4.cell? ⟨g1, i * 2, none⟩ = some cur[i * 2] := by simp [World.cell?, HGc.out, show i * 2 < cur.size by omega]
  have kr1 : V4.cell? ⟨g1, i * 2 + 1, none⟩ = some cur[i * 2 + 1] := by simp [World.cell?, HGc.out, hic]
  have kr2 : V4.frozen? ⟨g1, i * 2, none⟩ = false := by simp [World.frozen?, HGc.out]
  have kr3 : V4.frozen? ⟨g1, i * 2 + 1, none⟩ = false := by simp [World.frozen?, HGc.out]
  have kr4 : g1 < V4.heap.size := (Array.getElem?_eq_some_iff.1 HGc.out).1
  have hgN1 : g1 ≠ gN := fun e => HN.out.ne_own HO.out (by decide) (by rw [← e]; rfl)
  have hgV : V1.heap.size ≤ g1 := hbg
  have HN6 := Lib.hid (bk_set_ne (bk_set_ne HN.out (p := ⟨g1, i * 2, none⟩) (u := .int .u64 a) hgN1) (p := ⟨g1, i * 2 + 1, none⟩) (u := .int .u64 v) hgN1)
  have HK6 := Lib.hid (bk_set_ne (bk_set_ne HK.out (p := ⟨g1, i * 2, none⟩) (u := .int .u64 a) (show g1 ≠ w.heap.size + 1 by have := HM1.out; have := HVs.out; omega)) (p := ⟨g1, i * 2 + 1, none⟩) (u := .int .u64 v) (show g1 ≠ w.heap.size + 1 by have := HM1.out; have := HVs.out; omega))
  have HP6 := Lib.hid (bk_set_ne (bk_set_ne HP.out (p := ⟨g1, i * 2, none⟩) (u := .int .u64 a) (show g1 ≠ w.heap.size by have := HM1.out; have := HVs.out; omega)) (p := ⟨g1, i * 2 + 1, none⟩) (u := .int .u64 v) (show g1 ≠ w.heap.size by have := HM1.out; have := HVs.out; omega))
  have HB6 := Lib.hid ((HB.out.setCell (p := ⟨g1, i * 2, none⟩) (show w.heap.size ≤ g1 by have := HM1.out; omega) (.int .u64 a)).setCell (p := ⟨g1, i * 2 + 1, none⟩) (show w.heap.size ≤ g1 by have := HM1.out; omega) (.int .u64 v))
  have HO6 : Hid (((V4.setCell ⟨g1, i * 2, none⟩ (.int .u64 a)).setCell ⟨g1, i * 2 + 1, none⟩ (.int .u64 v)).ownsRow V1.heap.size 112 2 (.slice (some ⟨g1, 0, none⟩) n c5) n (pCells (l.take i ++ (a, v) :: l.drop (i + 1)))) := own_shut hbg ((Bk.set_ (show Bk V4 g1 112 cur from HGc.out) (i * 2) (.int .u64 a)).set_ (i * 2 + 1) (.int .u64 v)) hnc5 hcm (by simp only [Array.size_setIfInBounds]; exact HCs.out) (row_set a v HXc.out (by rw [HL.out]; exact hin))
  refine comeA 7 fun K hK => ?_
  go_simp
  obtain ⟨W6, hW6⟩ : ∃ W6, ((V4.setCell ⟨g1, i * 2, none⟩ (.int .u64 a)).setCell ⟨g1, i * 2 + 1, none⟩ (.int .u64 v)) = W6 := ⟨_, rfl⟩
  rw [hW6] at HN6 HK6 HP6 HB6 HO6 ⊢
  clear hW6 kr0 kr1 kr2 kr3 kr4 HN HK HP HB HO
  have HN := HN6
  have HK := HK6
  have HB := HB6
  clear HN6 HK6 HB6
  refine hK.out _ _ ?_ (fun hHeld => ?_)
  ·exact ⟨HN.out.cell 1, HP6.out.rng⟩
  clear hK K
  try simp only [Act.put, pS]
  refine wpAnyH_done (by kernel_rfl) ?_ _
  try simp only [Act.put, pS]
  clear hHeld
  have kc0 := HK.out.cell 0
  have kc1 := HK.out.cell 1
  have kf := HK.out.lt
  have kg0 := HK.out.frozen 0
  have kg1 := HK.out.frozen 1
  have hsz := HB.out.size
  go_wp2
  refine bodyPost_ret (results_tc rfl _ _ (w.heap.size + 1) 47 _ _ (by rfl) ((HK.out.set_ 0 _).set_ 1 _) Tryz.underlying47 rfl info_res) rfl ?_
  exact ⟨.pointer (some ⟨gN, 0, none⟩), _, rfl, (by rw [HE.out]; exact t_made HO6.out HC5.out HN.out HM1.out HVs.out _ _), ⟨_, rfl⟩, ⟨_, _, rfl⟩, ((HB.out.setCell (Nat.le_succ _) _).setCell (Nat.le_succ _) _)⟩
set_option maxRecDepth 100000 in
set_option maxHeartbeats 8000000 in
theorem tkey_get (cap : Int) (l : List (Int × Int)) (p : Value) (a v : Int) (w : World) (hq : TIn w p (some (cap, l))) (hok : TOk 100 (some (cap, l))) (ha : U64' a) (hv : U64' v) :
 Calls Tryz.prog 70 #[p, .string ⟨#[103, 101, 116]⟩, .agg #[.int .u64 a, .int .u64 v]] w (DoesT w (tS 2 a v cap l)) := by
 have HQ := Lib.hid hq
 have HA := Lib.hid ha
 have HV := Lib.hid hv
 obtain ⟨b, A, n, c, hp0, hc, hb, h0, h1, hr, _⟩ := hq
 subst hp0
 have HR := Lib.hid hr
 have HC := Lib.hid hc
 have HL := Lib.hid hr.pairLen
 obtain ⟨⟨hc0, hc1⟩, hok2, hl, hup⟩ := hok
 have HM := Lib.hid hok2
 have HU := Lib.hid hup
 have HLm : Hid ((l.map (·.1)).length = n) := by show _ = _; rw [List.length_map, HL.out]
 have hn : n ≤ 100 := by rw [← HL.out]; exact hl
 clear hr hc hok2 hl ha hv hup
 obtain ⟨W1, hW1⟩ : ∃ W1, (w.alloc (.cells #[.int .u64 a, .int .u64 v] 112)).alloc (.cells #[.int .i64 0, .int .u64 0] 47) = W1 := ⟨_, rfl⟩
 have HP : Hid (Bk W1 w.heap.size 112 #[.int .u64 a, .int .u64 v]) := by show Bk _ _ _ _; rw [← hW1]; exact (two_blocks _ _ _ _ _).1
 have HK : Hid (Bk W1 (w.heap.size + 1) 47 #[.int .i64 0, .int .u64 0]) := by show Bk _ _ _ _; rw [← hW1]; exact (two_blocks _ _ _ _ _).2.1
 have HB : Hid (Below w.heap.size w W1) := by show Below _ _ _; rw [← hW1]; exact (two_blocks _ _ _ _ _).2.2.1
 have HW1 := Lib.hid hW1
 clear hW1
 go_enter Tryz.func70, Tryz.ntmps70
 go_upto_region 1 with fail
 rw [HW1.out]
 clear HW1
 refine wp_region_held_drew (S := (fun w' => w'.cell? ⟨b, 0, none⟩ = some (.int .u64 cap) ∧ w'.cell? ⟨b, 1, none⟩ = some (.slice A n c) ∧ w'.rangeAt w.heap.size 0 [.int .u64 a, .int .u64 v])) (by kernel_rfl) ?_ (fun hHeld => ?_)
 ·exact ⟨(HB.out.cell (p := ⟨b, 0, none⟩) hb).trans h0, (HB.out.cell (p := ⟨b, 1, none⟩) hb).trans h1, HP.out.rng⟩
 refine takeA 0 ?_
 try simp only [Act.put, pS]
 refine takeA 1 ?_
 try simp only [Act.put, pS]
 refine takeA 2 ?_
 try simp only [Act.put, pS]
 refine takeA 3 ?_
 try simp only [Act.put, pS]
 refine loadA 4 #[.int .u64 a, .int .u64 v] Tryz.underlying112 rfl (by kernel_rfl) ?_ ?_
 ·(intro w hSw; exact hSw.2.2)
 try simp only [Act.put, pS]
 obtain ⟨V0, hV0⟩ : ∃ V0, W1.drew = V0 := ⟨_, rfl⟩
 have HK : Hid (Bk V0 (w.heap.size + 1) 47 #[.int .i64 0, .int .u64 0]) := by show Bk _ _ _ _; rw [← hV0]; exact HK.out
 have HP : Hid (Bk V0 w.heap.size 112 #[.int .u64 a, .int .u64 v]) := by show Bk _ _ _ _; rw [← hV0]; exact HP.out
 have HB : Hid (Below w.heap.size w V0) := by show Below _ _ _; rw [← hV0]; exact HB.out.drew
 rw [hV0] at hHeld ⊢
 clear hV0
 refine comeA 5 fun K hK => ?_
 go_simp
 refine (tsearch_any l A n c a v V0 ((HR.out.below HB.out).more HB.out.size) HU.out (by omega)).mono ?_
 rintro e w1 ⟨⟨i, there, rfl, hat⟩, hb1⟩
 have HB := Lib.hid (HB.out.trans (hb1.mono HB.out.size))
 have HK := Lib.hid (HK.out.below hb1 HK.out.lt)
 have HP := Lib.hid (HP.out.below hb1 HP.out.lt)
 have HAt := Lib.hid hat
 have hil := hat.le
 rw [HLm.out] at hil
 clear hat hb1
 go_simp
 refine hK.out _ _ ?_ (fun hHeld => ?_)
 ·exact ⟨(HB.out.cell (p := ⟨b, 0, none⟩) hb).trans h0, (HB.out.cell (p := ⟨b, 1, none⟩) hb).trans h1, HP.out.rng⟩
 clear hK K
 try simp only [Act.put, pS]
 refine takeA 6 ?_
 try simp only [Act.put, pS]
 refine takeA 7 ?_
 try simp only [Act.put, pS]
 refine takeA 8 ?_
 try simp only [Act.put, pS]
 refine takeA 9 ?_
 try simp only [Act.put, pS]
 refine takeA 10 ?_
 try simp only [Act.put, pS]
 refine wpAnyH_done (by kernel_rfl) ?_ _
 try simp only [Act.put, pS]
 clear hHeld
 have HMs : Hid (w.heap.size + 1 < w1.heap.size) := HK.out.lt
 go_wp2_with fail
 refine wp_region_held_drew (S := (fun w' => w'.cell? ⟨b, 0, none⟩ = some (.int .u64 cap) ∧ w'.cell? ⟨b, 1, none⟩ = some (.slice A n c) ∧ w'.rangeAt w.heap.size 0 [.int .u64 a, .int .u64 v])) (by kernel_rfl) ?_ (fun hHeld => ?_)
 ·exact ⟨(HB.out.cell (p := ⟨b, 0, none⟩) hb).trans h0, (HB.out.cell (p := ⟨b, 1, none⟩) hb).trans h1, HP.out.rng⟩
 refine takeA 0 ?_
 try simp only [Act.put, pS]
 refine takeA 1 ?_
 try simp only [Act.put, pS]
 refine takeA 2 ?_
 try simp only [Act.put, pS]
 refine takeA 3 ?_
 try simp only [Act.put, pS]
 refine takeA 4 ?_
 try simp only [Act.put, pS]
 refine takeA 5 ?_
 try simp only [Act.put, pS]
 refine takeA 6 ?_
 try simp only [Act.put, pS]
 refine takeA 7 ?_
 try simp only [Act.put, pS]
 obtain ⟨V1, hV0⟩ : ∃ V0, w1.drew = V0 := ⟨_, rfl⟩
 have HK : Hid (Bk V1 (w.heap.size + 1) 47 #[.int .i64 0, .int .u64 0]) := by show Bk _ _ _ _; rw [← hV0]; exact HK.out
 have HP : Hid (Bk V1 w.heap.size 112 #[.int .u64 a, .int .u64 v]) := by show Bk _ _ _ _; rw [← hV0]; exact HP.out
 have HB : Hid (Below w.heap.size w V1) := by show Below _ _ _; rw [← hV0]; exact HB.out.drew
 rw [hV0] at hHeld ⊢
 clear hV0
 have HRv := Lib.hid ((HR.out.below HB.out).more HB.out.size)
 have HM1 : Hid (w.heap.size + 1 < V1.heap.size) := HK.out.lt
 refine comeA 8 fun K hK => ?_
 go_simp
 refine (cloneP_any l A n c _ HRv.out HC.out (by omega)).mono ?_
 rintro e w2 ⟨v1, rfl, hown, hb2⟩
 have HO := Lib.hid hown
 have HB := Lib.hid (HB.out.trans (hb2.mono HB.out.size))
 have HK := Lib.hid (HK.out.below hb2 HK.out.lt)
 have HP := Lib.hid (HP.out.below hb2 HP.out.lt)
 have HVs : Hid (V1.heap.size ≤ w2.heap.size) := hb2.size
 clear hown hb2
 obtain ⟨A5, c5, rfl, hc5, _⟩ := own_slv HO.out
 have HC5 := Lib.hid hc5
 clear hc5
 go_simp
 refine hK.out _ _ ?_ (fun hHeld => ?_)
 ·exact ⟨(HB.out.cell (p := ⟨b, 0, none⟩) hb).trans h0, (HB.out.cell (p := ⟨b, 1, none⟩) hb).trans h1, HP.out.rng⟩
 clear hK K
 try simp only [Act.put, pS]
 refine takeA 9 ?_
 try simp only [Act.put, pS]
 refine comeA 10 fun K hK => ?_
 go_simp
 obtain ⟨W3, hW3⟩ : ∃ W7, w2.alloc (.cells #[.int .u64 cap, .slice A5 n c5] 116) = W7 := ⟨_, rfl⟩
 have hb3 : Below w2.heap.size w2 W3 := by rw [← hW3]; exact (Below.refl _ _).alloc (Nat.le_refl _) _
 have HN : Hid (Bk W3 w2.heap.size 116 #[.int .u64 cap, .slice A5 n c5]) := by show Bk _ _ _ _; rw [← hW3]; exact Bk.new _ _ _
 have HO := Lib.hid (own_below HO.out hb3)
 have HB := Lib.hid (HB.out.trans (hb3.mono HB.out.size))
 have HK := Lib.hid (HK.out.below hb3 HK.out.lt)
 have HP := Lib.hid (HP.out.below hb3 HP.out.lt)
 rw [hW3]
 clear hW3 hb3
 obtain ⟨gN, hgN⟩ : ∃ gN, w2.heap.size = gN := ⟨_, rfl⟩
 rw [hgN] at HN HVs ⊢
 clear hgN
 refine hK.out _ _ ?_ (fun hHeld => ?_)
 ·exact ⟨(HB.out.cell (p := ⟨b, 0, none⟩) hb).trans h0, (HB.out.cell (p := ⟨b, 1, none⟩) hb).trans h1, HP.out.rng⟩
 clear hK K
 try simp only [Act.put, pS]
 refine takeA 11 ?_
 try simp only [Act.put, pS]
 refine wpAnyH_done (by kernel_rfl) ?_ _
 try simp only [Act.put, pS]
 clear hHeld
 have kc0 := HK.out.cell 0
 have kc1 := HK.out.cell 1
 have kf := HK.out.lt
 have kg0 := HK.out.frozen 0
 have kg1 := HK.out.frozen 1
 have hsz := HB.out.size
 have q0 : W3.cell? ⟨b, 0, none⟩ = some (.int .u64 cap) := (HB.out.cell (p := ⟨b, 0, none⟩) hb).trans h0
 have q1 : W3.cell? ⟨b, 1, none⟩ = some (.slice A n c) := (HB.out.cell (p := ⟨b, 1, none⟩) hb).trans h1
 have hq' : tS 2 a v cap l = some (cap, l) := by unfold tS; rw [if_neg (by omega), if_neg (by omega), if_neg (by simp)]
 have HE := Lib.hid hq'
 clear hq'
 cases there
 ·go_wp2
  refine bodyPost_ret (results_tc rfl _ _ (w.heap.size + 1) 47 _ _ (by rfl) (((HK.out.set_ 0 _).set_ 1 _).alloc _) Tryz.underlying47 rfl info_res) rfl ?_
  exact ⟨.pointer (some ⟨b, 0, none⟩), _, rfl, (by rw [HE.out]; exact HQ.out.below (((HB.out.setCell (Nat.le_succ _) _).setCell (Nat.le_succ _) _).alloc (by simp; omega) _)), ⟨_, rfl⟩, ⟨_, _, rfl⟩, ((HB.out.setCell (Nat.le_succ _) _).setCell (Nat.le_succ _) _).alloc (by simp; omega) _⟩
 ·have hia := HAt.out.at_ rfl
  have hin : i < n := by rw [← HLm.out]; exact (List.getElem?_eq_some_iff.1 hia).1
  obtain ⟨x0, hx0⟩ : ∃ x, l[i]? = some x := ⟨_, List.getElem?_eq_getElem (by rw [HL.out]; exact hin)⟩
  have hxa : x0.1 = a := by rw [List.getElem?_map, hx0] at hia; simpa using hia
  have HX0 := Lib.hid hx0
  have HXa := Lib.hid hxa
  clear hia hx0 hxa
  obtain ⟨bA, oA, rfl, hbA, hcA⟩ := HR.out.at_ (by omega)
  have h2 : w.cell? ⟨bA, oA + i * 2 + 1, none⟩ = some (.int .u64 x0.2) := by have := hcA (i * 2 + 1) _ (pCells_at HX0.out).2; rw [← Nat.add_assoc] at this; exact this
  clear hcA
  have q2 : W3.cell? ⟨bA, oA + i * 2 + 1, none⟩ = some (.int .u64 x0.2) := (HB.out.cell (p := ⟨bA, oA + i * 2 + 1, none⟩) hbA).trans h2
  go_wp2_with fail
  refine wp_region_held_drew (S := (fun w' => w'.cell? ⟨b, 1, none⟩ = some (.slice (some ⟨bA, oA, none⟩) n c) ∧ w'.cell? ⟨bA, oA + i * 2 + 1, none⟩ = some (.int .u64 x0.2))) (by kernel_rfl) ?_ (fun hHeld => ?_)
  ·exact ⟨q1, q2⟩
  refine takeA 0 ?_
  try simp only [Act.put, pS]
  refine takeA 1 ?_
  try simp only [Act.put, pS]
  refine takeA 2 ?_
  try simp only [Act.put, pS]
  refine takeA 3 ?_
  try simp only [Act.put, pS]
  refine takeA 4 ?_
  try simp only [Act.put, pS]
  refine takeA 5 ?_
  try simp only [Act.put, pS]
  refine takeA 6 ?_
  try simp only [Act.put, pS]
  refine takeA 7 ?_
  try simp only [Act.put, pS]
  refine takeA 8 ?_
  try simp only [Act.put, pS]
  refine takeA 9 ?_
  try simp only [Act.put, pS]
  refine takeA 10 ?_
  try simp only [Act.put, pS]
  obtain ⟨V4, hV0⟩ : ∃ V0, W3.drew = V0 := ⟨_, rfl⟩
  have HK : Hid (Bk V4 (w.heap.size + 1) 47 #[.int .i64 0, .int .u64 0]) := by show Bk _ _ _ _; rw [← hV0]; exact HK.out
  have HP : Hid (Bk V4 w.heap.size 112 #[.int .u64 a, .int .u64 v]) := by show Bk _ _ _ _; rw [← hV0]; exact HP.out
  have HB : Hid (Below w.heap.size w V4) := by show Below _ _ _; rw [← hV0]; exact HB.out.drew
  rw [hV0] at hHeld ⊢
  clear hV0
  clear q0 q1 q2 kc0 kc1 kf kg0 kg1 hsz
  refine comeA 11 fun K hK => ?_
  have kc0 := HK.out.cell 0
  have kc1 := HK.out.cell 1
  have kf := HK.out.lt
  have kg0 := HK.out.frozen 0
  have kg1 := HK.out.frozen 1
  have hsz := HB.out.size
  go_simp
  refine hK.out _ _ ?_ (fun hHeld => ?_)
  ·exact ⟨((((HB.out.setCell (Nat.le_succ _) _).setCell (Nat.le_succ _) _)).cell (p := ⟨b, 1, none⟩) hb).trans h1, ((((HB.out.setCell (Nat.le_succ _) _).setCell (Nat.le_succ _) _)).cell (p := ⟨bA, oA + i * 2 + 1, none⟩) hbA).trans h2⟩
  clear hK K
  try simp only [Act.put, pS]
  refine wpAnyH_done (by kernel_rfl) ?_ _
  try simp only [Act.put, pS]
  clear hHeld
  go_wp2
  refine bodyPost_ret (results_tc rfl _ _ (w.heap.size + 1) 47 _ _ (by rfl) ((HK.out.set_ 0 _).set_ 1 _) Tryz.underlying47 rfl info_res) rfl ?_
  exact ⟨.pointer (some ⟨b, 0, none⟩), _, rfl, (by rw [HE.out]; exact HQ.out.below (((HB.out.setCell (Nat.le_succ _) _).setCell (Nat.le_succ _) _))), ⟨_, rfl⟩, ⟨_, _, rfl⟩, ((HB.out.setCell (Nat.le_succ _) _).setCell (Nat.le_succ _) _)⟩
set_option maxRecDepth 100000 in
set_option maxHeartbeats 8000000 in
theorem tkey_del (cap : Int) (l : List (Int × Int)) (p : Value) (a v : Int) (w : World) (hq : TIn w p (some (cap, l))) (hok : TOk 100 (some (cap, l))) (ha : U64' a) (hv : U64' v) :
 Calls Tryz.prog 70 #[p, .string ⟨#[100, 101, 108]⟩, .agg #[.int .u64 a, .int .u64 v]] w (DoesT w (tS 3 a v cap l)) := by
 have HQ := Lib.hid hq
 have HA := Lib.hid ha
 have HV := Lib.hid hv
 obtain ⟨b, A, n, c, hp0, hc, hb, h0, h1, hr, _⟩ := hq
 subst hp0
 have HR := Lib.hid hr
 have HC := Lib.hid hc
 have HL := Lib.hid hr.pairLen
 obtain ⟨⟨hc0, hc1⟩, hok2, hl, hup⟩ := hok
 have HM := Lib.hid hok2
 have HU := Lib.hid hup
 have HLm : Hid ((l.map (·.1)).length = n) := by show _ = _; rw [List.length_map, HL.out]
 have hn : n ≤ 100 := by rw [← HL.out]; exact hl
 clear hr hc hok2 hl ha hv hup
 obtain ⟨W1, hW1⟩ : ∃ W1, (w.alloc (.cells #[.int .u64 a, .int .u64 v] 112)).alloc (.cells #[.int .i64 0, .int .u64 0] 47) = W1 := ⟨_, rfl⟩
 have HP : Hid (Bk W1 w.heap.size 112 #[.int .u64 a, .int .u64 v]) := by show Bk _ _ _ _; rw [← hW1]; exact (two_blocks _ _ _ _ _).1
 have HK : Hid (Bk W1 (w.heap.size + 1) 47 #[.int .i64 0, .int .u64 0]) := by show Bk _ _ _ _; rw [← hW1]; exact (two_blocks _ _ _ _ _).2.1
 have HB : Hid (Below w.heap.size w W1) := by show Below _ _ _; rw [← hW1]; exact (two_blocks _ _ _ _ _).2.2.1
 have HW1 := Lib.hid hW1
 clear hW1
 go_enter Tryz.func70, Tryz.ntmps70
 go_upto_region 1 with fail
 rw [HW1.out]
 clear HW1
 refine wp_region_held_drew (S := (fun w' => w'.cell? ⟨b, 0, none⟩ = some (.int .u64 cap) ∧ w'.cell? ⟨b, 1, none⟩ = some (.slice A n c) ∧ w'.rangeAt w.heap.size 0 [.int .u64 a, .int .u64 v])) (by kernel_rfl) ?_ (fun hHeld => ?_)
 ·exact ⟨(HB.out.cell (p := ⟨b, 0, none⟩) hb).trans h0, (HB.out.cell (p := ⟨b, 1, none⟩) hb).trans h1, HP.out.rng⟩
 refine takeA 0 ?_
 try simp only [Act.put, pS]
 refine takeA 1 ?_
 try simp only [Act.put, pS]
 refine takeA 2 ?_
 try simp only [Act.put, pS]
 refine takeA 3 ?_
 try simp only [Act.put, pS]
 refine loadA 4 #[.int .u64 a, .int .u64 v] Tryz.underlying112 rfl (by kernel_rfl) ?_ ?_
 ·(intro w hSw; exact hSw.2.2)
 try simp only [Act.put, pS]
 obtain ⟨V0, hV0⟩ : ∃ V0, W1.drew = V0 := ⟨_, rfl⟩
 have HK : Hid (Bk V0 (w.heap.size + 1) 47 #[.int .i64 0, .int .u64 0]) := by show Bk _ _ _ _; rw [← hV0]; exact HK.out
 have HP : Hid (Bk V0 w.heap.size 112 #[.int .u64 a, .int .u64 v]) := by show Bk _ _ _ _; rw [← hV0]; exact HP.out
 have HB : Hid (Below w.heap.size w V0) := by show Below _ _ _; rw [← hV0]; exact HB.out.drew
 rw [hV0] at hHeld ⊢
 clear hV0
 refine comeA 5 fun K hK => ?_
 go_simp
 refine (tsearch_any l A n c a v V0 ((HR.out.below HB.out).more HB.out.size) HU.out (by omega)).mono ?_
 rintro e w1 ⟨⟨i, there, rfl, hat⟩, hb1⟩
 have HB := Lib.hid (HB.out.trans (hb1.mono HB.out.size))
 have HK := Lib.hid (HK.out.below hb1 HK.out.lt)
 have HP := Lib.hid (HP.out.below hb1 HP.out.lt)
 have HAt := Lib.hid hat
 have hil := hat.le
 rw [HLm.out] at hil
 clear hat hb1
 go_simp
 refine hK.out _ _ ?_ (fun hHeld => ?_)
 ·exact ⟨(HB.out.cell (p := ⟨b, 0, none⟩) hb).trans h0, (HB.out.cell (p := ⟨b, 1, none⟩) hb).trans h1, HP.out.rng⟩
 clear hK K
 try simp only [Act.put, pS]
 refine takeA 6 ?_
 try simp only [Act.put, pS]
 refine takeA 7 ?_
 try simp only [Act.put, pS]
 refine takeA 8 ?_
 try simp only [Act.put, pS]
 refine takeA 9 ?_
 try simp only [Act.put, pS]
 refine takeA 10 ?_
 try simp only [Act.put, pS]
 refine wpAnyH_done (by kernel_rfl) ?_ _
 try simp only [Act.put, pS]
 clear hHeld
 have HMs : Hid (w.heap.size + 1 < w1.heap.size) := HK.out.lt
 go_wp2_with fail
 refine wp_region_held_drew (S := (fun w' => w'.cell? ⟨b, 0, none⟩ = some (.int .u64 cap) ∧ w'.cell? ⟨b, 1, none⟩ = some (.slice A n c) ∧ w'.rangeAt w.heap.size 0 [.int .u64 a, .int .u64 v])) (by kernel_rfl) ?_ (fun hHeld => ?_)
 ·exact ⟨(HB.out.cell (p := ⟨b, 0, none⟩) hb).trans h0, (HB.out.cell (p := ⟨b, 1, none⟩) hb).trans h1, HP.out.rng⟩
 refine takeA 0 ?_
 try simp only [Act.put, pS]
 refine takeA 1 ?_
 try simp only [Act.put, pS]
 refine takeA 2 ?_
 try simp only [Act.put, pS]
 refine takeA 3 ?_
 try simp only [Act.put, pS]
 refine takeA 4 ?_
 try simp only [Act.put, pS]
 refine takeA 5 ?_
 try simp only [Act.put, pS]
 refine takeA 6 ?_
 try simp only [Act.put, pS]
 refine takeA 7 ?_
 try simp only [Act.put, pS]
 obtain ⟨V1, hV0⟩ : ∃ V0, w1.drew = V0 := ⟨_, rfl⟩
 have HK : Hid (Bk V1 (w.heap.size + 1) 47 #[.int .i64 0, .int .u64 0]) := by show Bk _ _ _ _; rw [← hV0]; exact HK.out
 have HP : Hid (Bk V1 w.heap.size 112 #[.int .u64 a, .int .u64 v]) := by show Bk _ _ _ _; rw [← hV0]; exact HP.out
 have HB : Hid (Below w.heap.size w V1) := by show Below _ _ _; rw [← hV0]; exact HB.out.drew
 rw [hV0] at hHeld ⊢
 clear hV0
 have HRv := Lib.hid ((HR.out.below HB.out).more HB.out.size)
 have HM1 : Hid (w.heap.size + 1 < V1.heap.size) := HK.out.lt
 refine comeA 8 fun K hK => ?_
 go_simp
 refine (cloneP_any l A n c _ HRv.out HC.out (by omega)).mono ?_
 rintro e w2 ⟨v1, rfl, hown, hb2⟩
 have HO := Lib.hid hown
 have HB := Lib.hid (HB.out.trans (hb2.mono HB.out.size))
 have HK := Lib.hid (HK.out.below hb2 HK.out.lt)
 have HP := Lib.hid (HP.out.below hb2 HP.out.lt)
 have HVs : Hid (V1.heap.size ≤ w2.heap.size) := hb2.size
 clear hown hb2
 obtain ⟨A5, c5, rfl, hc5, _⟩ := own_slv HO.out
 have HC5 := Lib.hid hc5
 clear hc5
 go_simp
 refine hK.out _ _ ?_ (fun hHeld => ?_)
 ·exact ⟨(HB.out.cell (p := ⟨b, 0, none⟩) hb).trans h0, (HB.out.cell (p := ⟨b, 1, none⟩) hb).trans h1, HP.out.rng⟩
 clear hK K
 try simp only [Act.put, pS]
 refine takeA 9 ?_
 try simp only [Act.put, pS]
 refine comeA 10 fun K hK => ?_
 go_simp
 obtain ⟨W3, hW3⟩ : ∃ W7, w2.alloc (.cells #[.int .u64 cap, .slice A5 n c5] 116) = W7 := ⟨_, rfl⟩
 have hb3 : Below w2.heap.size w2 W3 := by rw [← hW3]; exact (Below.refl _ _).alloc (Nat.le_refl _) _
 have HN : Hid (Bk W3 w2.heap.size 116 #[.int .u64 cap, .slice A5 n c5]) := by show Bk _ _ _ _; rw [← hW3]; exact Bk.new _ _ _
 have HO := Lib.hid (own_below HO.out hb3)
 have HB := Lib.hid (HB.out.trans (hb3.mono HB.out.size))
 have HK := Lib.hid (HK.out.below hb3 HK.out.lt)
 have HP := Lib.hid (HP.out.below hb3 HP.out.lt)
 rw [hW3]
 clear hW3 hb3
 obtain ⟨gN, hgN⟩ : ∃ gN, w2.heap.size = gN := ⟨_, rfl⟩
 rw [hgN] at HN HVs ⊢
 clear hgN
 refine hK.out _ _ ?_ (fun hHeld => ?_)
 ·exact ⟨(HB.out.cell (p := ⟨b, 0, none⟩) hb).trans h0, (HB.out.cell (p := ⟨b, 1, none⟩) hb).trans h1, HP.out.rng⟩
 clear hK K
 try simp only [Act.put, pS]
 refine takeA 11 ?_
 try simp only [Act.put, pS]
 refine wpAnyH_done (by kernel_rfl) ?_ _
 try simp only [Act.put, pS]
 clear hHeld
 have kc0 := HK.out.cell 0
 have kc1 := HK.out.cell 1
 have kf := HK.out.lt
 have kg0 := HK.out.frozen 0
 have kg1 := HK.out.frozen 1
 have hsz := HB.out.size
 have q0 : W3.cell? ⟨b, 0, none⟩ = some (.int .u64 cap) := (HB.out.cell (p := ⟨b, 0, none⟩) hb).trans h0
 have q1 : W3.cell? ⟨b, 1, none⟩ = some (.slice A n c) := (HB.out.cell (p := ⟨b, 1, none⟩) hb).trans h1
 cases there
 ·have hna : a ∉ l.map (·.1) := fun h => by have := HAt.out.is.2 h; simp at this
  have HNa := Lib.hid hna
  clear hna
  have hq' : tS 3 a v cap l = some (cap, l) := by unfold tS; rw [if_neg (by omega), if_pos rfl, delT_not HNa.out]
  have HE := Lib.hid hq'
  clear hq'
  go_wp2
  refine bodyPost_ret (results_tc rfl _ _ (w.heap.size + 1) 47 _ _ (by rfl) ((HK.out.set_ 0 _).set_ 1 _) Tryz.underlying47 rfl info_res) rfl ?_
  exact ⟨.pointer (some ⟨b, 0, none⟩), _, rfl, (by rw [HE.out]; exact HQ.out.below (((HB.out.setCell (Nat.le_succ _) _).setCell (Nat.le_succ _) _))), ⟨_, rfl⟩, ⟨_, _, rfl⟩, ((HB.out.setCell (Nat.le_succ _) _).setCell (Nat.le_succ _) _)⟩
 ·have hia := HAt.out.at_ rfl
  have hin : i < n := by rw [← HLm.out]; exact (List.getElem?_eq_some_iff.1 hia).1
  obtain ⟨x0, hx0⟩ : ∃ x, l[i]? = some x := ⟨_, List.getElem?_eq_getElem (by rw [HL.out]; exact hin)⟩
  have hxa : x0.1 = a := by rw [List.getElem?_map, hx0] at hia; simpa using hia
  have HX0 := Lib.hid hx0
  have HXa := Lib.hid hxa
  clear hia hx0 hxa
  have hq' : tS 3 a v cap l = some (cap, l.take i ++ l.drop (i + 1)) := by unfold tS; rw [if_neg (by omega), if_pos rfl, delT_at HU.out HX0.out HXa.out]
  have HE := Lib.hid hq'
  clear hq'
  have hwi : IntKind.i64.wrap ((i : Int) + 1) = (i : Int) + 1 := by rw [IntKind.wrap_i64]; omega
  have kn1 : W3.cell? ⟨gN, 1, none⟩ = some (.slice A5 n c5) := HN.out.cell 1
  go_wp2_with fail
  have HVs4 : Hid (V1.heap.size ≤ W3.heap.size) := Nat.le_of_lt (Nat.lt_of_le_of_lt HVs.out HN.out.lt)
  refine (delP_any V1.heap.size (.slice A5 n c5) n i (pCells l) W3 HO.out hin (by omega) (pair_one l) HVs4.out).mono ?_
  rintro e W5 ⟨v5, rfl, hown5, hg5⟩
  have HO5 : Hid (W5.ownsRow V1.heap.size 112 2 v5 (n - 1) (pCells (l.take i ++ l.drop (i + 1)))) := by show World.ownsRow _ _ _ _ _ _ _; rw [pCells_app, ← pCells_take, ← pCells_drop]; exact hown5
  have HK := Lib.hid (HK.out.grown hg5 (fun e => by have := (HO.out.lt _ e).1; have := HM1.out; omega))
  have HP := Lib.hid (HP.out.grown hg5 (fun e => by have := (HO.out.lt _ e).1; have := HM1.out; omega))
  have HN := Lib.hid (HN.out.grown hg5 (fun e => HN.out.ne_own HO.out (by decide) e))
  have HB := Lib.hid (below_own HB.out HO.out hg5 (by have := HM1.out; omega) HB.out.size)
  clear hg5
  clear hown5 HO kn1 q0 q1 kc0 kc1 kf kg0 kg1 hsz
  obtain ⟨A6, c6, rfl, hc6, _⟩ := own_slv HO5.out
  have HC6 := Lib.hid hc6
  clear hc6
  have kc0 := HK.out.cell 0
  have kc1 := HK.out.cell 1
  have kf := HK.out.lt
  have kg0 := HK.out.frozen 0
  have kg1 := HK.out.frozen 1
  have hsz := HB.out.size
  have kn1 := HN.out.cell 1
  have kn2 := HN.out.frozen 1
  have HN6 := Lib.hid (HN.out.set_ 1 (.slice A6 (n - 1) c6))
  have HK6 := Lib.hid (bk_set_ne HK.out (p := ⟨gN, 1, none⟩) (u := .slice A6 (n - 1) c6) (fun e => by have e : gN = w.heap.size + 1 := e; have := HM1.out; have := HVs.out; omega))
  have HO6 := Lib.hid (own_set_ne HO5.out (p := ⟨gN, 1, none⟩) (HN.out.ne_own HO5.out (by decide)) (.slice A6 (n - 1) c6))
  have HB6 := Lib.hid (HB.out.setCell (p := ⟨gN, 1, none⟩) (show w.heap.size ≤ gN by have := HM1.out; have := HVs.out; omega) (.slice A6 (n - 1) c6))
  have hne7 : gN ≠ w.heap.size + 1 := by have := HM1.out; have := HVs.out; omega
  have hne8 : w.heap.size + 1 ≠ gN := fun e => hne7 e.symm
  go_wp2
  refine bodyPost_ret (results_tc rfl _ _ (w.heap.size + 1) 47 _ _ (by rfl) ((HK6.out.set_ 0 _).set_ 1 _) Tryz.underlying47 rfl info_res) rfl ?_
  exact ⟨.pointer (some ⟨gN, 0, none⟩), _, rfl, (by rw [HE.out]; exact t_made HO6.out HC6.out HN6.out HM1.out HVs.out _ _), ⟨_, rfl⟩, ⟨_, _, rfl⟩, ((HB6.out.setCell (Nat.le_succ _) _).setCell (Nat.le_succ _) _)⟩
end Go.Proofs.YtiiaingepbkikaaGreatDoor
