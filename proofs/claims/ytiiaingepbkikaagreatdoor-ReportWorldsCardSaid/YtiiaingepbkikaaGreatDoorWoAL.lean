import Derived.Test.YtiiaingepbkikaaGreatDoorWoAJ
import Derived.Test.YtiiaingepbkikaaGreatDoorWoAI
import Derived.Deep.RegionHeld3
import Derived.Deep.RegionLaw
import Derived.Test.YtiiaingepbkikaaGreatDoorWoAH
namespace Go.Proofs.YtiiaingepbkikaaGreatDoor
open Go.RowKit
set_option linter.unusedVariables false
set_option linter.unusedSimpArgs false
theorem insK_at {l : List Int} {a : Int} {i : Nat} {t : Bool} (h : AtK l a i t) : insK a l = l.take i ++ a :: l.drop i := by unfold insK; rw [h.take, h.drop]
theorem delK_none {l : List Int} {a : Int} (h : a ∉ l) : delK a l = l := by
 unfold delK
 exact List.filter_eq_self.2 fun x hx => by simp only [decide_eq_true_eq]; exact fun e => h (e ▸ hx)
theorem delK_at {l : List Int} {a : Int} {i : Nat} (hu : Up l) (hi : l[i]? = some a) : delK a l = l.take i ++ l.drop (i + 1) := by
 have hlt := (List.getElem?_eq_some_iff.1 hi).1
 have e : l = l.take i ++ a :: l.drop (i + 1) := by
  obtain ⟨_, rfl⟩ := List.getElem?_eq_some_iff.1 hi
  rw [List.getElem_cons_drop]
  exact (List.take_append_drop i l).symm
 have hu' := hu
 rw [e] at hu'
 obtain ⟨h1, h2, h3⟩ := List.pairwise_append.1 hu'
 have h4 := (List.pairwise_cons.1 h2).1
 unfold delK
 conv => lhs; rw [e]
 rw [List.filter_append, List.filter_cons]
 simp only [ne_eq, not_true_eq_false, decide_false, Bool.false_eq_true, if_false]
 rw [List.filter_eq_self.2 (fun x hx => by have := h3 x hx a (List.mem_cons_self ..); simp only [decide_eq_true_eq]; omega), List.filter_eq_self.2 (fun x hx => by have := h4 x hx; simp only [decide_eq_true_eq]; omega)]
set_option maxRecDepth 100000 in
set_option maxHeartbeats 8000000 in
theorem ckey_add (cap : Int) (l : List Int) (p : Value) (a : Int) (w : World) (hq : QIn w p (some (cap, l))) (hok : COk 100 (some (cap, l))) (ha : U64' a) :
 Calls Tryz.prog 68 #[p, .string ⟨#[97, 100, 100]⟩, .int .u64 a] w (DoesQ w (cS 1 a cap l)) := by
 have HQ := Lib.hid hq
 have HA := Lib.hid ha
 obtain ⟨b, A, n, c, hp0, hc, hb, h0, h1, hr, _⟩ := hq
 subst hp0
 have HR := Lib.hid hr
 have HC := Lib.hid hc
 have HL := Lib.hid hr.u64Len
 obtain ⟨⟨hc0, hc1⟩, hok2, hl, hup⟩ := hok
 have HM := Lib.hid hok2
 have HU := Lib.hid hup
 have hn : n ≤ 100 := by rw [← HL.out]; exact hl
 clear hr hc hok2 hl ha hup
 obtain ⟨W1, hW1⟩ : ∃ W1, w.alloc (.cells #[.int .i64 0, .int .u64 0] 47) = W1 := ⟨_, rfl⟩
 have HK : Hid (Bk W1 w.heap.size 47 #[.int .i64 0, .int .u64 0]) := by show Bk _ _ _ _; rw [← hW1]; exact Bk.new w _ _
 have HB : Hid (Below w.heap.size w W1) := by show Below _ _ _; rw [← hW1]; exact (Below.refl _ _).alloc (Nat.le_refl _) _
 have HW1 := Lib.hid hW1
 clear hW1
 have q0 : W1.cell? ⟨b, 0, none⟩ = some (.int .u64 cap) := (HB.out.cell (p := ⟨b, 0, none⟩) hb).trans h0
 have q1 : W1.cell? ⟨b, 1, none⟩ = some (.slice A n c) := (HB.out.cell (p := ⟨b, 1, none⟩) hb).trans h1
 go_enter Tryz.func68, Tryz.ntmps68
 go_upto_region 1 with fail
 rw [HW1.out]
 clear HW1
 go_wp2_with fail
 refine (search_any l A n c a W1 ((HR.out.below HB.out).more HB.out.size) HU.out (by omega)).mono ?_
 rintro e w1 ⟨⟨i, there, rfl, hat⟩, hw1⟩
 rw [hw1]
 clear hw1
 have HAt := Lib.hid hat
 have hil := hat.le
 rw [HL.out] at hil
 clear hat
 have kc0 := HK.out.cell 0
 have kc1 := HK.out.cell 1
 have kf := HK.out.lt
 have kg0 := HK.out.frozen 0
 have kg1 := HK.out.frozen 1
 have hsz := HB.out.size
 cases there
 ·have hna : a ∉ l := fun h => by have := HAt.out.is.2 h; simp at this
  by_cases hfull : cap ≤ (n : Int)
  ·have hq' : cS 1 a cap l = some (cap, l) := by unfold cS; rw [if_pos rfl, if_neg hna, if_pos (by rw [HL.out]; exact hfull)]
   have HE := Lib.hid hq'
   clear hq'
   clear hna
   have hdf : decide (cap ≤ (n : Int)) = true := decide_eq_true hfull
   have hwn : IntKind.u64.wrap (n : Int) = (n : Int) := by rw [IntKind.wrap_u64]; omega
   go_wp2_with fail
   refine wp_region_held_drew (S := (fun w' => w'.cell? ⟨b, 0, none⟩ = some (.int .u64 cap) ∧ w'.cell? ⟨b, 1, none⟩ = some (.slice A n c))) (by kernel_rfl) ?_ (fun hHeld => ?_)
   ·exact ⟨q0, q1⟩
   refine takeA 0 ?_
   try simp only [Act.put, pS]
   refine takeA 1 ?_
   try simp only [Act.put, pS]
   refine takeA 2 ?_
   try simp only [Act.put, pS]
   refine takeA 3 ?_
   try simp only [Act.put, pS]
   refine takeA 4 ?_
   try simp only [Act.put, pS]
   refine takeA 5 ?_
   try simp only [Act.put, pS]
   refine takeA 6 ?_
   try simp only [Act.put, pS]
   refine takeA 7 ?_
   try simp only [Act.put, pS]
   refine takeA 8 ?_
   try simp only [Act.put, pS]
   refine takeA 9 ?_
   try simp only [Act.put, pS]
   refine takeA 10 ?_
   try simp only [Act.put, pS]
   refine takeA 11 ?_
   try simp only [Act.put, pS]
   obtain ⟨W8, hV0⟩ : ∃ V0, W1.drew = V0 := ⟨_, rfl⟩
   have HK : Hid (Bk W8 w.heap.size 47 #[.int .i64 0, .int .u64 0]) := by show Bk _ _ _ _; rw [← hV0]; exact HK.out
   have HB : Hid (Below w.heap.size w W8) := by show Below _ _ _; rw [← hV0]; exact HB.out.drew
   rw [hV0] at hHeld ⊢
   clear hV0 kc0 kc1 kf kg0 kg1 hsz q0 q1
   refine wpAnyH_done (by kernel_rfl) ?_ _
   try simp only [Act.put, pS]
   clear hHeld
   have q0 : W8.cell? ⟨b, 0, none⟩ = some (.int .u64 cap) := (HB.out.cell (p := ⟨b, 0, none⟩) hb).trans h0
   have q1 : W8.cell? ⟨b, 1, none⟩ = some (.slice A n c) := (HB.out.cell (p := ⟨b, 1, none⟩) hb).trans h1
   have kc0 := HK.out.cell 0
   have kc1 := HK.out.cell 1
   have kf := HK.out.lt
   have kg0 := HK.out.frozen 0
   have kg1 := HK.out.frozen 1
   have hsz := HB.out.size
   go_wp2
   refine bodyPost_ret (results_tc rfl _ _ w.heap.size 47 _ _ (by rfl) (((HK.out.set_ 0 _).set_ 1 _).alloc _) Tryz.underlying47 rfl info_res) rfl ?_
   exact ⟨.pointer (some ⟨b, 0, none⟩), _, rfl, (by rw [HE.out]; exact HQ.out.below (((HB.out.setCell (Nat.le_refl _) _).setCell (Nat.le_refl _) _).alloc (by simp; omega) _)), ⟨_, rfl⟩, ⟨_, _, rfl⟩, ((HB.out.setCell (Nat.le_refl _) _).setCell (Nat.le_refl _) _).alloc (by simp; omega) _⟩
  ·have hq' : cS 1 a cap l = some (cap, l.take i ++ a :: l.drop i) := by unfold cS; rw [if_pos rfl, if_neg hna, if_neg (by rw [HL.out]; exact hfull), insK_at HAt.out]
   have HE := Lib.hid hq'
   clear hq'
   clear hna
   have hdf : decide (cap ≤ (n : Int)) = false := decide_eq_false hfull
   have hwn : IntKind.u64.wrap (n : Int) = (n : Int) := by rw [IntKind.wrap_u64]; omega
   go_wp2_with fail
   refine wp_region_held_drew (S := (fun w' => w'.cell? ⟨b, 0, none⟩ = some (.int .u64 cap) ∧ w'.cell? ⟨b, 1, none⟩ = some (.slice A n c))) (by kernel_rfl) ?_ (fun hHeld => ?_)
   ·exact ⟨q0, q1⟩
   refine takeA 0 ?_
   try simp only [Act.put, pS]
   refine takeA 1 ?_
   try simp only [Act.put, pS]
   refine takeA 2 ?_
   try simp only [Act.put, pS]
   refine takeA 3 ?_
   try simp only [Act.put, pS]
   refine takeA 4 ?_
   try simp only [Act.put, pS]
   refine takeA 5 ?_
   try simp only [Act.put, pS]
   refine takeA 6 ?_
   try simp only [Act.put, pS]
   refine takeA 7 ?_
   try simp only [Act.put, pS]
   refine takeA 8 ?_
   try simp only [Act.put, pS]
   refine takeA 9 ?_
   try simp only [Act.put, pS]
   refine takeA 10 ?_
   try simp only [Act.put, pS]
   refine takeA 11 ?_
   try simp only [Act.put, pS]
   obtain ⟨W8, hV0⟩ : ∃ V0, W1.drew = V0 := ⟨_, rfl⟩
   have HK : Hid (Bk W8 w.heap.size 47 #[.int .i64 0, .int .u64 0]) := by show Bk _ _ _ _; rw [← hV0]; exact HK.out
   have HB : Hid (Below w.heap.size w W8) := by show Below _ _ _; rw [← hV0]; exact HB.out.drew
   rw [hV0] at hHeld ⊢
   clear hV0 kc0 kc1 kf kg0 kg1 hsz q0 q1
   refine wpAnyH_done (by kernel_rfl) ?_ _
   try simp only [Act.put, pS]
   clear hHeld
   have q0 : W8.cell? ⟨b, 0, none⟩ = some (.int .u64 cap) := (HB.out.cell (p := ⟨b, 0, none⟩) hb).trans h0
   have q1 : W8.cell? ⟨b, 1, none⟩ = some (.slice A n c) := (HB.out.cell (p := ⟨b, 1, none⟩) hb).trans h1
   have kc0 := HK.out.cell 0
   have kc1 := HK.out.cell 1
   have kf := HK.out.lt
   have kg0 := HK.out.frozen 0
   have kg1 := HK.out.frozen 1
   have hsz := HB.out.size
   go_wp2_with fail
   refine wp_region_held_drew (S := (fun w' => w'.cell? ⟨b, 0, none⟩ = some (.int .u64 cap) ∧ w'.cell? ⟨b, 1, none⟩ = some (.slice A n c))) (by kernel_rfl) ?_ (fun hHeld => ?_)
   ·exact ⟨q0, q1⟩
   refine takeA 0 ?_
   try simp only [Act.put, pS]
   refine takeA 1 ?_
   try simp only [Act.put, pS]
   refine takeA 2 ?_
   try simp only [Act.put, pS]
   refine takeA 3 ?_
   try simp only [Act.put, pS]
   refine takeA 4 ?_
   try simp only [Act.put, pS]
   refine takeA 5 ?_
   try simp only [Act.put, pS]
   refine takeA 6 ?_
   try simp only [Act.put, pS]
   refine takeA 7 ?_
   try simp only [Act.put, pS]
   refine takeA 9 ?_
   try simp only [Act.put, pS]
   refine takeA 10 ?_
   try simp only [Act.put, pS]
   refine takeA 15 ?_
   try simp only [Act.put, pS]
   obtain ⟨V0, hV0⟩ : ∃ V0, W8.drew = V0 := ⟨_, rfl⟩
   have HK : Hid (Bk V0 w.heap.size 47 #[.int .i64 0, .int .u64 0]) := by show Bk _ _ _ _; rw [← hV0]; exact HK.out
   have HB : Hid (Below w.heap.size w V0) := by show Below _ _ _; rw [← hV0]; exact HB.out.drew
   rw [hV0] at hHeld ⊢
   clear hV0 kc0 kc1 kf kg0 kg1 hsz q0 q1
   have HM0 : Hid (w.heap.size < V0.heap.size) := HK.out.lt
   have HRv := Lib.hid ((HR.out.below HB.out).more HB.out.size)
   have HVs : Hid (V0.heap.size ≤ V0.heap.size) := Nat.le_refl _
   refine comeH2 8 11 rfl rfl rfl rfl rfl rfl rfl rfl (by kernel_rfl) (by rfl) (by rfl) (fun K hK => ?_) (fun K hK => ?_)
   ·go_simp
    refine (cloneU_any l A n c _ HRv.out HC.out (by omega)).mono ?_
    rintro e w1 ⟨v1, rfl, hown, hb1⟩
    have HO : Hid (w1.ownsRow V0.heap.size 32 1 v1 n (l.map (Value.int .u64))) := own_base hown HVs.out
    have HB := Lib.hid (HB.out.trans (hb1.mono HB.out.size))
    have HK := Lib.hid (HK.out.below hb1 HK.out.lt)
    have HVs : Hid (V0.heap.size ≤ w1.heap.size) := Nat.le_trans HVs.out hb1.size
    have HNw : Hid (∀ k, v1.ownBlock = some k → k = w1.heap.size → False) := fun k hk e => by have := (HO.out.lt k hk).2; omega
    clear hown hb1
    go_simp
    refine hK.out _ _ ?_ (fun hHeld => ?_)
    ·exact ⟨(HB.out.cell (p := ⟨b, 0, none⟩) hb).trans h0, (HB.out.cell (p := ⟨b, 1, none⟩) hb).trans h1⟩
    clear hK K
    try simp only [Act.put, pS]
    refine comeA 11 fun K hK => ?_
    go_simp
    obtain ⟨W2, hW7⟩ : ∃ W7, w1.alloc (.cells #[.int .u64 a] 32) = W7 := ⟨_, rfl⟩
    have hb7 : Below w1.heap.size w1 W2 := by rw [← hW7]; exact (Below.refl _ _).alloc (Nat.le_refl _) _
    have HN : Hid (Bk W2 w1.heap.size 32 #[.int .u64 a]) := by show Bk _ _ _ _; rw [← hW7]; exact Bk.new _ _ _
    have HO := Lib.hid (own_below HO.out hb7)
    have HB := Lib.hid (HB.out.trans (hb7.mono HB.out.size))
    have HK := Lib.hid (HK.out.below hb7 HK.out.lt)
    have HVs : Hid (V0.heap.size ≤ W2.heap.size) := Nat.le_trans HVs.out hb7.size
    rw [hW7]
    have HNe : Hid (v1.ownBlock ≠ some w1.heap.size) := fun e => HNw.out _ e rfl
    clear hW7 hb7
    refine hK.out _ _ ?_ (fun hHeld => ?_)
    ·exact ⟨(HB.out.cell (p := ⟨b, 0, none⟩) hb).trans h0, (HB.out.cell (p := ⟨b, 1, none⟩) hb).trans h1⟩
    clear hK K
    try simp only [Act.put, pS]
    refine comeA 12 fun K hK => ?_
    go_simp
    refine (insU_any V0.heap.size v1 n i w1.heap.size (l.map (Value.int .u64)) [.int .u64 a] W2 HO.out hil (by omega) (u64_one l) (by intro u hu; simp at hu; subst hu; rfl) HVs.out rfl HN.out HNe.out).mono ?_
    rintro e w5 ⟨v5, rfl, hown5, hg5⟩
    have HO5 : Hid (w5.ownsRow V0.heap.size 32 1 v5 (n + 1) ((l.take i ++ a :: l.drop i).map (Value.int .u64))) := by show World.ownsRow _ _ _ _ _ _ _; rw [List.map_append, List.map_cons, List.map_take, List.map_drop]; simpa using hown5
    have HK := Lib.hid (HK.out.grown hg5 (fun e => by have := (HO.out.lt _ e).1; have := HM0.out; omega))
    have HB := Lib.hid (below_own HB.out HO.out hg5 (Nat.le_of_lt HM0.out) HB.out.size)
    have HVs : Hid (V0.heap.size ≤ w5.heap.size) := Nat.le_trans HVs.out hg5.size
    clear hown5 hg5 HO HN HNe
    obtain ⟨A5, c5, rfl, hc5, _⟩ := own_slv HO5.out
    have HC5 := Lib.hid hc5
    clear hc5
    go_simp
    refine hK.out _ _ ?_ (fun hHeld => ?_)
    ·exact ⟨(HB.out.cell (p := ⟨b, 0, none⟩) hb).trans h0, (HB.out.cell (p := ⟨b, 1, none⟩) hb).trans h1⟩
    clear hK K
    try simp only [Act.put, pS]
    refine takeA 13 ?_
    try simp only [Act.put, pS]
    refine comeA 14 fun K hK => ?_
    go_simp
    obtain ⟨W8, hW8⟩ : ∃ W7, w5.alloc (.cells #[.int .u64 cap, .slice A5 (n + 1) c5] 110) = W7 := ⟨_, rfl⟩
    have hb8 : Below w5.heap.size w5 W8 := by rw [← hW8]; exact (Below.refl _ _).alloc (Nat.le_refl _) _
    have HN : Hid (Bk W8 w5.heap.size 110 #[.int .u64 cap, .slice A5 (n + 1) c5]) := by show Bk _ _ _ _; rw [← hW8]; exact Bk.new _ _ _
    have HO8 := Lib.hid (own_below HO5.out hb8)
    have HB := Lib.hid (HB.out.trans (hb8.mono HB.out.size))
    have HK := Lib.hid (HK.out.below hb8 HK.out.lt)
    rw [hW8]
    clear hW8 hb8 HO5
    refine hK.out _ _ ?_ (fun hHeld => ?_)
    ·exact ⟨(HB.out.cell (p := ⟨b, 0, none⟩) hb).trans h0, (HB.out.cell (p := ⟨b, 1, none⟩) hb).trans h1⟩
    clear hK K
    try simp only [Act.put, pS]
    refine takeA 16 ?_
    try simp only [Act.put, pS]
    refine comeA 17 fun K hK => ?_
    have kc0 := HK.out.cell 0
    have kc1 := HK.out.cell 1
    have kf := HK.out.lt
    have kg0 := HK.out.frozen 0
    have kg1 := HK.out.frozen 1
    have hsz := HB.out.size
    go_simp
    refine hK.out _ _ ?_ (fun hHeld => ?_)
    ·exact ⟨((((HB.out.setCell (Nat.le_refl _) _).setCell (Nat.le_refl _) _)).cell (p := ⟨b, 0, none⟩) hb).trans h0, ((((HB.out.setCell (Nat.le_refl _) _).setCell (Nat.le_refl _) _)).cell (p := ⟨b, 1, none⟩) hb).trans h1⟩
    clear hK K
    try simp only [Act.put, pS]
    refine wpAnyH_done (by kernel_rfl) ?_ _
    try simp only [Act.put, pS]
    clear hHeld
    go_wp2
    refine bodyPost_ret (results_tc rfl _ _ w.heap.size 47 _ _ (by rfl) ((HK.out.set_ 0 _).set_ 1 _) Tryz.underlying47 rfl info_res) rfl ?_
    exact ⟨.pointer (some ⟨w5.heap.size, 0, none⟩), _, rfl, (by rw [HE.out]; exact q_made HO8.out HC5.out HN.out HM0.out HVs.out _ _), ⟨_, rfl⟩, ⟨_, _, rfl⟩, ((HB.out.setCell (Nat.le_refl _) _).setCell (Nat.le_refl _) _)⟩
   ·go_simp
    obtain ⟨W2, hW7⟩ : ∃ W7, V0.alloc (.cells #[.int .u64 a] 32) = W7 := ⟨_, rfl⟩
    have hb7 : Below V0.heap.size V0 W2 := by rw [← hW7]; exact (Below.refl _ _).alloc (Nat.le_refl _) _
    have HN : Hid (Bk W2 V0.heap.size 32 #[.int .u64 a]) := by show Bk _ _ _ _; rw [← hW7]; exact Bk.new _ _ _
    have HB := Lib.hid (HB.out.trans (hb7.mono HB.out.size))
    have HK := Lib.hid (HK.out.below hb7 HK.out.lt)
    have HVs : Hid (V0.heap.size ≤ W2.heap.size) := Nat.le_trans HVs.out hb7.size
    rw [hW7]
    have HRv := Lib.hid ((HRv.out.below hb7).more hb7.size)
    clear hW7 hb7
    refine hK.out _ _ ?_ (fun hHeld => ?_)
    ·exact ⟨(HB.out.cell (p := ⟨b, 0, none⟩) hb).trans h0, (HB.out.cell (p := ⟨b, 1, none⟩) hb).trans h1⟩
    clear hK K
    try simp only [Act.put, pS]
    refine comeA 8 fun K hK => ?_
    go_simp
    refine (cloneU_any l A n c _ HRv.out HC.out (by omega)).mono ?_
    rintro e w1 ⟨v1, rfl, hown, hb1⟩
    have HO : Hid (w1.ownsRow V0.heap.size 32 1 v1 n (l.map (Value.int .u64))) := own_base hown HVs.out
    have HB := Lib.hid (HB.out.trans (hb1.mono HB.out.size))
    have HK := Lib.hid (HK.out.below hb1 HK.out.lt)
    have HVs : Hid (V0.heap.size ≤ w1.heap.size) := Nat.le_trans HVs.out hb1.size
    have HNe : Hid (v1.ownBlock ≠ some V0.heap.size) := fun e => by have h3 := (hown.lt _ e).1; have h4 := HN.out.lt; omega
    have HN := Lib.hid (HN.out.below hb1 HN.out.lt)
    clear hown hb1
    go_simp
    refine hK.out _ _ ?_ (fun hHeld => ?_)
    ·exact ⟨(HB.out.cell (p := ⟨b, 0, none⟩) hb).trans h0, (HB.out.cell (p := ⟨b, 1, none⟩) hb).trans h1⟩
    clear hK K
    try simp only [Act.put, pS]
    refine comeA 12 fun K hK => ?_
    go_simp
    refine (insU_any V0.heap.size v1 n i V0.heap.size (l.map (Value.int .u64)) [.int .u64 a] w1 HO.out hil (by omega) (u64_one l) (by intro u hu; simp at hu; subst hu; rfl) HVs.out rfl HN.out HNe.out).mono ?_
    rintro e w5 ⟨v5, rfl, hown5, hg5⟩
    have HO5 : Hid (w5.ownsRow V0.heap.size 32 1 v5 (n + 1) ((l.take i ++ a :: l.drop i).map (Value.int .u64))) := by show World.ownsRow _ _ _ _ _ _ _; rw [List.map_append, List.map_cons, List.map_take, List.map_drop]; simpa using hown5
    have HK := Lib.hid (HK.out.grown hg5 (fun e => by have := (HO.out.lt _ e).1; have := HM0.out; omega))
    have HB := Lib.hid (below_own HB.out HO.out hg5 (Nat.le_of_lt HM0.out) HB.out.size)
    have HVs : Hid (V0.heap.size ≤ w5.heap.size) := Nat.le_trans HVs.out hg5.size
    clear hown5 hg5 HO HN HNe
    obtain ⟨A5, c5, rfl, hc5, _⟩ := own_slv HO5.out
    have HC5 := Lib.hid hc5
    clear hc5
    go_simp
    refine hK.out _ _ ?_ (fun hHeld => ?_)
    ·exact ⟨(HB.out.cell (p := ⟨b, 0, none⟩) hb).trans h0, (HB.out.cell (p := ⟨b, 1, none⟩) hb).trans h1⟩
    clear hK K
    try simp only [Act.put, pS]
    refine takeA 13 ?_
    try simp only [Act.put, pS]
    refine comeA 14 fun K hK => ?_
    go_simp
    obtain ⟨W8, hW8⟩ : ∃ W7, w5.alloc (.cells #[.int .u64 cap, .slice A5 (n + 1) c5] 110) = W7 := ⟨_, rfl⟩
    have hb8 : Below w5.heap.size w5 W8 := by rw [← hW8]; exact (Below.refl _ _).alloc (Nat.le_refl _) _
    have HN : Hid (Bk W8 w5.heap.size 110 #[.int .u64 cap, .slice A5 (n + 1) c5]) := by show Bk _ _ _ _; rw [← hW8]; exact Bk.new _ _ _
    have HO8 := Lib.hid (own_below HO5.out hb8)
    have HB := Lib.hid (HB.out.trans (hb8.mono HB.out.size))
    have HK := Lib.hid (HK.out.below hb8 HK.out.lt)
    rw [hW8]
    clear hW8 hb8 HO5
    refine hK.out _ _ ?_ (fun hHeld => ?_)
    ·exact ⟨(HB.out.cell (p := ⟨b, 0, none⟩) hb).trans h0, (HB.out.cell (p := ⟨b, 1, none⟩) hb).trans h1⟩
    clear hK K
    try simp only [Act.put, pS]
    refine takeA 16 ?_
    try simp only [Act.put, pS]
    refine comeA 17 fun K hK => ?_
    have kc0 := HK.out.cell 0
    have kc1 := HK.out.cell 1
    have kf := HK.out.lt
    have kg0 := HK.out.frozen 0
    have kg1 := HK.out.frozen 1
    have hsz := HB.out.size
    go_simp
    refine hK.out _ _ ?_ (fun hHeld => ?_)
    ·exact ⟨((((HB.out.setCell (Nat.le_refl _) _).setCell (Nat.le_refl _) _)).cell (p := ⟨b, 0, none⟩) hb).trans h0, ((((HB.out.setCell (Nat.le_refl _) _).setCell (Nat.le_refl _) _)).cell (p := ⟨b, 1, none⟩) hb).trans h1⟩
    clear hK K
    try simp only [Act.put, pS]
    refine wpAnyH_done (by kernel_rfl) ?_ _
    try simp only [Act.put, pS]
    clear hHeld
    go_wp2
    refine bodyPost_ret (results_tc rfl _ _ w.heap.size 47 _ _ (by rfl) ((HK.out.set_ 0 _).set_ 1 _) Tryz.underlying47 rfl info_res) rfl ?_
    exact ⟨.pointer (some ⟨w5.heap.size, 0, none⟩), _, rfl, (by rw [HE.out]; exact q_made HO8.out HC5.out HN.out HM0.out HVs.out _ _), ⟨_, rfl⟩, ⟨_, _, rfl⟩, ((HB.out.setCell (Nat.le_refl _) _).setCell (Nat.le_refl _) _)⟩
 ·have hma : a ∈ l := HAt.out.is.1 rfl
  have hq' : cS 1 a cap l = some (cap, l) := by unfold cS; rw [if_pos rfl, if_pos hma]
  have HE := Lib.hid hq'
  clear hq'
  clear hma
  go_wp2
  refine bodyPost_ret (results_tc rfl _ _ w.heap.size 47 _ _ (by rfl) ((HK.out.set_ 0 _).set_ 1 _) Tryz.underlying47 rfl info_res) rfl ?_
  exact ⟨.pointer (some ⟨b, 0, none⟩), _, rfl, (by rw [HE.out]; exact HQ.out.below (((HB.out.setCell (Nat.le_refl _) _).setCell (Nat.le_refl _) _))), ⟨_, rfl⟩, ⟨_, _, rfl⟩, ((HB.out.setCell (Nat.le_refl _) _).setCell (Nat.le_refl _) _)⟩
set_option maxRecDepth 100000 in
set_option maxHeartbeats 8000000 in
theorem ckey_del (cap : Int) (l : List Int) (p : Value) (a : Int) (w : World) (hq : QIn w p (some (cap, l))) (hok : COk 100 (some (cap, l))) (ha : U64' a) :
 Calls Tryz.prog 68 #[p, .string ⟨#[100, 101, 108]⟩, .int .u64 a] w (DoesQ w (cS 2 a cap l)) := by
 have HQ := Lib.hid hq
 have HA := Lib.hid ha
 obtain ⟨b, A, n, c, hp0, hc, hb, h0, h1, hr, _⟩ := hq
 subst hp0
 have HR := Lib.hid hr
 have HC := Lib.hid hc
 have HL := Lib.hid hr.u64Len
 obtain ⟨⟨hc0, hc1⟩, hok2, hl, hup⟩ := hok
 have HM := Lib.hid hok2
 have HU := Lib.hid hup
 have hn : n ≤ 100 := by rw [← HL.out]; exact hl
 clear hr hc hok2 hl ha hup
 obtain ⟨W1, hW1⟩ : ∃ W1, w.alloc (.cells #[.int .i64 0, .int .u64 0] 47) = W1 := ⟨_, rfl⟩
 have HK : Hid (Bk W1 w.heap.size 47 #[.int .i64 0, .int .u64 0]) := by show Bk _ _ _ _; rw [← hW1]; exact Bk.new w _ _
 have HB : Hid (Below w.heap.size w W1) := by show Below _ _ _; rw [← hW1]; exact (Below.refl _ _).alloc (Nat.le_refl _) _
 have HW1 := Lib.hid hW1
 clear hW1
 have q0 : W1.cell? ⟨b, 0, none⟩ = some (.int .u64 cap) := (HB.out.cell (p := ⟨b, 0, none⟩) hb).trans h0
 have q1 : W1.cell? ⟨b, 1, none⟩ = some (.slice A n c) := (HB.out.cell (p := ⟨b, 1, none⟩) hb).trans h1
 go_enter Tryz.func68, Tryz.ntmps68
 go_upto_region 1 with fail
 rw [HW1.out]
 clear HW1
 go_wp2_with fail
 refine (search_any l A n c a W1 ((HR.out.below HB.out).more HB.out.size) HU.out (by omega)).mono ?_
 rintro e w1 ⟨⟨i, there, rfl, hat⟩, hw1⟩
 rw [hw1]
 clear hw1
 have HAt := Lib.hid hat
 have hil := hat.le
 rw [HL.out] at hil
 clear hat
 have kc0 := HK.out.cell 0
 have kc1 := HK.out.cell 1
 have kf := HK.out.lt
 have kg0 := HK.out.frozen 0
 have kg1 := HK.out.frozen 1
 have hsz := HB.out.size
 cases there
 ·have hna : a ∉ l := fun h => by have := HAt.out.is.2 h; simp at this
  have hq' : cS 2 a cap l = some (cap, l) := by unfold cS; rw [if_neg (by omega), if_pos rfl, delK_none hna]
  have HE := Lib.hid hq'
  clear hq'
  clear hna
  go_wp2
  refine bodyPost_ret (results_tc rfl _ _ w.heap.size 47 _ _ (by rfl) ((HK.out.set_ 0 _).set_ 1 _) Tryz.underlying47 rfl info_res) rfl ?_
  exact ⟨.pointer (some ⟨b, 0, none⟩), _, rfl, (by rw [HE.out]; exact HQ.out.below (((HB.out.setCell (Nat.le_refl _) _).setCell (Nat.le_refl _) _))), ⟨_, rfl⟩, ⟨_, _, rfl⟩, ((HB.out.setCell (Nat.le_refl _) _).setCell (Nat.le_refl _) _)⟩
 ·have hia := HAt.out.at_ rfl
  have hin : i < n := by rw [← HL.out]; exact (List.getElem?_eq_some_iff.1 hia).1
  have hq' : cS 2 a cap l = some (cap, l.take i ++ l.drop (i + 1)) := by unfold cS; rw [if_neg (by omega), if_pos rfl, delK_at HU.out hia]
  have HE := Lib.hid hq'
  clear hq'
  clear hia
  have hwi : IntKind.i64.wrap ((i : Int) + 1) = (i : Int) + 1 := by rw [IntKind.wrap_i64]; omega
  go_wp2_with fail
  refine wp_region_held_drew (S := (fun w' => w'.cell? ⟨b, 0, none⟩ = some (.int .u64 cap) ∧ w'.cell? ⟨b, 1, none⟩ = some (.slice A n c))) (by kernel_rfl) ?_ (fun hHeld => ?_)
  ·exact ⟨q0, q1⟩
  refine takeA 0 ?_
  try simp only [Act.put, pS]
  refine takeA 1 ?_
  try simp only [Act.put, pS]
  refine takeA 2 ?_
  try simp only [Act.put, pS]
  refine takeA 3 ?_
  try simp only [Act.put, pS]
  refine takeA 4 ?_
  try simp only [Act.put, pS]
  refine takeA 5 ?_
  try simp only [Act.put, pS]
  refine takeA 6 ?_
  try simp only [Act.put, pS]
  refine takeA 7 ?_
  try simp only [Act.put, pS]
  refine takeA 9 ?_
  try simp only [Act.put, pS]
  refine takeA 10 ?_
  try simp only [Act.put, pS]
  refine takeA 11 ?_
  try simp only [Act.put, pS]
  refine takeA 15 ?_
  try simp only [Act.put, pS]
  obtain ⟨V0, hV0⟩ : ∃ V0, W1.drew = V0 := ⟨_, rfl⟩
  have HK : Hid (Bk V0 w.heap.size 47 #[.int .i64 0, .int .u64 0]) := by show Bk _ _ _ _; rw [← hV0]; exact HK.out
  have HB : Hid (Below w.heap.size w V0) := by show Below _ _ _; rw [← hV0]; exact HB.out.drew
  rw [hV0] at hHeld ⊢
  clear hV0 kc0 kc1 kf kg0 kg1 hsz q0 q1
  have HM0 : Hid (w.heap.size < V0.heap.size) := HK.out.lt
  have HRv := Lib.hid ((HR.out.below HB.out).more HB.out.size)
  have HVs : Hid (V0.heap.size ≤ V0.heap.size) := Nat.le_refl _
  refine comeA 8 fun K hK => ?_
  go_simp
  refine (cloneU_any l A n c _ HRv.out HC.out (by omega)).mono ?_
  rintro e w1 ⟨v1, rfl, hown, hb1⟩
  have HO : Hid (w1.ownsRow V0.heap.size 32 1 v1 n (l.map (Value.int .u64))) := own_base hown HVs.out
  have HB := Lib.hid (HB.out.trans (hb1.mono HB.out.size))
  have HK := Lib.hid (HK.out.below hb1 HK.out.lt)
  have HVs : Hid (V0.heap.size ≤ w1.heap.size) := Nat.le_trans HVs.out hb1.size
  clear hown hb1
  go_simp
  refine hK.out _ _ ?_ (fun hHeld => ?_)
  ·exact ⟨(HB.out.cell (p := ⟨b, 0, none⟩) hb).trans h0, (HB.out.cell (p := ⟨b, 1, none⟩) hb).trans h1⟩
  clear hK K
  try simp only [Act.put, pS]
  refine comeA 12 fun K hK => ?_
  go_simp
  refine (delU_any V0.heap.size v1 n i (l.map (Value.int .u64)) w1 HO.out hin (by omega) (u64_one l) HVs.out).mono ?_
  rintro e w5 ⟨v5, rfl, hown5, hg5⟩
  have HO5 : Hid (w5.ownsRow V0.heap.size 32 1 v5 (n - 1) ((l.take i ++ l.drop (i + 1)).map (Value.int .u64))) := by show World.ownsRow _ _ _ _ _ _ _; rw [List.map_append, List.map_take, List.map_drop]; simpa using hown5
  have HK := Lib.hid (HK.out.grown hg5 (fun e => by have := (HO.out.lt _ e).1; have := HM0.out; omega))
  have HB := Lib.hid (below_own HB.out HO.out hg5 (Nat.le_of_lt HM0.out) HB.out.size)
  have HVs : Hid (V0.heap.size ≤ w5.heap.size) := Nat.le_trans HVs.out hg5.size
  clear hown5 hg5 HO
  obtain ⟨A5, c5, rfl, hc5, _⟩ := own_slv HO5.out
  have HC5 := Lib.hid hc5
  clear hc5
  go_simp
  refine hK.out _ _ ?_ (fun hHeld => ?_)
  ·exact ⟨(HB.out.cell (p := ⟨b, 0, none⟩) hb).trans h0, (HB.out.cell (p := ⟨b, 1, none⟩) hb).trans h1⟩
  clear hK K
  try simp only [Act.put, pS]
  refine takeA 13 ?_
  try simp only [Act.put, pS]
  refine comeA 14 fun K hK => ?_
  go_simp
  obtain ⟨W8, hW8⟩ : ∃ W7, w5.alloc (.cells #[.int .u64 cap, .slice A5 (n - 1) c5] 110) = W7 := ⟨_, rfl⟩
  have hb8 : Below w5.heap.size w5 W8 := by rw [← hW8]; exact (Below.refl _ _).alloc (Nat.le_refl _) _
  have HN : Hid (Bk W8 w5.heap.size 110 #[.int .u64 cap, .slice A5 (n - 1) c5]) := by show Bk _ _ _ _; rw [← hW8]; exact Bk.new _ _ _
  have HO8 := Lib.hid (own_below HO5.out hb8)
  have HB := Lib.hid (HB.out.trans (hb8.mono HB.out.size))
  have HK := Lib.hid (HK.out.below hb8 HK.out.lt)
  rw [hW8]
  clear hW8 hb8 HO5
  refine hK.out _ _ ?_ (fun hHeld => ?_)
  ·exact ⟨(HB.out.cell (p := ⟨b, 0, none⟩) hb).trans h0, (HB.out.cell (p := ⟨b, 1, none⟩) hb).trans h1⟩
  clear hK K
  try simp only [Act.put, pS]
  refine takeA 16 ?_
  try simp only [Act.put, pS]
  refine comeA 17 fun K hK => ?_
  have kc0 := HK.out.cell 0
  have kc1 := HK.out.cell 1
  have kf := HK.out.lt
  have kg0 := HK.out.frozen 0
  have kg1 := HK.out.frozen 1
  have hsz := HB.out.size
  go_simp
  refine hK.out _ _ ?_ (fun hHeld => ?_)
  ·exact ⟨((((HB.out.setCell (Nat.le_refl _) _).setCell (Nat.le_refl _) _)).cell (p := ⟨b, 0, none⟩) hb).trans h0, ((((HB.out.setCell (Nat.le_refl _) _).setCell (Nat.le_refl _) _)).cell (p := ⟨b, 1, none⟩) hb).trans h1⟩
  clear hK K
  try simp only [Act.put, pS]
  refine wpAnyH_done (by kernel_rfl) ?_ _
  try simp only [Act.put, pS]
  clear hHeld
  go_wp2
  refine bodyPost_ret (results_tc rfl _ _ w.heap.size 47 _ _ (by rfl) ((HK.out.set_ 0 _).set_ 1 _) Tryz.underlying47 rfl info_res) rfl ?_
  exact ⟨.pointer (some ⟨w5.heap.size, 0, none⟩), _, rfl, (by rw [HE.out]; exact q_made HO8.out HC5.out HN.out HM0.out HVs.out _ _), ⟨_, rfl⟩, ⟨_, _, rfl⟩, ((HB.out.setCell (Nat.le_refl _) _).setCell (Nat.le_refl _) _)⟩
set_option maxRecDepth 100000 in
set_option maxHeartbeats 8000000 in
theorem ckey_has (cap : Int) (l : List Int) (p : Value) (a : Int) (w : World) (hq : QIn w p (some (cap, l))) (hok : COk 100 (some (cap, l))) (ha : U64' a) :
 Calls Tryz.prog 68 #[p, .string ⟨#[104, 97, 115]⟩, .int .u64 a] w (DoesQ w (cS 3 a cap l)) := by
 have HQ := Lib.hid hq
 have HA := Lib.hid ha
 obtain ⟨b, A, n, c, hp0, hc, hb, h0, h1, hr, _⟩ := hq
 subst hp0
 have HR := Lib.hid hr
 have HC := Lib.hid hc
 have HL := Lib.hid hr.u64Len
 obtain ⟨⟨hc0, hc1⟩, hok2, hl, hup⟩ := hok
 have HM := Lib.hid hok2
 have HU := Lib.hid hup
 have hn : n ≤ 100 := by rw [← HL.out]; exact hl
 clear hr hc hok2 hl ha hup
 obtain ⟨W1, hW1⟩ : ∃ W1, w.alloc (.cells #[.int .i64 0, .int .u64 0] 47) = W1 := ⟨_, rfl⟩
 have HK : Hid (Bk W1 w.heap.size 47 #[.int .i64 0, .int .u64 0]) := by show Bk _ _ _ _; rw [← hW1]; exact Bk.new w _ _
 have HB : Hid (Below w.heap.size w W1) := by show Below _ _ _; rw [← hW1]; exact (Below.refl _ _).alloc (Nat.le_refl _) _
 have HW1 := Lib.hid hW1
 clear hW1
 have q0 : W1.cell? ⟨b, 0, none⟩ = some (.int .u64 cap) := (HB.out.cell (p := ⟨b, 0, none⟩) hb).trans h0
 have q1 : W1.cell? ⟨b, 1, none⟩ = some (.slice A n c) := (HB.out.cell (p := ⟨b, 1, none⟩) hb).trans h1
 go_enter Tryz.func68, Tryz.ntmps68
 go_upto_region 1 with fail
 rw [HW1.out]
 clear HW1
 go_wp2_with fail
 refine (search_any l A n c a W1 ((HR.out.below HB.out).more HB.out.size) HU.out (by omega)).mono ?_
 rintro e w1 ⟨⟨i, there, rfl, hat⟩, hw1⟩
 rw [hw1]
 clear hw1
 have HAt := Lib.hid hat
 have hil := hat.le
 rw [HL.out] at hil
 clear hat
 have kc0 := HK.out.cell 0
 have kc1 := HK.out.cell 1
 have kf := HK.out.lt
 have kg0 := HK.out.frozen 0
 have kg1 := HK.out.frozen 1
 have hsz := HB.out.size
 have hq' : cS 3 a cap l = some (cap, l) := by unfold cS; rw [if_neg (by omega), if_neg (by omega), if_neg (by simp)]
 have HE := Lib.hid hq'
 clear hq'
 cases there
 ·go_wp2
  refine bodyPost_ret (results_tc rfl _ _ w.heap.size 47 _ _ (by rfl) ((HK.out.set_ 0 _).set_ 1 _) Tryz.underlying47 rfl info_res) rfl ?_
  exact ⟨.pointer (some ⟨b, 0, none⟩), _, rfl, (by rw [HE.out]; exact HQ.out.below (((HB.out.setCell (Nat.le_refl _) _).setCell (Nat.le_refl _) _))), ⟨_, rfl⟩, ⟨_, _, rfl⟩, ((HB.out.setCell (Nat.le_refl _) _).setCell (Nat.le_refl _) _)⟩
 ·go_wp2
  refine bodyPost_ret (results_tc rfl _ _ w.heap.size 47 _ _ (by rfl) ((HK.out.set_ 0 _).set_ 1 _) Tryz.underlying47 rfl info_res) rfl ?_
  exact ⟨.pointer (some ⟨b, 0, none⟩), _, rfl, (by rw [HE.out]; exact HQ.out.below (((HB.out.setCell (Nat.le_refl _) _).setCell (Nat.le_refl _) _))), ⟨_, rfl⟩, ⟨_, _, rfl⟩, ((HB.out.setCell (Nat.le_refl _) _).setCell (Nat.le_refl _) _)⟩
end Go.Proofs.YtiiaingepbkikaaGreatDoor
