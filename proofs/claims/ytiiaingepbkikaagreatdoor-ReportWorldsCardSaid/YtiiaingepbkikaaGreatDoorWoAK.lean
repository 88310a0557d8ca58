import Derived.Test.YtiiaingepbkikaaGreatDoorWoAI
import Derived.Test.YtiiaingepbkikaaGreatDoorWoAJ
import Derived.Test.YtiiaingepbkikaaGreatDoorWoAH
namespace Go.Proofs.YtiiaingepbkikaaGreatDoor
open Go.RowKit
set_option linter.unusedVariables false
set_option linter.unusedSimpArgs false
def cmp3 (x y : Int) : Int := if x < y then -1 else if y < x then 1 else 0
set_option maxRecDepth 100000 in
theorem closure_any (x y u v : Int) (w : World) : Calls Tryz.prog 85 #[.agg #[.int .u64 x, .int .u64 u], .agg #[.int .u64 y, .int .u64 v]] w fun e w' => e = .returned (.int .i64 (cmp3 x y)) ∧ Below w.heap.size w w' := by
 have hb : Below w.heap.size w ((w.alloc (.cells #[.int .u64 x, .int .u64 u] 112)).alloc (.cells #[.int .u64 y, .int .u64 v] 112)) := ((Below.refl _ _).alloc (Nat.le_refl _) _).alloc (by simp) _
 rcases Int.lt_trichotomy x y with h | h | h
 ·have hc : cmp3 x y = -1 := by unfold cmp3; rw [if_pos h]
  rw [hc]
  go_enter Tryz.func85, Tryz.ntmps85
  go_wp2
  go_ret
  exact ⟨rfl, hb⟩
 ·subst h
  have hc : cmp3 x x = 0 := by unfold cmp3; rw [if_neg (by omega), if_neg (by omega)]
  rw [hc]
  go_enter Tryz.func85, Tryz.ntmps85
  go_wp2
  go_ret
  exact ⟨rfl, hb⟩
 ·have hc : cmp3 x y = 1 := by unfold cmp3; rw [if_neg (by omega), if_pos h]
  have hn : ¬ x < y := by omega
  rw [hc]
  go_enter Tryz.func85, Tryz.ntmps85
  go_wp2
  go_ret
  exact ⟨rfl, hb⟩
def SearchT (l : List (Int × Int)) (a : Int) (w : World) (e : Ending) (w' : World) : Prop := (∃ (i : Nat) (there : Bool), e = .returned (.tuple #[.int .i64 (i : Int), .bool there]) ∧ AtK (l.map (·.1)) a i there) ∧ Below w.heap.size w w'
theorem Bk.rng {w : World} {g : Nat} {t : TypeId} {cs : Array Value} (h : Bk w g t cs) : w.rangeAt g 0 cs.toList := by
 intro j v hv
 rw [Nat.zero_add, h.cell]; simpa using hv
theorem pair_range {w : World} {B n b o m : Nat} {l : List (Int × Int)} {x : Int × Int} (hc : ∀ j u, (pCells l)[j]? = some u → w.cell? ⟨b, o + j, none⟩ = some u) (hx : l[m]? = some x) : w.rangeAt b (o + m * 2) [.int .u64 x.1, .int .u64 x.2] := by
 obtain ⟨h0, h1⟩ := pCells_at hx
 intro j v hv
 rcases j with _ | _ | j
 ·have := hc _ _ h0; simp at hv; subst hv; exact this
 ·have := hc _ _ h1; simp at hv; subst hv; rw [← Nat.add_assoc] at this; exact this
 ·simp at hv
set_option maxRecDepth 100000 in
set_option maxHeartbeats 4000000 in
theorem tsearch_any (l : List (Int × Int)) (A : Option Addr) (n c : Nat) (a v : Int) (w : World) (hr : RdP w w.heap.size A n l) (hu : Up (l.map (·.1))) (hn : n ≤ 1000) :
 Calls Tryz.prog 84 #[.slice A n c, .agg #[.int .u64 a, .int .u64 v], .func (.func 85) #[] #[]] w (SearchT l a w) := by
 have HR := Lib.hid hr
 have HL := Lib.hid hr.pairLen
 have HLm : Hid ((l.map (·.1)).length = n) := by show _ = _; rw [List.length_map, HL.out]
 have HU := Lib.hid hu
 clear hr hu
 go_enter Tryz.func84, Tryz.ntmps84
 go_wp2
 go_loopw [9, 10] (fun i j wr => ∃ p q : Nat, (p ≤ q ∧ q ≤ n ∧ i = .int .i64 p ∧ j = .int .i64 q) ∧ Hid (Bk wr w.heap.size 112 #[.int .u64 a, .int .u64 v]) ∧ Hid (Below w.heap.size w wr) ∧ Hid (∀ k x, (l.map (·.1))[k]? = some x → (k < p → x < a) ∧ (q ≤ k → a ≤ x))) (fun i j _ => (intOf j).toNat - (intOf i).toNat)
 case atStart => exact ⟨0, n, ⟨by omega, by omega, rfl, rfl⟩, Bk.new _ _ _, (Below.refl _ _).alloc (Nat.le_refl _) _, fun k x hx => ⟨fun h => by omega, fun h => by have := (List.getElem?_eq_some_iff.1 hx).1; have := HLm.out; omega⟩⟩
 case round =>
  obtain ⟨p, q, ⟨hp, hq, rfl, rfl⟩, HT, HB, H⟩ := hrel
  by_cases hpq : p < q
  ·obtain ⟨b, o, rfl, hb, hc⟩ := HR.out.at_ (by omega)
   obtain ⟨m, hm⟩ : ∃ m, (p + q) / 2 = m := ⟨_, rfl⟩
   have hmq : p ≤ m ∧ m < q := by omega
   obtain ⟨x, hx⟩ : ∃ x, l[m]? = some x := ⟨_, List.getElem?_eq_getElem (by rw [HL.out]; omega)⟩
   have HX := Lib.hid hx
   have HM := Lib.hid hm
   have HXk : Hid ((l.map (·.1))[m]? = some x.1) := by show _ = _; rw [List.getElem?_map, hx]; rfl
   have HRg : Hid (∀ w1, Below w.heap.size w w1 → w1.rangeAt b (o + m * 2) [.int .u64 x.1, .int .u64 x.2]) := fun w1 h1 => pair_range (B := 0) (n := 0) (fun j u hu => (h1.cell (p := ⟨b, o + j, none⟩) hb).trans (hc j u hu)) hx
   have hmi : ((p : Int) + (q : Int)) / 2 = (m : Int) := by omega
   have hmn : m < n := by omega
   clear hc hx hm
   by_cases hxa : x.1 < a
   ·have hc3 : cmp3 x.1 a = -1 := by unfold cmp3; rw [if_pos hxa]
    go_upto_region 5 with fail
    refine wp_region_held_drew (S := (fun w' => w'.rangeAt b (o + m * 2) [.int .u64 x.1, .int .u64 x.2] ∧ w'.rangeAt w.heap.size 0 [.int .u64 a, .int .u64 v])) (by kernel_rfl) ?_ (fun hHeld => ?_)
    ·exact ⟨HRg.out _ HB.out.drew, HT.out.rng⟩
    refine takeA 0 ?_
    try simp only [Act.put, pS]
    refine takeA 1 ?_
    try simp only [Act.put, pS]
    refine takeA 2 ?_
    try simp only [Act.put, pS]
    refine takeA 3 ?_
    try simp only [Act.put, pS]
    refine loadA 4 #[.int .u64 x.1, .int .u64 x.2] Tryz.underlying112 rfl (by kernel_rfl) ?_ ?_
    ·(intro w hSw; exact hSw.1)
    try simp only [Act.put, pS]
    refine loadA 5 #[.int .u64 a, .int .u64 v] Tryz.underlying112 rfl (by kernel_rfl) ?_ ?_
    ·(intro w hSw; exact hSw.2)
    try simp only [Act.put, pS]
    obtain ⟨V, hV⟩ : ∃ V, wr.drew = V := ⟨_, rfl⟩
    have HB : Hid (Below w.heap.size w V) := by show Below _ _ _; rw [← hV]; exact HB.out.drew
    have HT : Hid (Bk V w.heap.size 112 #[.int .u64 a, .int .u64 v]) := by show Bk _ _ _ _; rw [← hV]; exact HT.out
    rw [hV] at hHeld ⊢
    clear hV
    refine comeA 6 fun K hK => ?_
    go_simp
    refine (closure_any x.1 a x.2 v _).mono ?_
    rintro e w5 ⟨rfl, hb5⟩
    have HB := Lib.hid (HB.out.trans (hb5.mono HB.out.size))
    have HT := Lib.hid (HT.out.below hb5 HT.out.lt)
    clear hb5
    go_simp
    refine hK.out _ _ ?_ (fun hHeld => ?_)
    ·exact ⟨HRg.out _ HB.out, HT.out.rng⟩
    clear hK K
    try simp only [Act.put, pS]
    refine takeA 7 ?_
    try simp only [Act.put, pS]
    refine wpAnyH_done (by kernel_rfl) ?_ _
    try simp only [Act.put, pS]
    clear hHeld
    go_wp2
    go_roundw
    case measure => simp [intOf]; have := HM.out; omega
    case rel =>
     refine ⟨m + 1, q, ⟨by omega, hq, by go_num, rfl⟩, HT.out, HB.out, fun k y hy => ⟨fun hk => ?_, (H.out k y hy).2⟩⟩
     rcases Nat.lt_or_ge k m with h | h
     ·have := up_lt HU.out hy HXk.out h; omega
     ·have : k = m := by omega
      subst this
      have := HXk.out
      rw [hy] at this
      injection this with this
      omega
   ·have hc3 : decide (cmp3 x.1 a < 0) = false := decide_eq_false (by unfold cmp3; rw [if_neg hxa]; split <;> omega)
    have hc4 : ¬ cmp3 x.1 a < 0 := of_decide_eq_false hc3
    go_upto_region 5 with fail
    refine wp_region_held_drew (S := (fun w' => w'.rangeAt b (o + m * 2) [.int .u64 x.1, .int .u64 x.2] ∧ w'.rangeAt w.heap.size 0 [.int .u64 a, .int .u64 v])) (by kernel_rfl) ?_ (fun hHeld => ?_)
    ·exact ⟨HRg.out _ HB.out.drew, HT.out.rng⟩
    refine takeA 0 ?_
    try simp only [Act.put, pS]
    refine takeA 1 ?_
    try simp only [Act.put, pS]
    refine takeA 2 ?_
    try simp only [Act.put, pS]
    refine takeA 3 ?_
    try simp only [Act.put, pS]
    refine loadA 4 #[.int .u64 x.1, .int .u64 x.2] Tryz.underlying112 rfl (by kernel_rfl) ?_ ?_
    ·(intro w hSw; exact hSw.1)
    try simp only [Act.put, pS]
    refine loadA 5 #[.int .u64 a, .int .u64 v] Tryz.underlying112 rfl (by kernel_rfl) ?_ ?_
    ·(intro w hSw; exact hSw.2)
    try simp only [Act.put, pS]
    obtain ⟨V, hV⟩ : ∃ V, wr.drew = V := ⟨_, rfl⟩
    have HB : Hid (Below w.heap.size w V) := by show Below _ _ _; rw [← hV]; exact HB.out.drew
    have HT : Hid (Bk V w.heap.size 112 #[.int .u64 a, .int .u64 v]) := by show Bk _ _ _ _; rw [← hV]; exact HT.out
    rw [hV] at hHeld ⊢
    clear hV
    refine comeA 6 fun K hK => ?_
    go_simp
    refine (closure_any x.1 a x.2 v _).mono ?_
    rintro e w5 ⟨rfl, hb5⟩
    have HB := Lib.hid (HB.out.trans (hb5.mono HB.out.size))
    have HT := Lib.hid (HT.out.below hb5 HT.out.lt)
    clear hb5
    go_simp
    refine hK.out _ _ ?_ (fun hHeld => ?_)
    ·exact ⟨HRg.out _ HB.out, HT.out.rng⟩
    clear hK K
    try simp only [Act.put, pS]
    refine takeA 7 ?_
    try simp only [Act.put, pS]
    refine wpAnyH_done (by kernel_rfl) ?_ _
    try simp only [Act.put, pS]
    clear hHeld
    go_wp2
    go_roundw
    case measure => simp [intOf]; have := HM.out; omega
    case rel =>
     refine ⟨p, m, ⟨by omega, by omega, rfl, rfl⟩, HT.out, HB.out, fun k y hy => ⟨(H.out k y hy).1, fun hk => ?_⟩⟩
     rcases Nat.lt_or_ge m k with h | h
     ·have := up_lt HU.out HXk.out hy h; omega
     ·have : k = m := by omega
      subst this
      have := HXk.out
      rw [hy] at this
      injection this with this
      omega
  ·obtain rfl : p = q := by omega
   have HA := Lib.hid (atK_of HU.out (by rw [HLm.out]; exact hq) H.out)
   by_cases hlt : p < n
   ·obtain ⟨b, o, rfl, hb, hc⟩ := HR.out.at_ (by omega)
    obtain ⟨x, hx⟩ : ∃ x, l[p]? = some x := ⟨_, List.getElem?_eq_getElem (by rw [HL.out]; omega)⟩
    have HXk : Hid ((l.map (·.1))[p]? = some x.1) := by show _ = _; rw [List.getElem?_map, hx]; rfl
    have HRg : Hid (∀ w1, Below w.heap.size w w1 → w1.rangeAt b (o + p * 2) [.int .u64 x.1, .int .u64 x.2]) := fun w1 h1 => pair_range (B := 0) (n := 0) (fun j u hu => (h1.cell (p := ⟨b, o + j, none⟩) hb).trans (hc j u hu)) hx
    clear hc hx
    obtain ⟨th, hth⟩ : ∃ th, (cmp3 x.1 a == 0) = th := ⟨_, rfl⟩
    have HT2 : Hid (decide ((l.map (·.1))[p]? = some a) = th) := by
     show _ = _
     rw [HXk.out, ← hth]
     unfold cmp3
     rcases Int.lt_trichotomy x.1 a with h | h | h
     ·have : x.1 ≠ a := by omega
      simp [h, this]
     ·simp [h]
     ·have h2 : x.1 ≠ a := by omega
      have h3 : ¬ x.1 < a := by omega
      simp [h, h2, h3]
    go_upto_region 8 with fail
    refine wp_region_held_drew (S := (fun w' => w'.rangeAt b (o + p * 2) [.int .u64 x.1, .int .u64 x.2] ∧ w'.rangeAt w.heap.size 0 [.int .u64 a, .int .u64 v])) (by kernel_rfl) ?_ (fun hHeld => ?_)
    ·exact ⟨HRg.out _ HB.out.drew, HT.out.rng⟩
    refine takeA 0 ?_
    try simp only [Act.put, pS]
    refine takeA 1 ?_
    try simp only [Act.put, pS]
    refine takeA 2 ?_
    try simp only [Act.put, pS]
    refine takeA 3 ?_
    try simp only [Act.put, pS]
    refine takeA 4 ?_
    try simp only [Act.put, pS]
    refine takeA 5 ?_
    try simp only [Act.put, pS]
    refine takeA 6 ?_
    try simp only [Act.put, pS]
    refine takeA 7 ?_
    try simp only [Act.put, pS]
    refine takeA 8 ?_
    try simp only [Act.put, pS]
    refine loadA 9 #[.int .u64 x.1, .int .u64 x.2] Tryz.underlying112 rfl (by kernel_rfl) ?_ ?_
    ·(intro w hSw; exact hSw.1)
    try simp only [Act.put, pS]
    refine loadA 10 #[.int .u64 a, .int .u64 v] Tryz.underlying112 rfl (by kernel_rfl) ?_ ?_
    ·(intro w hSw; exact hSw.2)
    try simp only [Act.put, pS]
    obtain ⟨V, hV⟩ : ∃ V, wr.drew = V := ⟨_, rfl⟩
    have HB : Hid (Below w.heap.size w V) := by show Below _ _ _; rw [← hV]; exact HB.out.drew
    have HT : Hid (Bk V w.heap.size 112 #[.int .u64 a, .int .u64 v]) := by show Bk _ _ _ _; rw [← hV]; exact HT.out
    rw [hV] at hHeld ⊢
    clear hV
    refine comeA 11 fun K hK => ?_
    go_simp
    refine (closure_any x.1 a x.2 v _).mono ?_
    rintro e w5 ⟨rfl, hb5⟩
    have HB := Lib.hid (HB.out.trans (hb5.mono HB.out.size))
    have HT := Lib.hid (HT.out.below hb5 HT.out.lt)
    clear hb5
    go_simp
    refine hK.out _ _ ?_ (fun hHeld => ?_)
    ·exact ⟨HRg.out _ HB.out, HT.out.rng⟩
    clear hK K
    try simp only [Act.put, pS]
    refine takeA 12 ?_
    try simp only [Act.put, pS]
    refine takeA 13 ?_
    try simp only [Act.put, pS]
    refine takeA 14 ?_
    try simp only [Act.put, pS]
    refine takeA 15 ?_
    try simp only [Act.put, pS]
    refine wpAnyH_done (by kernel_rfl) ?_ _
    try simp only [Act.put, pS]
    clear hHeld
    go_wp2
    go_ret2
    exact ⟨⟨p, th, rfl, by have := HA.out; rw [HT2.out] at this; exact this⟩, HB.out⟩
   ·obtain rfl : p = n := by omega
    have HT2 : Hid (decide ((l.map (·.1))[p]? = some a) = false) := by show _ = _; rw [List.getElem?_eq_none (by rw [HLm.out]; exact Nat.le_refl _)]; rfl
    go_upto_region 8 with fail
    refine wp_region_held_drew (S := (fun _ => True)) (by kernel_rfl) ?_ (fun hHeld => ?_)
    ·trivial
    refine takeA 0 ?_
    try simp only [Act.put, pS]
    refine takeA 1 ?_
    try simp only [Act.put, pS]
    refine takeA 2 ?_
    try simp only [Act.put, pS]
    refine takeA 3 ?_
    try simp only [Act.put, pS]
    refine takeA 4 ?_
    try simp only [Act.put, pS]
    refine skipA 5 ?_
    try simp only [Act.put, pS]
    refine skipA 6 ?_
    try simp only [Act.put, pS]
    refine skipA 7 ?_
    try simp only [Act.put, pS]
    refine skipA 8 ?_
    try simp only [Act.put, pS]
    refine skipA 9 ?_
    try simp only [Act.put, pS]
    refine skipA 10 ?_
    try simp only [Act.put, pS]
    refine skipA 11 ?_
    try simp only [Act.put, pS]
    refine skipA 12 ?_
    try simp only [Act.put, pS]
    refine takeA 13 ?_
    try simp only [Act.put, pS]
    refine takeA 14 ?_
    try simp only [Act.put, pS]
    refine takeA 15 ?_
    try simp only [Act.put, pS]
    obtain ⟨V, hV⟩ : ∃ V, wr.drew = V := ⟨_, rfl⟩
    have HB : Hid (Below w.heap.size w V) := by show Below _ _ _; rw [← hV]; exact HB.out.drew
    rw [hV]
    clear hV
    refine wpAnyH_done (by kernel_rfl) ?_ _
    try simp only [Act.put, pS]
    go_wp2
    go_ret2
    exact ⟨⟨p, false, rfl, by have := HA.out; rw [HT2.out] at this; exact this⟩, HB.out⟩
end Go.Proofs.YtiiaingepbkikaaGreatDoor
