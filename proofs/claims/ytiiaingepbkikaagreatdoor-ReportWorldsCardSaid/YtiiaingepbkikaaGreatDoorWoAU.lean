import Derived.Test.YtiiaingepbkikaaGreatDoorWoAJ
import Derived.Test.YtiiaingepbkikaaGreatDoorWoAH
import Derived.Test.YtiiaingepbkikaaGreatDoorWoAF
namespace Go.Proofs.YtiiaingepbkikaaGreatDoor
open Go.RowKit
set_option linter.unusedVariables false
set_option linter.unusedSimpArgs false
theorem bk_rng {w : World} {g : Nat} {t : TypeId} {cs : Array Value} (h : Bk w g t cs) : w.rangeAt g 0 cs.toList := fun j v hv => by
 rw [Nat.zero_add, h.cell]
 simpa using hv
theorem while_at {α : Type} (p : α → Bool) : ∀ (l : List α) (k : Nat), k ≤ l.length → (∀ x ∈ l.take k, p x = true) → (∀ x, l[k]? = some x → p x = false) → l.takeWhile p = l.take k ∧ l.dropWhile p = l.drop k := by
 intro l
 induction l with
 | nil => intro k _ _ _; simp
 | cons y l ih =>
   intro k hk h1 h2
   rcases k with _ | k
   ·have := h2 y rfl
    simp [List.takeWhile_cons, List.dropWhile_cons, this]
   ·have hy := h1 y (by simp)
    have := ih k (by simpa using hk) (fun x hx => h1 x (by simp [hx])) (fun x hx => h2 x (by simpa using hx))
    simp [List.takeWhile_cons, List.dropWhile_cons, hy, this.1, this.2]
theorem mem_take_succ {α : Type} {l : List α} {k : Nat} {x y : α} (hx : l[k]? = some x) (h : y ∈ l.take (k + 1)) : y ∈ l.take k ∨ y = x := by
 rw [List.take_add_one, hx] at h
 simpa using h
theorem insK_while {l : List Int} {a : Int} {k : Nat} (hk : k ≤ l.length) (h1 : ∀ x ∈ l.take k, x < a) (h2 : ∀ x, l[k]? = some x → ¬ x < a) : insK a l = l.take k ++ a :: l.drop k := by
 obtain ⟨e1, e2⟩ := while_at (fun x => decide (x < a)) l k hk (fun x hx => decide_eq_true (h1 x hx)) (fun x hx => decide_eq_false (h2 x hx))
 unfold insK; rw [e1, e2]
theorem insT_while {l : List (Int × Int)} {p : Int × Int} {k : Nat} (hk : k ≤ l.length) (h1 : ∀ x ∈ l.take k, x.1 < p.1) (h2 : ∀ x, l[k]? = some x → ¬ x.1 < p.1) : insT p l = l.take k ++ p :: l.drop k := by
 obtain ⟨e1, e2⟩ := while_at (fun x : Int × Int => decide (x.1 < p.1)) l k hk (fun x hx => decide_eq_true (h1 x hx)) (fun x hx => decide_eq_false (h2 x hx))
 unfold insT; rw [e1, e2]
theorem delK_succ {l : List Int} {a x : Int} {k : Nat} (hx : l[k]? = some x) : delK a (l.take (k + 1)) = delK a (l.take k) ++ (if x = a then [] else [x]) := by
 rw [List.take_add_one, hx]
 unfold delK
 rw [List.filter_append]
 congr 1
 by_cases h : x = a <;> simp [h]
theorem delT_succ {l : List (Int × Int)} {a : Int} {x : Int × Int} {k : Nat} (hx : l[k]? = some x) : delT a (l.take (k + 1)) = delT a (l.take k) ++ (if x.1 = a then [] else [x]) := by
 rw [List.take_add_one, hx]
 unfold delT
 rw [List.filter_append]
 congr 1
 by_cases h : x.1 = a <;> simp [h]
theorem delK_le (a : Int) (l : List Int) : (delK a l).length ≤ l.length := List.length_filter_le _ _
theorem delT_le (a : Int) (l : List (Int × Int)) : (delT a l).length ≤ l.length := List.length_filter_le _ _
theorem info_rp : (Tryz.prog.info? 129).map (fun i => (i.zero, i.size, i.bytes)) = some (some (.agg #[.int .u64 0, .int .u64 0]), 2, 16) := by kernel_rfl
theorem elem_rp : Tryz.prog.underlying 38 = some (.slice (Tryz.prog.elem 38)) := by kernel_rfl
theorem size_rp (W : World) : (sizeOf (Tryz.prog.elem 38)).run Tryz.prog W = .ok 2 W := by kernel_rfl
def OutU (l : List Int) (w : World) (e : Ending) (w' : World) : Prop := ∃ v, e = .returned v ∧ w'.ownsRow w.heap.size 32 1 v l.length (l.map (Value.int .u64)) ∧ Below w.heap.size w w'
def OutP (l : List (Int × Int)) (w : World) (e : Ending) (w' : World) : Prop := ∃ v, e = .returned v ∧ w'.ownsRow w.heap.size 129 2 v l.length (pCells l) ∧ Below w.heap.size w w'
set_option maxRecDepth 100000 in
theorem rgives21 (a : Int) (w : World) : Calls Tryz.prog 48 #[.int .u64 a] w fun e w' => e = .returned (.agg #[.int .i64 40, .int .u64 a]) ∧ Below w.heap.size w w' := by
 go_enter Tryz.func48, Tryz.ntmps48
 go_wp2
 refine ⟨rfl, .agg #[.int .i64 40, .int .u64 a], ?_, rfl, (Below.refl _ _).alloc (Nat.le_refl _) _⟩
 simp [results, Tryz.results48, go_sem]
set_option maxRecDepth 100000 in
theorem rgives22 (a : Int) (w : World) : Calls Tryz.prog 53 #[.int .u64 a] w fun e w' => e = .returned (.agg #[.int .i64 40, .int .u64 a]) ∧ Below w.heap.size w w' := by
 go_enter Tryz.func53, Tryz.ntmps53
 go_wp2
 refine ⟨rfl, .agg #[.int .i64 40, .int .u64 a], ?_, rfl, (Below.refl _ _).alloc (Nat.le_refl _) _⟩
 simp [results, Tryz.results53, go_sem]
set_option maxRecDepth 100000 in
theorem ris_any (b : Bool) (w : World) : Calls Tryz.prog 50 #[.bool b] w fun e w' => ∃ u, e = .returned (.agg #[.int .i64 0, .int .u64 u]) ∧ Below w.heap.size w w' := by
 rcases b with _ | _
 ·go_enter Tryz.func50, Tryz.ntmps50
  go_wp2
  refine ⟨rfl, .agg #[.int .i64 0, .int .u64 0], ?_, 0, rfl, (Below.refl _ _).alloc (Nat.le_refl _) _⟩
  simp [results, Tryz.results50, go_sem]
 ·go_enter Tryz.func50, Tryz.ntmps50
  go_wp2
  refine ⟨rfl, .agg #[.int .i64 0, .int .u64 1], ?_, 1, rfl, (Below.refl _ _).alloc (Nat.le_refl _) _⟩
  simp [results, Tryz.results50, go_sem]
set_option maxRecDepth 100000 in
theorem rbit_any (b : Bool) (w : World) : Calls Tryz.prog 57 #[.bool b] w fun e w' => ∃ u, e = .returned (.int .u64 u) ∧ w' = w := by
 rcases b with _ | _
 ·go_enter Tryz.func57, Tryz.ntmps57
  go_wp2
  go_ret
  exact ⟨_, rfl, rfl⟩
 ·go_enter Tryz.func57, Tryz.ntmps57
  go_wp2
  go_ret
  exact ⟨_, rfl, rfl⟩
set_option maxRecDepth 100000 in
set_option maxHeartbeats 4000000 in
theorem rhas_any (l : List Int) (A : Option Addr) (n c : Nat) (a : Int) (w : World) (hr : RdU w w.heap.size A n l) (hn : n ≤ 1000) :
 Calls Tryz.prog 49 #[.slice A n c, .int .u64 a] w fun e w' => e = .returned (.bool (decide (a ∈ l))) ∧ w' = w := by
 have HR := Lib.hid hr
 have HL := Lib.hid hr.u64Len
 have HB : Hid (Below w.heap.size w w) := Below.refl _ _
 clear hr
 go_enter Tryz.func49, Tryz.ntmps49
 go_wp2
 go_loopw [5] (fun i wr => ∃ k : Nat, (k ≤ n ∧ i = .int .i64 k ∧ wr = w) ∧ Hid (∀ x ∈ l.take k, x ≠ a)) (fun i _ => n - (intOf i).toNat)
 case atStart => exact ⟨0, ⟨by omega, rfl, rfl⟩, fun x hx => by simp at hx⟩
 case round =>
  obtain ⟨k, ⟨hk, rfl, hwr⟩, H⟩ := hrel
  subst hwr
  by_cases hlt : k < n
  ·have hlti : (k : Int) < (n : Int) := by omega
   obtain ⟨b, o, rfl, hb, hc⟩ := HR.out.at_ (by omega)
   obtain ⟨x, hx⟩ : ∃ x, l[k]? = some x := ⟨_, List.getElem?_eq_getElem (by rw [HL.out]; exact hlt)⟩
   have c0 : wr.cell? ⟨b, o + k, none⟩ = some (.int .u64 x) := (HB.out.cell (p := ⟨b, o + k, none⟩) hb).trans (hc k _ (by rw [List.getElem?_map, hx]; rfl))
   have HX := Lib.hid hx
   clear hc hx
   obtain ⟨y, hy⟩ : ∃ y, x = y := ⟨_, rfl⟩
   rw [hy] at c0
   have HY := Lib.hid hy
   clear hy
   by_cases hxa : y = a
   ·subst hxa
    have HT : Hid (decide (y ∈ l) = true) := by show _ = _; exact decide_eq_true (HY.out ▸ List.mem_of_getElem? HX.out)
    go_wp2
    go_ret
    exact ⟨congrArg (fun b => Ending.returned (.bool b)) HT.out.symm, rfl⟩
   ·have hxa2 : (y == a) = false := beq_eq_false_iff_ne.2 hxa
    go_wp2
    go_roundw
    case rel => exact ⟨k + 1, ⟨by omega, by go_num, trivial⟩, fun z hz => (mem_take_succ HX.out hz).elim (fun h => H.out z h) (fun h => by rw [h, HY.out]; exact hxa)⟩
    case measure => simp [intOf]; omega
  ·obtain rfl : k = n := by omega
   have HN := H.out
   rw [List.take_of_length_le (by rw [HL.out]; exact Nat.le_refl _)] at HN
   have HT : Hid (decide (a ∈ l) = false) := by show _ = _; exact decide_eq_false (fun h => HN a h rfl)
   go_wp2
   go_ret
   exact ⟨congrArg (fun b => Ending.returned (.bool b)) HT.out.symm, rfl⟩
def FindP (l : List (Int × Int)) (a z : Int) : Prop := (z = -1 ∧ a ∉ l.map (·.1)) ∨ ∃ (k : Nat) (v : Int), z = k ∧ l[k]? = some (a, v)
set_option maxRecDepth 100000 in
set_option maxHeartbeats 4000000 in
theorem rfind_any (l : List (Int × Int)) (A : Option Addr) (n c : Nat) (a : Int) (w : World) (hr : RdP w w.heap.size A n l) (hn : n ≤ 1000) :
 Calls Tryz.prog 54 #[.slice A n c, .int .u64 a] w fun e w' => (∃ z, e = .returned (.int .i64 z) ∧ FindP l a z) ∧ w' = w := by
 have HR := Lib.hid hr
 have HL := Lib.hid hr.pairLen
 have HB : Hid (Below w.heap.size w w) := Below.refl _ _
 clear hr
 go_enter Tryz.func54, Tryz.ntmps54
 go_wp2
 go_loopw [5] (fun i wr => ∃ k : Nat, (k ≤ n ∧ i = .int .i64 k ∧ wr = w) ∧ Hid (∀ x ∈ l.take k, x.1 ≠ a)) (fun i _ => n - (intOf i).toNat)
 case atStart => exact ⟨0, ⟨by omega, rfl, rfl⟩, fun x hx => by simp at hx⟩
 case round =>
  obtain ⟨k, ⟨hk, rfl, hwr⟩, H⟩ := hrel
  subst hwr
  by_cases hlt : k < n
  ·have hlti : (k : Int) < (n : Int) := by omega
   obtain ⟨b, o, rfl, hb, hc⟩ := HR.out.at_ (by omega)
   obtain ⟨x, hx⟩ : ∃ x, l[k]? = some x := ⟨_, List.getElem?_eq_getElem (by rw [HL.out]; exact hlt)⟩
   have c0 : wr.cell? ⟨b, o + k * 2, none⟩ = some (.int .u64 x.1) := (HB.out.cell (p := ⟨b, o + k * 2, none⟩) hb).trans (hc (k * 2) _ (pCells_at hx).1)
   have c1 : wr.cell? ⟨b, o + k * 2 + 1, none⟩ = some (.int .u64 x.2) := (HB.out.cell (p := ⟨b, o + k * 2 + 1, none⟩) hb).trans (hc (k * 2 + 1) _ (pCells_at hx).2)
   have HX := Lib.hid hx
   clear hc hx
   obtain ⟨y, hy⟩ : ∃ y, x.1 = y := ⟨_, rfl⟩
   rw [hy] at c0
   have HY := Lib.hid hy
   clear hy
   by_cases hxa : y = a
   ·subst hxa
    go_wp2
    go_ret
    exact ⟨⟨k, rfl, .inr ⟨k, x.2, rfl, by rw [HX.out, ← HY.out]⟩⟩, rfl⟩
   ·have hxa2 : (y == a) = false := beq_eq_false_iff_ne.2 hxa
    go_wp2
    go_roundw
    case rel => exact ⟨k + 1, ⟨by omega, by go_num, trivial⟩, fun z hz => (mem_take_succ HX.out hz).elim (fun h => H.out z h) (fun h => by rw [h, HY.out]; exact hxa)⟩
    case measure => simp [intOf]; omega
  ·obtain rfl : k = n := by omega
   have HN := H.out
   rw [List.take_of_length_le (by rw [HL.out]; exact Nat.le_refl _)] at HN
   go_wp2
   go_ret
   exact ⟨⟨-1, rfl, .inl ⟨rfl, fun h => by obtain ⟨x, hx, e⟩ := List.mem_map.1 h; exact HN x hx e⟩⟩, rfl⟩
set_option maxRecDepth 100000 in
set_option maxHeartbeats 4000000 in
theorem rwithout_any (l : List Int) (A : Option Addr) (n c : Nat) (a : Int) (w : World) (hr : RdU w w.heap.size A n l) (hn : n ≤ 1000) :
 Calls Tryz.prog 51 #[.slice A n c, .int .u64 a] w (OutU (delK a l) w) := by
 obtain ⟨i0, hi0, hz0, hz1, hz2⟩ := info_parts info_u64
 have HR := Lib.hid hr
 have HL := Lib.hid hr.u64Len
 clear hr
 go_enter Tryz.func51, Tryz.ntmps51
 have OWN0 : Hid ((w.alloc (.cells #[] 32)).ownsRow w.heap.size 32 1 (.slice (some ⟨w.heap.size, 0, none⟩) 0 0) 0 ([].map (Value.int .u64))) := World.ownsRow_made w #[] 0 (Nat.le_refl _) (by simp [maxLen]) rfl
 have HB0 : Hid (Below w.heap.size w (w.alloc (.cells #[] 32))) := (Below.refl _ _).alloc (Nat.le_refl _) _
 go_wp2
 go_loopw [5, 6] (fun ov i wr => ∃ (k : Nat), (k ≤ n ∧ i = .int .i64 k) ∧ Hid (wr.ownsRow w.heap.size 32 1 ov (delK a (l.take k)).length ((delK a (l.take k)).map (Value.int .u64))) ∧ Hid (Below w.heap.size w wr)) (fun _ i _ => n - (intOf i).toNat)
 case atStart => exact ⟨0, ⟨by omega, rfl⟩, OWN0.out, HB0.out⟩
 case round =>
  clear OWN0 HB0
  obtain ⟨k, ⟨hk, rfl⟩, HO, HB⟩ := hrel
  obtain ⟨ov', co, rfl, hkc, _⟩ := Rd.of_own_cap HO.out
  by_cases hlt : k < n
  ·have hlti : (k : Int) < (n : Int) := by omega
   obtain ⟨b, o, rfl, hb, hc⟩ := HR.out.at_ (by omega)
   obtain ⟨x, hx⟩ : ∃ x, l[k]? = some x := ⟨_, List.getElem?_eq_getElem (by rw [HL.out]; exact hlt)⟩
   have c0 : wr.cell? ⟨b, o + k, none⟩ = some (.int .u64 x) := (HB.out.cell (p := ⟨b, o + k, none⟩) hb).trans (hc k _ (by rw [List.getElem?_map, hx]; rfl))
   have hrl : (delK a (l.take k)).length ≤ 1000 := Nat.le_trans (delK_le _ _) (by rw [List.length_take]; omega)
   have HTk := Lib.hid (delK_succ (a := a) hx)
   obtain ⟨R, hR⟩ : ∃ R, delK a (l.take k) = R := ⟨_, rfl⟩
   rw [hR] at HO HTk hrl hkc ⊢
   clear hR hc hx hb
   by_cases hxa : x = a
   ·rw [if_pos hxa, List.append_nil] at HTk
    have hxb : (x != a) = false := by simp [hxa]
    go_wp2
    go_roundw
    case rel =>
     refine ⟨k + 1, ⟨by omega, by go_num⟩, ?_, HB.out⟩
     show World.ownsRow _ _ _ _ _ _ _
     rw [HTk.out]
     exact HO.out
    case measure => simp [intOf]; omega
   ·rw [if_neg hxa] at HTk
    have hxb : (x != a) = true := by simp [hxa]
    have HOa := Lib.hid (HO.out.alloc (.cells #[.int .u64 x] 32))
    have HBa := Lib.hid (HB.out.alloc HB.out.size (.cells #[.int .u64 x] 32))
    have hz3 := HBa.out.size
    have Ra : Hid (Rd (wr.alloc (.cells #[.int .u64 x] 32)) (wr.heap.size + 1) 1 (some ⟨wr.heap.size, 0, none⟩) 1 ([x].map (Value.int .u64))) := Rd.new wr _ _ (size := 1) (m := 1) rfl (by simp [maxLen])
    go_wp2_with (
     at_builtin
     go_must (
      refine wpList_app _ rfl (.tmp 20) (.tmp 25) 33 rfl w.heap.size 32 i0 _ 1 8 Tryz.underlying33 hi0 hz0 hz1 hz2 rfl (by omega) _ R.length _ rfl HOa.out _ _ 1 _ _ rfl Ra.out (u64_one _) ?_ ?_ ?_ ?_
      ·simp only [maxLen]; omega
      ·omega
      ·exact hz3
      intro v5 w5 hown5 hg5 _
      have HO5 := Lib.hid hown5
      have HB5 := Lib.hid (below_own HBa.out HOa.out hg5 (Nat.le_refl _) hz3)
      clear hown5 hg5))
    go_roundw
    case rel =>
     refine ⟨k + 1, ⟨by omega, by go_num⟩, ?_, HB5.out⟩
     show World.ownsRow _ _ _ _ _ _ _
     rw [HTk.out, List.length_append]
     have h := HO5.out
     rw [show (R.map (Value.int .u64)) ++ ([x].map (Value.int .u64)) = ((R ++ [x]).map (Value.int .u64)) by simp [pCells]] at h
     exact h
    case measure => simp [intOf]; omega
  ·obtain rfl : k = n := by omega
   have HT : Hid (l.take k = l) := by show _ = _; exact List.take_of_length_le (by rw [HL.out]; exact Nat.le_refl _)
   go_wp2
   go_ret
   refine ⟨_, rfl, ?_, HB.out⟩
   have h := HO.out
   rw [HT.out] at h ⊢
   exact h
set_option maxRecDepth 100000 in
set_option maxHeartbeats 4000000 in
theorem rtwithout_any (l : List (Int × Int)) (A : Option Addr) (n c : Nat) (a : Int) (w : World) (hr : RdP w w.heap.size A n l) (hn : n ≤ 1000) :
 Calls Tryz.prog 55 #[.slice A n c, .int .u64 a] w (OutP (delT a l) w) := by
 obtain ⟨i0, hi0, hz0, hz1, hz2⟩ := info_parts info_rp
 have HR := Lib.hid hr
 have HL := Lib.hid hr.pairLen
 clear hr
 go_enter Tryz.func55, Tryz.ntmps55
 have OWN0 : Hid ((w.alloc (.cells #[] 129)).ownsRow w.heap.size 129 2 (.slice (some ⟨w.heap.size, 0, none⟩) 0 0) 0 (pCells [])) := World.ownsRow_made w #[] 0 (Nat.le_refl _) (by simp [maxLen]) rfl
 have HB0 : Hid (Below w.heap.size w (w.alloc (.cells #[] 129))) := (Below.refl _ _).alloc (Nat.le_refl _) _
 go_wp2
 go_loopw [5, 6] (fun ov i wr => ∃ (k : Nat), (k ≤ n ∧ i = .int .i64 k) ∧ Hid (wr.ownsRow w.heap.size 129 2 ov (delT a (l.take k)).length (pCells (delT a (l.take k)))) ∧ Hid (Below w.heap.size w wr)) (fun _ i _ => n - (intOf i).toNat)
 case atStart => exact ⟨0, ⟨by omega, rfl⟩, OWN0.out, HB0.out⟩
 case round =>
  clear OWN0 HB0
  obtain ⟨k, ⟨hk, rfl⟩, HO, HB⟩ := hrel
  obtain ⟨ov', co, rfl, hkc, _⟩ := Rd.of_own_cap HO.out
  by_cases hlt : k < n
  ·have hlti : (k : Int) < (n : Int) := by omega
   obtain ⟨b, o, rfl, hb, hc⟩ := HR.out.at_ (by omega)
   obtain ⟨x, hx⟩ : ∃ x, l[k]? = some x := ⟨_, List.getElem?_eq_getElem (by rw [HL.out]; exact hlt)⟩
   have c0 : wr.cell? ⟨b, o + k * 2, none⟩ = some (.int .u64 x.1) := (HB.out.cell (p := ⟨b, o + k * 2, none⟩) hb).trans (hc (k * 2) _ (pCells_at hx).1)
   have c1 : wr.cell? ⟨b, o + k * 2 + 1, none⟩ = some (.int .u64 x.2) := (HB.out.cell (p := ⟨b, o + k * 2 + 1, none⟩) hb).trans (hc (k * 2 + 1) _ (pCells_at hx).2)
   have hrl : (delT a (l.take k)).length ≤ 1000 := Nat.le_trans (delT_le _ _) (by rw [List.length_take]; omega)
   have HTk := Lib.hid (delT_succ (a := a) hx)
   obtain ⟨R, hR⟩ : ∃ R, delT a (l.take k) = R := ⟨_, rfl⟩
   rw [hR] at HO HTk hrl hkc ⊢
   clear hR hc hx hb
   by_cases hxa : x.1 = a
   ·rw [if_pos hxa, List.append_nil] at HTk
    have hxb : (x.1 != a) = false := by simp [hxa]
    go_wp2
    go_roundw
    case rel =>
     refine ⟨k + 1, ⟨by omega, by go_num⟩, ?_, HB.out⟩
     show World.ownsRow _ _ _ _ _ _ _
     rw [HTk.out]
     exact HO.out
    case measure => simp [intOf]; omega
   ·rw [if_neg hxa] at HTk
    have hxb : (x.1 != a) = true := by simp [hxa]
    have HOa := Lib.hid (HO.out.alloc (.cells #[.int .u64 x.1, .int .u64 x.2] 129))
    have HBa := Lib.hid (HB.out.alloc HB.out.size (.cells #[.int .u64 x.1, .int .u64 x.2] 129))
    have hz3 := HBa.out.size
    have Ra : Hid (Rd (wr.alloc (.cells #[.int .u64 x.1, .int .u64 x.2] 129)) (wr.heap.size + 1) 2 (some ⟨wr.heap.size, 0, none⟩) 1 (pCells [x])) := Rd.new wr _ _ (size := 2) (m := 1) rfl (by simp [maxLen])
    go_wp2_with (
     at_builtin
     go_must (
      refine wpList_app _ rfl (.tmp 21) (.tmp 26) 38 rfl w.heap.size 129 i0 _ 2 16 Tryz.underlying38 hi0 hz0 hz1 hz2 rfl (by omega) _ R.length _ rfl HOa.out _ _ 1 _ _ rfl Ra.out (pair_one _) ?_ ?_ ?_ ?_
      ·simp only [maxLen]; omega
      ·omega
      ·exact hz3
      intro v5 w5 hown5 hg5 _
      have HO5 := Lib.hid hown5
      have HB5 := Lib.hid (below_own HBa.out HOa.out hg5 (Nat.le_refl _) hz3)
      clear hown5 hg5))
    go_roundw
    case rel =>
     refine ⟨k + 1, ⟨by omega, by go_num⟩, ?_, HB5.out⟩
     show World.ownsRow _ _ _ _ _ _ _
     rw [HTk.out, List.length_append]
     have h := HO5.out
     rw [show (pCells R) ++ (pCells [x]) = (pCells (R ++ [x])) by simp [pCells]] at h
     exact h
    case measure => simp [intOf]; omega
  ·obtain rfl : k = n := by omega
   have HT : Hid (l.take k = l) := by show _ = _; exact List.take_of_length_le (by rw [HL.out]; exact Nat.le_refl _)
   go_wp2
   go_ret
   refine ⟨_, rfl, ?_, HB.out⟩
   have h := HO.out
   rw [HT.out] at h ⊢
   exact h
theorem pC_drop (l : List (Int × Int)) (k : Nat) : (pCells l).drop (k * 2) = pCells (l.drop k) := by
 induction k generalizing l with
 | zero => simp
 | succ k ih =>
   rcases l with _ | ⟨x, l⟩
   ·simp [pCells]
   ·rw [show (k + 1) * 2 = k * 2 + 1 + 1 by omega]
    simpa [pCells] using ih l
set_option maxRecDepth 100000 in
set_option maxHeartbeats 4000000 in
theorem rwith_any (l : List Int) (A : Option Addr) (n c : Nat) (a : Int) (w : World) (hr : RdU w w.heap.size A n l) (hs : n ≤ c) (hn : n ≤ 1000) :
 Calls Tryz.prog 52 #[.slice A n c, .int .u64 a] w (OutU (insK a l) w) := by
 obtain ⟨i0, hi0, hz0, hz1, hz2⟩ := info_parts info_u64
 have HRb := Lib.hid hr
 have HL := Lib.hid hr.u64Len
 have HS := Lib.hid hs
 clear hr hs
 go_enter Tryz.func52, Tryz.ntmps52
 have OWN0 : Hid ((w.alloc (.cells #[] 32)).ownsRow w.heap.size 32 1 (.slice (some ⟨w.heap.size, 0, none⟩) 0 0) 0 ([].map (Value.int .u64))) := World.ownsRow_made w #[] 0 (Nat.le_refl _) (by simp [maxLen]) rfl
 have HB0 : Hid (Below w.heap.size w (w.alloc (.cells #[] 32))) := (Below.refl _ _).alloc (Nat.le_refl _) _
 go_wp2
 go_loopw [5, 6] (fun ov i wr => ∃ (k : Nat), (k ≤ n ∧ i = .int .i64 k) ∧ Hid (wr.ownsRow w.heap.size 32 1 ov k ((l.take k).map (Value.int .u64))) ∧ Hid (Below w.heap.size w wr) ∧ Hid (∀ x ∈ l.take k, x < a)) (fun _ i _ => n - (intOf i).toNat)
 case atStart => exact ⟨0, ⟨by omega, rfl⟩, OWN0.out, HB0.out, fun x hx => by simp at hx⟩
 case round =>
  clear OWN0 HB0
  obtain ⟨k, ⟨hk, rfl⟩, HO, HB, HLt⟩ := hrel
  obtain ⟨ov', co, rfl, hkc, _⟩ := Rd.of_own_cap HO.out
  have hbase := HB.out.size
  by_cases hlt : k < n
  ·have hlti : (k : Int) < (n : Int) := by omega
   obtain ⟨b, o, rfl, hb, hc⟩ := HRb.out.at_ (by omega)
   obtain ⟨x, hx⟩ : ∃ x, l[k]? = some x := ⟨_, List.getElem?_eq_getElem (by rw [HL.out]; exact hlt)⟩
   have c0 : wr.cell? ⟨b, o + k, none⟩ = some (.int .u64 x) := (HB.out.cell (p := ⟨b, o + k, none⟩) hb).trans (hc k _ (by rw [List.getElem?_map, hx]; rfl))
   have HX := Lib.hid hx
   clear hx hc hb
   by_cases hxa : x < a
   ·have HTk : Hid (l.take (k + 1) = l.take k ++ [x]) := by show _ = _; rw [List.take_add_one, HX.out]; rfl
    have HOa := Lib.hid (HO.out.alloc (.cells #[.int .u64 x] 32))
    have HBa := Lib.hid (HB.out.alloc HB.out.size (.cells #[.int .u64 x] 32))
    have hz3 := HBa.out.size
    have Ra : Hid (Rd (wr.alloc (.cells #[.int .u64 x] 32)) (wr.heap.size + 1) 1 (some ⟨wr.heap.size, 0, none⟩) 1 ([x].map (Value.int .u64))) := Rd.new wr _ _ (size := 1) (m := 1) rfl (by simp [maxLen])
    go_wp2_with (
     at_builtin
     go_must (
      refine wpList_app _ rfl (.tmp 23) (.tmp 28) 33 rfl w.heap.size 32 i0 _ 1 8 Tryz.underlying33 hi0 hz0 hz1 hz2 rfl (by omega) _ k _ rfl HOa.out _ _ 1 _ _ rfl Ra.out (u64_one _) ?_ ?_ ?_ ?_
      ·simp only [maxLen]; omega
      ·omega
      ·exact hz3
      intro v5 w5 hown5 hg5 _
      have HO5 := Lib.hid hown5
      have HB5 := Lib.hid (below_own HBa.out HOa.out hg5 (Nat.le_refl _) hz3)
      clear hown5 hg5))
    go_roundw
    case rel =>
     refine ⟨k + 1, ⟨by omega, by go_num⟩, ?_, HB5.out, fun y hy => (mem_take_succ HX.out hy).elim (fun h => HLt.out y h) (fun h => by rw [h]; exact hxa)⟩
     show World.ownsRow _ _ _ _ _ _ _
     rw [HTk.out]
     have h := HO5.out
     rw [show (l.take k).map (Value.int .u64) ++ [x].map (Value.int .u64) = (l.take k ++ [x]).map (Value.int .u64) by simp] at h
     exact h
    case measure => simp [intOf]; omega
   ·have HGe : Hid (∀ x, l[k]? = some x → ¬ x < a) := fun y hy => by rw [HX.out] at hy; injection hy with hy; rw [← hy]; exact hxa
    obtain ⟨A1, hcut, hrd⟩ := cut_l (P := Tryz.prog) 33 elem_u64 size_u64 HRb.out HS.out k (k : Int) rfl hk
    have HRd := Lib.hid hrd
    clear hrd
    have HIns : Hid (insK a l = l.take k ++ a :: l.drop k) := by show _ = _; exact insK_while (by rw [HL.out]; exact hk) HLt.out HGe.out
    go_upto_region 7 with fail
    obtain ⟨V, hV⟩ : ∃ V, wr.drew = V := ⟨_, rfl⟩
    refine wp_region_held_drew (S := (fun w' => 0 ≤ w'.heap.size)) (by kernel_rfl) ?_ (fun hHeld => ?_)
    ·exact Nat.zero_le _
    refine takeA 0 ?_
    try simp only [Act.put, pS]
    refine takeA 1 ?_
    try simp only [Act.put, pS]
    refine takeA 4 ?_
    try simp only [Act.put, pS]
    refine takeA 5 ?_
    try simp only [Act.put, pS]
    refine takeA 6 ?_
    try simp only [Act.put, pS]
    clear hcut
    have HO : Hid (V.ownsRow w.heap.size 32 1 (.slice ov' k co) k ((l.take k).map (Value.int .u64))) := by show World.ownsRow _ _ _ _ _ _ _; rw [← hV]; exact own_below HO.out (Below.refl _ _).drew
    have HB : Hid (Below w.heap.size w V) := by show Below _ _ _; rw [← hV]; exact HB.out.drew
    rw [hV] at hHeld ⊢
    clear hV
    refine comeA 2 fun K hK => ?_
    go_simp
    obtain ⟨V2, hW7⟩ : ∃ W7, V.alloc (.cells #[.int .u64 a] 32) = W7 := ⟨_, rfl⟩
    have hb7 : Below V.heap.size V V2 := by rw [← hW7]; exact (Below.refl _ _).alloc (Nat.le_refl _) _
    have HRn : Hid (Rd V2 (V.heap.size + 1) 1 (some ⟨V.heap.size, 0, none⟩) 1 ([a].map (Value.int .u64))) := by show Rd _ _ _ _ _ _; rw [← hW7]; exact Rd.new V #[.int .u64 a] 32 (size := 1) (m := 1) rfl (by simp [maxLen])
    have HO := Lib.hid (own_below HO.out hb7)
    have HB := Lib.hid (HB.out.trans (hb7.mono HB.out.size))
    rw [hW7]
    clear hW7 hb7
    refine hK.out _ _ ?_ (fun hHeld => ?_)
    ·exact Nat.zero_le _
    clear hK K
    try simp only [Act.put, pS]
    refine comeA 3 fun K hK => ?_
    have hvs := HB.out.size
    refine wp_app (.tmp 32) (.tmp 34) 33 w.heap.size 32 i0 _ 1 8 Tryz.underlying33 hi0 hz0 hz1 hz2 rfl (by decide) _ k _ rfl HO.out _ _ 1 1 _ rfl HRn.out (u64_one _) (by simp only [maxLen]; omega) (by omega) hvs ?_
    intro v5 V5 hown5 hg5 hv5
    have HO5 : Hid (V5.ownsRow w.heap.size 32 1 v5 (k + 1) ((l.take k ++ [a]).map (Value.int .u64))) := by show World.ownsRow _ _ _ _ _ _ _; simpa [pCells] using hown5
    have HB := Lib.hid (below_own HB.out HO.out hg5 (Nat.le_refl _) HB.out.size)
    have HO := HO5
    clear hown5 hg5 hv5 HRn HO5 hvs
    refine hK.out _ _ ?_ (fun hHeld => ?_)
    ·exact Nat.zero_le _
    clear hK K
    try simp only [Act.put, pS]
    refine comeA 7 fun K hK => ?_
    have hvs := HB.out.size
    refine wp_app (.tmp 35) (.tmp 38) 33 w.heap.size 32 i0 _ 1 8 Tryz.underlying33 hi0 hz0 hz1 hz2 rfl (by decide) _ (k + 1) _ rfl HO.out _ _ _ _ _ rfl (HRd.out.below HB.out) (fun u hu => u64_one l u (List.mem_of_mem_drop hu)) (by simp only [maxLen]; omega) (by omega) hvs ?_
    intro v6 V6 hown6 hg6 hv6
    have HO6 : Hid (V6.ownsRow w.heap.size 32 1 v6 (n + 1) ((insK a l).map (Value.int .u64))) := by
     show World.ownsRow _ _ _ _ _ _ _
     rw [HIns.out, show n + 1 = k + 1 + (n - k) by omega]
     have e : (l.take k ++ a :: l.drop k).map (Value.int .u64) = (l.take k ++ [a]).map (Value.int .u64) ++ (l.map (Value.int .u64)).drop (k * 1) := by simp [List.map_drop]
     rw [e]
     exact hown6
    have HB := Lib.hid (below_own HB.out HO.out hg6 (Nat.le_refl _) HB.out.size)
    have HO := HO6
    clear hown6 hg6 hv6 HO6 hvs
    refine hK.out _ _ ?_ (fun hHeld => ?_)
    ·exact Nat.zero_le _
    clear hK K
    try simp only [Act.put, pS]
    refine takeA 8 ?_
    try simp only [Act.put, pS]
    refine wpAnyH_done (by kernel_rfl) ?_ _
    try simp only [Act.put, pS]
    clear hHeld
    go_wp2
    go_ret
    exact ⟨_, rfl, by rw [show (insK a l).length = n + 1 by rw [insK_length, HL.out]]; exact HO.out, HB.out⟩
  ·have HGe : Hid (∀ x, l[k]? = some x → ¬ x < a) := fun y hy => by have := (List.getElem?_eq_some_iff.1 hy).1; have := HL.out; omega
   obtain ⟨A1, hcut, hrd⟩ := cut_l (P := Tryz.prog) 33 elem_u64 size_u64 HRb.out HS.out k (k : Int) rfl hk
   have HRd := Lib.hid hrd
   clear hrd
   have HIns : Hid (insK a l = l.take k ++ a :: l.drop k) := by show _ = _; exact insK_while (by rw [HL.out]; exact hk) HLt.out HGe.out
   go_upto_region 7 with fail
   obtain ⟨V, hV⟩ : ∃ V, wr.drew = V := ⟨_, rfl⟩
   refine wp_region_held_drew (S := (fun w' => 0 ≤ w'.heap.size)) (by kernel_rfl) ?_ (fun hHeld => ?_)
   ·exact Nat.zero_le _
   refine takeA 0 ?_
   try simp only [Act.put, pS]
   refine takeA 1 ?_
   try simp only [Act.put, pS]
   refine takeA 4 ?_
   try simp only [Act.put, pS]
   refine takeA 5 ?_
   try simp only [Act.put, pS]
   refine takeA 6 ?_
   try simp only [Act.put, pS]
   clear hcut
   have HO : Hid (V.ownsRow w.heap.size 32 1 (.slice ov' k co) k ((l.take k).map (Value.int .u64))) := by show World.ownsRow _ _ _ _ _ _ _; rw [← hV]; exact own_below HO.out (Below.refl _ _).drew
   have HB : Hid (Below w.heap.size w V) := by show Below _ _ _; rw [← hV]; exact HB.out.drew
   rw [hV] at hHeld ⊢
   clear hV
   refine comeA 2 fun K hK => ?_
   go_simp
   obtain ⟨V2, hW7⟩ : ∃ W7, V.alloc (.cells #[.int .u64 a] 32) = W7 := ⟨_, rfl⟩
   have hb7 : Below V.heap.size V V2 := by rw [← hW7]; exact (Below.refl _ _).alloc (Nat.le_refl _) _
   have HRn : Hid (Rd V2 (V.heap.size + 1) 1 (some ⟨V.heap.size, 0, none⟩) 1 ([a].map (Value.int .u64))) := by show Rd _ _ _ _ _ _; rw [← hW7]; exact Rd.new V #[.int .u64 a] 32 (size := 1) (m := 1) rfl (by simp [maxLen])
   have HO := Lib.hid (own_below HO.out hb7)
   have HB := Lib.hid (HB.out.trans (hb7.mono HB.out.size))
   rw [hW7]
   clear hW7 hb7
   refine hK.out _ _ ?_ (fun hHeld => ?_)
   ·exact Nat.zero_le _
   clear hK K
   try simp only [Act.put, pS]
   refine comeA 3 fun K hK => ?_
   have hvs := HB.out.size
   refine wp_app (.tmp 32) (.tmp 34) 33 w.heap.size 32 i0 _ 1 8 Tryz.underlying33 hi0 hz0 hz1 hz2 rfl (by decide) _ k _ rfl HO.out _ _ 1 1 _ rfl HRn.out (u64_one _) (by simp only [maxLen]; omega) (by omega) hvs ?_
   intro v5 V5 hown5 hg5 hv5
   have HO5 : Hid (V5.ownsRow w.heap.size 32 1 v5 (k + 1) ((l.take k ++ [a]).map (Value.int .u64))) := by show World.ownsRow _ _ _ _ _ _ _; simpa [pCells] using hown5
   have HB := Lib.hid (below_own HB.out HO.out hg5 (Nat.le_refl _) HB.out.size)
   have HO := HO5
   clear hown5 hg5 hv5 HRn HO5 hvs
   refine hK.out _ _ ?_ (fun hHeld => ?_)
   ·exact Nat.zero_le _
   clear hK K
   try simp only [Act.put, pS]
   refine comeA 7 fun K hK => ?_
   have hvs := HB.out.size
   refine wp_app (.tmp 35) (.tmp 38) 33 w.heap.size 32 i0 _ 1 8 Tryz.underlying33 hi0 hz0 hz1 hz2 rfl (by decide) _ (k + 1) _ rfl HO.out _ _ _ _ _ rfl (HRd.out.below HB.out) (fun u hu => u64_one l u (List.mem_of_mem_drop hu)) (by simp only [maxLen]; omega) (by omega) hvs ?_
   intro v6 V6 hown6 hg6 hv6
   have HO6 : Hid (V6.ownsRow w.heap.size 32 1 v6 (n + 1) ((insK a l).map (Value.int .u64))) := by
    show World.ownsRow _ _ _ _ _ _ _
    rw [HIns.out, show n + 1 = k + 1 + (n - k) by omega]
    have e : (l.take k ++ a :: l.drop k).map (Value.int .u64) = (l.take k ++ [a]).map (Value.int .u64) ++ (l.map (Value.int .u64)).drop (k * 1) := by simp [List.map_drop]
    rw [e]
    exact hown6
   have HB := Lib.hid (below_own HB.out HO.out hg6 (Nat.le_refl _) HB.out.size)
   have HO := HO6
   clear hown6 hg6 hv6 HO6 hvs
   refine hK.out _ _ ?_ (fun hHeld => ?_)
   ·exact Nat.zero_le _
   clear hK K
   try simp only [Act.put, pS]
   refine takeA 8 ?_
   try simp only [Act.put, pS]
   refine wpAnyH_done (by kernel_rfl) ?_ _
   try simp only [Act.put, pS]
   clear hHeld
   go_wp2
   go_ret
   exact ⟨_, rfl, by rw [show (insK a l).length = n + 1 by rw [insK_length, HL.out]]; exact HO.out, HB.out⟩
set_option maxRecDepth 100000 in
set_option maxHeartbeats 4000000 in
theorem rtwith_any (l : List (Int × Int)) (A : Option Addr) (n c : Nat) (a b : Int) (w : World) (hr : RdP w w.heap.size A n l) (hn : n ≤ 1000) :
 Calls Tryz.prog 56 #[.slice A n c, .agg #[.int .u64 a, .int .u64 b]] w (OutP (insT (a, b) (delT a l)) w) := by
 obtain ⟨i0, hi0, hz0, hz1, hz2⟩ := info_parts info_rp
 have HR := Lib.hid hr
 have HLl := Lib.hid hr.pairLen
 clear hr
 go_enter Tryz.func56, Tryz.ntmps56
 go_upto_region 1 with fail
 obtain ⟨W0, hW0⟩ : ∃ W0, w.alloc (.cells #[.int .u64 a, .int .u64 b] 129) = W0 := ⟨_, rfl⟩
 have HP : Hid (Bk W0 w.heap.size 129 #[.int .u64 a, .int .u64 b]) := by show Bk _ _ _ _; rw [← hW0]; exact Bk.new _ _ _
 have HB0 : Hid (Below w.heap.size w W0) := by show Below _ _ _; rw [← hW0]; exact (Below.refl _ _).alloc (Nat.le_refl _) _
 rw [hW0]
 clear hW0
 have p0 := (HP.out.cell 0).trans rfl
 go_wp2_with fail
 refine (rtwithout_any l A n c a W0 ((HR.out.below HB0.out).more HB0.out.size) hn).mono ?_
 rintro e w1 ⟨v, rfl, hown, hb⟩
 clear p0
 have hdl := delT_le a l
 obtain ⟨r, hr⟩ : ∃ r, delT a l = r := ⟨_, rfl⟩
 rw [hr] at hown hdl
 have HRr := Lib.hid hr
 clear hr
 obtain ⟨m, hm⟩ : ∃ m, r.length = m := ⟨_, rfl⟩
 rw [hm] at hown hdl
 have HL := Lib.hid hm
 have hm1 : m ≤ 1000 := by have := HLl.out; omega
 clear hm hdl
 obtain ⟨Ar, cr, rfl, hsl, hrd⟩ := own_slv hown
 have HS := Lib.hid hsl.1
 have HRb : Hid (RdP w1 w1.heap.size Ar m r) := hrd
 have HB1 := Lib.hid (HB0.out.trans (hb.mono HB0.out.size))
 have HP := Lib.hid (HP.out.below hb HP.out.lt)
 clear hown hsl hrd hb HB0
 have OWN0 : Hid ((w1.alloc (.cells #[] 129)).ownsRow w1.heap.size 129 2 (.slice (some ⟨w1.heap.size, 0, none⟩) 0 0) 0 (pCells [])) := World.ownsRow_made w1 #[] 0 (Nat.le_refl _) (by simp [maxLen]) rfl
 have HB0 : Hid (Below w1.heap.size w1 (w1.alloc (.cells #[] 129))) := (Below.refl _ _).alloc (Nat.le_refl _) _
 go_wp2
 go_loopw [6, 7] (fun ov i wr => ∃ (k : Nat), (k ≤ m ∧ i = .int .i64 k) ∧ Hid (wr.ownsRow w1.heap.size 129 2 ov k (pCells (r.take k))) ∧ Hid (Below w1.heap.size w1 wr) ∧ Hid (∀ x ∈ r.take k, x.1 < a)) (fun _ i _ => m - (intOf i).toNat)
 case atStart => exact ⟨0, ⟨by omega, rfl⟩, OWN0.out, HB0.out, fun x hx => by simp at hx⟩
 case round =>
  clear OWN0 HB0
  obtain ⟨k, ⟨hk, rfl⟩, HO, HB, HLt⟩ := hrel
  obtain ⟨ov', co, rfl, hkc, _⟩ := Rd.of_own_cap HO.out
  have hbase := HB.out.size
  have HPw := Lib.hid (HP.out.below HB.out HP.out.lt)
  have p0 := (HPw.out.cell 0).trans rfl
  by_cases hlt : k < m
  ·have hlti : (k : Int) < (m : Int) := by omega
   obtain ⟨b9, o9, rfl, hb, hc⟩ := HRb.out.at_ (by omega)
   obtain ⟨x, hx⟩ : ∃ x, r[k]? = some x := ⟨_, List.getElem?_eq_getElem (by rw [HL.out]; exact hlt)⟩
   have c0 : wr.cell? ⟨b9, o9 + k * 2, none⟩ = some (.int .u64 x.1) := (HB.out.cell (p := ⟨b9, o9 + k * 2, none⟩) hb).trans (hc (k * 2) _ (pCells_at hx).1)
   have c1 : wr.cell? ⟨b9, o9 + k * 2 + 1, none⟩ = some (.int .u64 x.2) := (HB.out.cell (p := ⟨b9, o9 + k * 2 + 1, none⟩) hb).trans (hc (k * 2 + 1) _ (pCells_at hx).2)
   have HX := Lib.hid hx
   clear hx hc hb
   by_cases hxa : x.1 < a
   ·have HTk : Hid (r.take (k + 1) = r.take k ++ [x]) := by show _ = _; rw [List.take_add_one, HX.out]; rfl
    go_upto_region 4 with fail
    refine wp_region_held_drew (S := (fun w' => w'.cell? ⟨w.heap.size, 0, none⟩ = some (.int .u64 a) ∧ w'.cell? ⟨b9, o9 + k * 2, none⟩ = some (.int .u64 x.1))) (by kernel_rfl) ?_ (fun hHeld => ?_)
    ·exact ⟨p0, c0⟩
    refine takeA 0 ?_
    try simp only [Act.put, pS]
    refine takeA 1 ?_
    try simp only [Act.put, pS]
    refine takeA 2 ?_
    try simp only [Act.put, pS]
    refine takeA 3 ?_
    try simp only [Act.put, pS]
    refine takeA 4 ?_
    try simp only [Act.put, pS]
    refine takeA 5 ?_
    try simp only [Act.put, pS]
    refine takeA 6 ?_
    try simp only [Act.put, pS]
    refine takeA 7 ?_
    try simp only [Act.put, pS]
    refine takeA 8 ?_
    try simp only [Act.put, pS]
    refine takeA 9 ?_
    try simp only [Act.put, pS]
    refine takeA 10 ?_
    try simp only [Act.put, pS]
    refine takeA 11 ?_
    try simp only [Act.put, pS]
    refine takeA 12 ?_
    try simp only [Act.put, pS]
    refine takeA 13 ?_
    try simp only [Act.put, pS]
    refine wpAnyH_done (by kernel_rfl) ?_ _
    try simp only [Act.put, pS]
    clear hHeld p0
    obtain ⟨V0, hV0⟩ : ∃ V0, wr.drew = V0 := ⟨_, rfl⟩
    have HO : Hid (V0.ownsRow w1.heap.size 129 2 (.slice ov' k co) k (pCells (r.take k))) := by show World.ownsRow _ _ _ _ _ _ _; rw [← hV0]; exact own_below HO.out (Below.refl _ _).drew
    have HB : Hid (Below w1.heap.size w1 V0) := by show Below _ _ _; rw [← hV0]; exact HB.out.drew
    rw [hV0]
    have c0 : V0.cell? ⟨b9, o9 + k * 2, none⟩ = some (.int .u64 x.1) := by rw [← hV0]; exact c0
    have c1 : V0.cell? ⟨b9, o9 + k * 2 + 1, none⟩ = some (.int .u64 x.2) := by rw [← hV0]; exact c1
    clear hV0
    have HOa := Lib.hid (HO.out.alloc (.cells #[.int .u64 x.1, .int .u64 x.2] 129))
    have HBa := Lib.hid (HB.out.alloc HB.out.size (.cells #[.int .u64 x.1, .int .u64 x.2] 129))
    have hz3 := HBa.out.size
    have Ra : Hid (Rd (V0.alloc (.cells #[.int .u64 x.1, .int .u64 x.2] 129)) (V0.heap.size + 1) 2 (some ⟨V0.heap.size, 0, none⟩) 1 (pCells [x])) := Rd.new V0 _ _ (size := 2) (m := 1) rfl (by simp [maxLen])
    go_wp2_with (
     at_builtin
     go_must (
      refine wpList_app _ rfl (.tmp 30) (.tmp 35) 38 rfl w1.heap.size 129 i0 _ 2 16 Tryz.underlying38 hi0 hz0 hz1 hz2 rfl (by omega) _ k _ rfl HOa.out _ _ 1 _ _ rfl Ra.out (pair_one _) ?_ ?_ ?_ ?_
      ·simp only [maxLen]; omega
      ·omega
      ·exact hz3
      intro v5 w5 hown5 hg5 _
      have HO5 := Lib.hid hown5
      have HB5 := Lib.hid (below_own HBa.out HOa.out hg5 (Nat.le_refl _) hz3)
      clear hown5 hg5))
    go_roundw
    case rel =>
     refine ⟨k + 1, ⟨by omega, by go_num⟩, ?_, HB5.out, fun y hy => (mem_take_succ HX.out hy).elim (fun h => HLt.out y h) (fun h => by rw [h]; exact hxa)⟩
     show World.ownsRow _ _ _ _ _ _ _
     rw [HTk.out, pCells_app]
     exact HO5.out
    case measure => simp [intOf]; omega
   ·have HGe : Hid (∀ x, r[k]? = some x → ¬ x.1 < a) := fun y hy => by rw [HX.out] at hy; injection hy with hy; rw [← hy]; exact hxa
    go_upto_region 4 with fail
    refine wp_region_held_drew (S := (fun w' => w'.cell? ⟨w.heap.size, 0, none⟩ = some (.int .u64 a) ∧ w'.cell? ⟨b9, o9 + k * 2, none⟩ = some (.int .u64 x.1))) (by kernel_rfl) ?_ (fun hHeld => ?_)
    ·exact ⟨p0, c0⟩
    refine takeA 0 ?_
    try simp only [Act.put, pS]
    refine takeA 1 ?_
    try simp only [Act.put, pS]
    refine takeA 2 ?_
    try simp only [Act.put, pS]
    refine takeA 3 ?_
    try simp only [Act.put, pS]
    refine takeA 4 ?_
    try simp only [Act.put, pS]
    refine takeA 5 ?_
    try simp only [Act.put, pS]
    refine takeA 6 ?_
    try simp only [Act.put, pS]
    refine takeA 7 ?_
    try simp only [Act.put, pS]
    refine takeA 8 ?_
    try simp only [Act.put, pS]
    refine takeA 9 ?_
    try simp only [Act.put, pS]
    refine takeA 10 ?_
    try simp only [Act.put, pS]
    refine takeA 11 ?_
    try simp only [Act.put, pS]
    refine takeA 12 ?_
    try simp only [Act.put, pS]
    refine takeA 13 ?_
    try simp only [Act.put, pS]
    refine wpAnyH_done (by kernel_rfl) ?_ _
    try simp only [Act.put, pS]
    clear hHeld p0
    obtain ⟨V0, hV0⟩ : ∃ V0, wr.drew = V0 := ⟨_, rfl⟩
    have HO : Hid (V0.ownsRow w1.heap.size 129 2 (.slice ov' k co) k (pCells (r.take k))) := by show World.ownsRow _ _ _ _ _ _ _; rw [← hV0]; exact own_below HO.out (Below.refl _ _).drew
    have HB : Hid (Below w1.heap.size w1 V0) := by show Below _ _ _; rw [← hV0]; exact HB.out.drew
    rw [hV0]
    clear hV0 c0 c1
    obtain ⟨A1, hcut, hrd⟩ := cut_l (P := Tryz.prog) 38 elem_rp size_rp HRb.out HS.out k (k : Int) rfl hk
    have HRd := Lib.hid hrd
    clear hrd
    have HIns : Hid (insT (a, b) r = r.take k ++ (a, b) :: r.drop k) := by show _ = _; exact insT_while (by rw [HL.out]; exact hk) HLt.out HGe.out
    go_upto_region 8 with fail
    obtain ⟨V, hV⟩ : ∃ V, V0.drew = V := ⟨_, rfl⟩
    refine wp_region_held_drew (S := (fun w' => w'.rangeAt w.heap.size 0 (#[.int .u64 a, .int .u64 b] : Array Value).toList)) (by kernel_rfl) ?_ (fun hHeld => ?_)
    ·exact bk_rng (HP.out.below HB.out.drew HP.out.lt)
    refine takeA 0 ?_
    try simp only [Act.put, pS]
    refine loadA 1 #[.int .u64 a, .int .u64 b] Tryz.underlying129 rfl (by kernel_rfl) ?_ ?_
    ·(intro w hSw; exact hSw)
    try simp only [Act.put, pS]
    refine takeA 4 ?_
    try simp only [Act.put, pS]
    refine takeA 5 ?_
    try simp only [Act.put, pS]
    refine takeA 6 ?_
    try simp only [Act.put, pS]
    clear hcut
    have HO : Hid (V.ownsRow w1.heap.size 129 2 (.slice ov' k co) k (pCells (r.take k))) := by show World.ownsRow _ _ _ _ _ _ _; rw [← hV]; exact own_below HO.out (Below.refl _ _).drew
    have HB : Hid (Below w1.heap.size w1 V) := by show Below _ _ _; rw [← hV]; exact HB.out.drew
    rw [hV] at hHeld ⊢
    clear hV
    refine comeA 2 fun K hK => ?_
    go_simp
    obtain ⟨V2, hW7⟩ : ∃ W7, V.alloc (.cells #[.int .u64 a, .int .u64 b] 129) = W7 := ⟨_, rfl⟩
    have hb7 : Below V.heap.size V V2 := by rw [← hW7]; exact (Below.refl _ _).alloc (Nat.le_refl _) _
    have HRn : Hid (Rd V2 (V.heap.size + 1) 2 (some ⟨V.heap.size, 0, none⟩) 1 (pCells [(a, b)])) := by show Rd _ _ _ _ _ _; rw [← hW7]; exact Rd.new V #[.int .u64 a, .int .u64 b] 129 (size := 2) (m := 1) rfl (by simp [maxLen])
    have HO := Lib.hid (own_below HO.out hb7)
    have HB := Lib.hid (HB.out.trans (hb7.mono HB.out.size))
    rw [hW7]
    clear hW7 hb7
    refine hK.out _ _ ?_ (fun hHeld => ?_)
    ·exact bk_rng (HP.out.below HB.out HP.out.lt)
    clear hK K
    try simp only [Act.put, pS]
    refine comeA 3 fun K hK => ?_
    have hvs := HB.out.size
    refine wp_app (.tmp 39) (.tmp 41) 38 w1.heap.size 129 i0 _ 2 16 Tryz.underlying38 hi0 hz0 hz1 hz2 rfl (by decide) _ k _ rfl HO.out _ _ 1 1 _ rfl HRn.out (pair_one _) (by simp only [maxLen]; omega) (by omega) hvs ?_
    intro v5 V5 hown5 hg5 hv5
    have HO5 : Hid (V5.ownsRow w1.heap.size 129 2 v5 (k + 1) (pCells (r.take k ++ [(a, b)]))) := by show World.ownsRow _ _ _ _ _ _ _; simpa [pCells] using hown5
    have HB := Lib.hid (below_own HB.out HO.out hg5 (Nat.le_refl _) HB.out.size)
    have HO := HO5
    clear hown5 hg5 hv5 HRn HO5 hvs
    refine hK.out _ _ ?_ (fun hHeld => ?_)
    ·exact bk_rng (HP.out.below HB.out HP.out.lt)
    clear hK K
    try simp only [Act.put, pS]
    refine comeA 7 fun K hK => ?_
    have hvs := HB.out.size
    refine wp_app (.tmp 42) (.tmp 45) 38 w1.heap.size 129 i0 _ 2 16 Tryz.underlying38 hi0 hz0 hz1 hz2 rfl (by decide) _ (k + 1) _ rfl HO.out _ _ _ _ _ rfl (HRd.out.below HB.out) (fun u hu => pair_one r u (List.mem_of_mem_drop hu)) (by simp only [maxLen]; omega) (by omega) hvs ?_
    intro v6 V6 hown6 hg6 hv6
    have HO6 : Hid (V6.ownsRow w1.heap.size 129 2 v6 (m + 1) (pCells (insT (a, b) r))) := by
     show World.ownsRow _ _ _ _ _ _ _
     rw [HIns.out, show m + 1 = k + 1 + (m - k) by omega]
     have e : pCells (r.take k ++ (a, b) :: r.drop k) = pCells (r.take k ++ [(a, b)]) ++ (pCells r).drop (k * 2) := by rw [pC_drop, ← pCells_app]; simp
     rw [e]
     exact hown6
    have HB := Lib.hid (below_own HB.out HO.out hg6 (Nat.le_refl _) HB.out.size)
    have HO := HO6
    clear hown6 hg6 hv6 HO6 hvs
    refine hK.out _ _ ?_ (fun hHeld => ?_)
    ·exact bk_rng (HP.out.below HB.out HP.out.lt)
    clear hK K
    try simp only [Act.put, pS]
    refine takeA 8 ?_
    try simp only [Act.put, pS]
    refine wpAnyH_done (by kernel_rfl) ?_ _
    try simp only [Act.put, pS]
    clear hHeld
    go_wp2
    go_ret
    have hlen : (insT (a, b) r).length = m + 1 := by have := congrArg List.length (insT_keys a b r); rw [insK_length, List.length_map, List.length_map] at this; have := HL.out; omega
    refine ⟨_, rfl, ?_, HB1.out.trans (HB.out.mono HB1.out.size)⟩
    rw [HRr.out, hlen]
    exact own_base HO.out (HB1.out.size)
  ·have HGe : Hid (∀ x, r[k]? = some x → ¬ x.1 < a) := fun y hy => by have := (List.getElem?_eq_some_iff.1 hy).1; have := HL.out; omega
   go_upto_region 4 with fail
   refine wp_region_held_drew (S := (fun w' => 0 ≤ w'.heap.size)) (by kernel_rfl) ?_ (fun hHeld => ?_)
   ·exact Nat.zero_le _
   refine takeA 0 ?_
   try simp only [Act.put, pS]
   refine takeA 1 ?_
   try simp only [Act.put, pS]
   refine takeA 2 ?_
   try simp only [Act.put, pS]
   refine takeA 3 ?_
   try simp only [Act.put, pS]
   refine takeA 4 ?_
   try simp only [Act.put, pS]
   refine skipA 5 ?_
   try simp only [Act.put, pS]
   refine skipA 6 ?_
   try simp only [Act.put, pS]
   refine skipA 7 ?_
   try simp only [Act.put, pS]
   refine skipA 8 ?_
   try simp only [Act.put, pS]
   refine skipA 9 ?_
   try simp only [Act.put, pS]
   refine skipA 10 ?_
   try simp only [Act.put, pS]
   refine skipA 11 ?_
   try simp only [Act.put, pS]
   refine skipA 12 ?_
   try simp only [Act.put, pS]
   refine takeA 13 ?_
   try simp only [Act.put, pS]
   refine wpAnyH_done (by kernel_rfl) ?_ _
   try simp only [Act.put, pS]
   clear hHeld p0
   obtain ⟨V0, hV0⟩ : ∃ V0, wr.drew = V0 := ⟨_, rfl⟩
   have HO : Hid (V0.ownsRow w1.heap.size 129 2 (.slice ov' k co) k (pCells (r.take k))) := by show World.ownsRow _ _ _ _ _ _ _; rw [← hV0]; exact own_below HO.out (Below.refl _ _).drew
   have HB : Hid (Below w1.heap.size w1 V0) := by show Below _ _ _; rw [← hV0]; exact HB.out.drew
   rw [hV0]
   clear hV0
   obtain ⟨A1, hcut, hrd⟩ := cut_l (P := Tryz.prog) 38 elem_rp size_rp HRb.out HS.out k (k : Int) rfl hk
   have HRd := Lib.hid hrd
   clear hrd
   have HIns : Hid (insT (a, b) r = r.take k ++ (a, b) :: r.drop k) := by show _ = _; exact insT_while (by rw [HL.out]; exact hk) HLt.out HGe.out
   go_upto_region 8 with fail
   obtain ⟨V, hV⟩ : ∃ V, V0.drew = V := ⟨_, rfl⟩
   refine wp_region_held_drew (S := (fun w' => w'.rangeAt w.heap.size 0 (#[.int .u64 a, .int .u64 b] : Array Value).toList)) (by kernel_rfl) ?_ (fun hHeld => ?_)
   ·exact bk_rng (HP.out.below HB.out.drew HP.out.lt)
   refine takeA 0 ?_
   try simp only [Act.put, pS]
   refine loadA 1 #[.int .u64 a, .int .u64 b] Tryz.underlying129 rfl (by kernel_rfl) ?_ ?_
   ·(intro w hSw; exact hSw)
   try simp only [Act.put, pS]
   refine takeA 4 ?_
   try simp only [Act.put, pS]
   refine takeA 5 ?_
   try simp only [Act.put, pS]
   refine takeA 6 ?_
   try simp only [Act.put, pS]
   clear hcut
   have HO : Hid (V.ownsRow w1.heap.size 129 2 (.slice ov' k co) k (pCells (r.take k))) := by show World.ownsRow _ _ _ _ _ _ _; rw [← hV]; exact own_below HO.out (Below.refl _ _).drew
   have HB : Hid (Below w1.heap.size w1 V) := by show Below _ _ _; rw [← hV]; exact HB.out.drew
   rw [hV] at hHeld ⊢
   clear hV
   refine comeA 2 fun K hK => ?_
   go_simp
   obtain ⟨V2, hW7⟩ : ∃ W7, V.alloc (.cells #[.int .u64 a, .int .u64 b] 129) = W7 := ⟨_, rfl⟩
   have hb7 : Below V.heap.size V V2 := by rw [← hW7]; exact (Below.refl _ _).alloc (Nat.le_refl _) _
   have HRn : Hid (Rd V2 (V.heap.size + 1) 2 (some ⟨V.heap.size, 0, none⟩) 1 (pCells [(a, b)])) := by show Rd _ _ _ _ _ _; rw [← hW7]; exact Rd.new V #[.int .u64 a, .int .u64 b] 129 (size := 2) (m := 1) rfl (by simp [maxLen])
   have HO := Lib.hid (own_below HO.out hb7)
   have HB := Lib.hid (HB.out.trans (hb7.mono HB.out.size))
   rw [hW7]
   clear hW7 hb7
   refine hK.out _ _ ?_ (fun hHeld => ?_)
   ·exact bk_rng (HP.out.below HB.out HP.out.lt)
   clear hK K
   try simp only [Act.put, pS]
   refine comeA 3 fun K hK => ?_
   have hvs := HB.out.size
   refine wp_app (.tmp 39) (.tmp 41) 38 w1.heap.size 129 i0 _ 2 16 Tryz.underlying38 hi0 hz0 hz1 hz2 rfl (by decide) _ k _ rfl HO.out _ _ 1 1 _ rfl HRn.out (pair_one _) (by simp only [maxLen]; omega) (by omega) hvs ?_
   intro v5 V5 hown5 hg5 hv5
   have HO5 : Hid (V5.ownsRow w1.heap.size 129 2 v5 (k + 1) (pCells (r.take k ++ [(a, b)]))) := by show World.ownsRow _ _ _ _ _ _ _; simpa [pCells] using hown5
   have HB := Lib.hid (below_own HB.out HO.out hg5 (Nat.le_refl _) HB.out.size)
   have HO := HO5
   clear hown5 hg5 hv5 HRn HO5 hvs
   refine hK.out _ _ ?_ (fun hHeld => ?_)
   ·exact bk_rng (HP.out.below HB.out HP.out.lt)
   clear hK K
   try simp only [Act.put, pS]
   refine comeA 7 fun K hK => ?_
   have hvs := HB.out.size
   refine wp_app (.tmp 42) (.tmp 45) 38 w1.heap.size 129 i0 _ 2 16 Tryz.underlying38 hi0 hz0 hz1 hz2 rfl (by decide) _ (k + 1) _ rfl HO.out _ _ _ _ _ rfl (HRd.out.below HB.out) (fun u hu => pair_one r u (List.mem_of_mem_drop hu)) (by simp only [maxLen]; omega) (by omega) hvs ?_
   intro v6 V6 hown6 hg6 hv6
   have HO6 : Hid (V6.ownsRow w1.heap.size 129 2 v6 (m + 1) (pCells (insT (a, b) r))) := by
    show World.ownsRow _ _ _ _ _ _ _
    rw [HIns.out, show m + 1 = k + 1 + (m - k) by omega]
    have e : pCells (r.take k ++ (a, b) :: r.drop k) = pCells (r.take k ++ [(a, b)]) ++ (pCells r).drop (k * 2) := by rw [pC_drop, ← pCells_app]; simp
    rw [e]
    exact hown6
   have HB := Lib.hid (below_own HB.out HO.out hg6 (Nat.le_refl _) HB.out.size)
   have HO := HO6
   clear hown6 hg6 hv6 HO6 hvs
   refine hK.out _ _ ?_ (fun hHeld => ?_)
   ·exact bk_rng (HP.out.below HB.out HP.out.lt)
   clear hK K
   try simp only [Act.put, pS]
   refine takeA 8 ?_
   try simp only [Act.put, pS]
   refine wpAnyH_done (by kernel_rfl) ?_ _
   try simp only [Act.put, pS]
   clear hHeld
   go_wp2
   go_ret
   have hlen : (insT (a, b) r).length = m + 1 := by have := congrArg List.length (insT_keys a b r); rw [insK_length, List.length_map, List.length_map] at this; have := HL.out; omega
   refine ⟨_, rfl, ?_, HB1.out.trans (HB.out.mono HB1.out.size)⟩
   rw [HRr.out, hlen]
   exact own_base HO.out (HB1.out.size)
end Go.Proofs.YtiiaingepbkikaaGreatDoor
