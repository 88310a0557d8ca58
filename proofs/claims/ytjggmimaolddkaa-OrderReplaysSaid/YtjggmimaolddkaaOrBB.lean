import Derived.Test.YtjggmimaolddkaaOrBA
import Derived.Test.YtjggmimaolddkaaOrAT
import Derived.Test.YtjggmimaolddkaaOrAA
import Derived.Deep.AppendLies
import Derived.RegionTactic
import Derived.Test.YtjggmimaolddkaaOrAQ
namespace Go.Proofs.Ytjggmimaolddkaa
open Go.RowKit
set_option linter.unusedVariables false
structure BX (f : Int → Option (List Int)) (l : List PBox) : Prop where
 up : l.Pairwise (fun a b => a.h < b.h)
 ok : ∀ b ∈ l, U64 b.h ∧ b.words.length = 8
 is_ : ∀ h ws, f h = some ws ↔ (⟨h, ws⟩ : PBox) ∈ l
theorem BX.nil : BX (fun _ => none) [] := ⟨List.Pairwise.nil, fun b hb => by simp at hb, fun h ws => by simp⟩
theorem BX.uniq {f : Int → Option (List Int)} {l : List PBox} (h : BX f l) {a b : PBox} (ha : a ∈ l) (hb : b ∈ l) (e : a.h = b.h) : a = b := by
 obtain ⟨x, u⟩ := a
 obtain ⟨y, v⟩ := b
 obtain rfl : x = y := e
 have h1 := (h.is_ x u).2 ha
 have h2 := (h.is_ x v).2 hb
 rw [h1] at h2
 injection h2 with h2
 rw [h2]
def findX (h : Int) : List PBox → Nat → Int
 | [], _ => -1
 | b :: l, n => if b.h = h then (n : Int) else findX h l (n + 1)
theorem findX_none {h : Int} : ∀ {l : List PBox} {n : Nat}, (∀ b ∈ l, b.h ≠ h) → findX h l n = -1
 | [], n, _ => rfl
 | b :: l, n, hn => by
   rw [findX, if_neg (hn b (by simp))]
   exact findX_none fun c hc => hn c (by simp [hc])
theorem findX_some {h : Int} : ∀ {l : List PBox} {n : Nat} {b : PBox}, b ∈ l → b.h = h → ∃ k c, findX h l n = ((n + k : Nat) : Int) ∧ l[k]? = some c ∧ c.h = h
 | c :: l, n, b, hb, he => by
   by_cases hc : c.h = h
   ·exact ⟨0, c, by rw [findX, if_pos hc]; rfl, rfl, hc⟩
   ·rcases List.mem_cons.1 hb with rfl | hb
    ·exact absurd he hc
    ·obtain ⟨k, d, h1, h2, h3⟩ := findX_some (n := n + 1) hb he
     exact ⟨k + 1, d, by rw [findX, if_neg hc, h1]; omega, by simpa using h2, h3⟩
theorem BX.find {f : Int → Option (List Int)} {l : List PBox} (h : BX f l) (x : Int) : (f x = none ∧ findX x l 0 = -1) ∨ (∃ (k : Nat) (ws : List Int), f x = some ws ∧ findX x l 0 = (k : Int) ∧ l[k]? = some ⟨x, ws⟩ ∧ ws.length = 8) := by
 cases hf : f x with
 | none =>
   refine .inl ⟨rfl, findX_none fun b hb e => ?_⟩
   have := (h.is_ b.h b.words).2 hb
   rw [e, hf] at this
   simp at this
 | some ws =>
   have hm := (h.is_ x ws).1 hf
   obtain ⟨k, c, h1, h2, h3⟩ := findX_some (n := 0) hm rfl
   have hc := List.mem_of_getElem? h2
   obtain rfl := h.uniq hc hm h3
   exact .inr ⟨k, ws, rfl, by rw [h1]; simp, h2, (h.ok _ hm).2⟩
def withGo (h : Int) (ws : List Int) : Bool → List PBox → List PBox
 | done, [] => if done then [] else [⟨h, ws⟩]
 | done, b :: l => (if !done && decide (h ≤ b.h) then [⟨h, ws⟩] else []) ++ ((if b.h ≠ h then [b] else []) ++ withGo h ws (done || decide (h ≤ b.h)) l)
def withX (h : Int) (ws : List Int) (l : List PBox) : List PBox := withGo h ws false l
def withoutX (h : Int) (l : List PBox) : List PBox := l.filter fun b => decide (b.h ≠ h)
theorem withGo_done {h : Int} {ws : List Int} : ∀ {l : List PBox}, withGo h ws true l = withoutX h l
 | [] => rfl
 | b :: l => by
   rw [withGo, Bool.not_true, Bool.false_and, if_neg (by simp), List.nil_append, Bool.true_or, withGo_done]
   unfold withoutX
   rw [List.filter_cons]
   by_cases hb : b.h = h
   ·simp [hb]
   ·simp [hb]
theorem withGo_mem {h : Int} {ws : List Int} : ∀ {l : List PBox} (b : PBox), b ∈ withGo h ws false l ↔ b = ⟨h, ws⟩ ∨ (b ∈ l ∧ b.h ≠ h)
 | [], b => by simp [withGo]
 | c :: l, b => by
   rw [withGo]
   by_cases hc : h ≤ c.h
   ·rw [decide_eq_true hc, Bool.or_true, withGo_done]
    simp only [Bool.not_false, Bool.and_self, if_true, List.mem_append, List.mem_singleton]
    unfold withoutX
    rw [List.mem_filter]
    by_cases hch : c.h = h
    ·simp only [hch, ne_eq, not_true, if_false, List.not_mem_nil, false_or, decide_eq_true_eq, List.mem_cons]
     constructor
     ·rintro (e | ⟨h1, h2⟩)
      ·exact .inl e
      ·exact .inr ⟨.inr h1, h2⟩
     ·rintro (e | ⟨rfl | h1, h2⟩)
      ·exact .inl e
      ·exact absurd hch h2
      ·exact .inr ⟨h1, h2⟩
    ·simp only [ne_eq, hch, not_false_eq_true, if_true, decide_eq_true_eq, List.mem_cons, List.not_mem_nil, or_false]
     constructor
     ·rintro (e | rfl | ⟨h1, h2⟩)
      ·exact .inl e
      ·exact .inr ⟨.inl rfl, hch⟩
      ·exact .inr ⟨.inr h1, h2⟩
     ·rintro (e | ⟨rfl | h1, h2⟩)
      ·exact .inl e
      ·exact .inr (.inl rfl)
      ·exact .inr (.inr ⟨h1, h2⟩)
   ·have ih := withGo_mem (h := h) (ws := ws) (l := l) b
    have hch : ¬ c.h = h := by omega
    rw [decide_eq_false hc]
    simp only [Bool.not_false, Bool.true_and, Bool.false_eq_true, if_false, List.nil_append, Bool.or_false, ne_eq, hch, not_false_eq_true, if_true, List.mem_append, ih, List.mem_cons, List.not_mem_nil, or_false]
    constructor
    ·rintro (rfl | e | ⟨h1, h2⟩)
     ·exact .inr ⟨.inl rfl, hch⟩
     ·exact .inl e
     ·exact .inr ⟨.inr h1, h2⟩
    ·rintro (e | ⟨rfl | h1, h2⟩)
     ·exact .inr (.inl e)
     ·exact .inl rfl
     ·exact .inr (.inr ⟨h1, h2⟩)
theorem withGo_up {h : Int} {ws : List Int} : ∀ {l : List PBox}, l.Pairwise (fun a b => a.h < b.h) → (withGo h ws false l).Pairwise (fun a b => a.h < b.h)
 | [], _ => by simp [withGo]
 | c :: l, hl => by
   rw [List.pairwise_cons] at hl
   rw [withGo]
   by_cases hc : h ≤ c.h
   ·rw [decide_eq_true hc, Bool.or_true, withGo_done]
    simp only [Bool.not_false, Bool.and_self, if_true]
    have hw : (withoutX h l).Pairwise (fun a b => a.h < b.h) := hl.2.filter _
    by_cases hch : c.h = h
    ·simp only [hch, ne_eq, not_true, if_false, List.nil_append, List.singleton_append]
     refine List.pairwise_cons.2 ⟨fun b hb => ?_, hw⟩
     have := hl.1 b (List.mem_filter.1 hb).1
     show h < b.h
     omega
    ·simp only [ne_eq, hch, not_false_eq_true, if_true, List.singleton_append]
     refine List.pairwise_cons.2 ⟨fun b hb => ?_, List.pairwise_cons.2 ⟨fun b hb => hl.1 b (List.mem_filter.1 hb).1, hw⟩⟩
     show h < b.h
     rcases List.mem_cons.1 hb with rfl | hb
     ·omega
     ·have := hl.1 b (List.mem_filter.1 hb).1
      omega
   ·have hch : ¬ c.h = h := by omega
    rw [decide_eq_false hc]
    simp only [Bool.not_false, Bool.true_and, Bool.false_eq_true, if_false, List.nil_append, Bool.or_false, ne_eq, hch, not_false_eq_true, if_true, List.singleton_append]
    refine List.pairwise_cons.2 ⟨fun b hb => ?_, withGo_up hl.2⟩
    rcases (withGo_mem b).1 hb with rfl | ⟨h1, _⟩
    ·show c.h < h; omega
    ·exact hl.1 b h1
theorem BX.set_ {f : Int → Option (List Int)} {l : List PBox} (h : BX f l) {x : Int} {ws : List Int} (hx : U64 x) (hw : ws.length = 8) : BX (upd f x (some ws)) (withX x ws l) := by
 refine ⟨withGo_up h.up, fun b hb => ?_, fun y vs => ?_⟩
 ·rcases (withGo_mem b).1 hb with rfl | ⟨h1, _⟩
  ·exact ⟨hx, hw⟩
  ·exact h.ok b h1
 ·unfold withX
  rw [withGo_mem]
  unfold upd
  by_cases hy : y = x
  ·subst hy
   simp only [if_true, Option.some.injEq, PBox.mk.injEq, true_and, ne_eq, not_true, and_false, or_false]
   exact eq_comm
  ·rw [if_neg hy, h.is_ y vs]
   simp [hy]
theorem BX.del {f : Int → Option (List Int)} {l : List PBox} (h : BX f l) (x : Int) : BX (upd f x none) (withoutX x l) := by
 refine ⟨h.up.filter _, fun b hb => h.ok b (List.mem_filter.1 hb).1, fun y vs => ?_⟩
 unfold withoutX upd
 rw [List.mem_filter]
 by_cases hy : y = x
 ·subst hy
  simp
 ·rw [if_neg hy, h.is_ y vs]
  simp [hy]
theorem BX.len {s : MSt} {l : List PBox} (h : BX s.blocks l) (hf : Few64 s) : l.length = liveP s := by
 have hk : KeysOf s.blocks (l.map PBox.h) := by
  refine ⟨?_, fun x => ?_⟩
  ·rw [List.Nodup, List.pairwise_map]
   exact h.up.imp fun hab e => by omega
  ·rw [List.mem_map]
   constructor
   ·rintro ⟨b, hb, rfl⟩
    exact ⟨(h.ok b hb).1, by rw [(h.is_ b.h b.words).2 hb]; rfl⟩
   ·rintro ⟨_, hs⟩
    obtain ⟨ws, hws⟩ := Option.isSome_iff_exists.1 hs
    exact ⟨_, (h.is_ x ws).1 hws, rfl⟩
 have := live_keys hf hk
 rwa [List.length_map] at this
/-! ### a run's cells -/
structure RR where
 roots : List Int
 bv : Value
 pc : Int
 regs : List Int
 steps : Int
 writes : Int
 nv : Value
 pv : Value
 ended : Bool
 val : Int
 e : Int
def RR.tail (c : RR) : List Value := [.int .i64 c.steps, .int .i64 c.writes, c.nv, c.pv, .bool c.ended, .int .u64 c.val, .int .i64 c.e]
def RR.cells (c : RR) : List Value := u64s c.roots ++ (c.bv :: .int .i64 c.pc :: (u64s c.regs ++ c.tail))
def stV (roots : List Int) (bv : Value) : List Value := u64s roots ++ [bv]
structure RR.Sz (c : RR) : Prop where
 roots : c.roots.length = 16
 regs : c.regs.length = 16
section
variable {c : RR} (h : c.Sz)
include h
theorem RR.len : c.cells.length = 41 := by simp [RR.cells, RR.tail, h.roots, h.regs]
theorem RR.at_root {k : Nat} (hk : k < 16) : c.cells[k]? = some (.int .u64 (c.roots.getD k 0)) := by
 have hl : k < c.roots.length := by rw [h.roots]; exact hk
 rw [RR.cells, List.getElem?_append_left (by simpa using hl)]
 simp [u64s, hl]
theorem RR.at_bv : c.cells[16]? = some c.bv := by
 rw [RR.cells, List.getElem?_append_right (by simp [h.roots])]
 simp [h.roots]
theorem RR.at_pc : c.cells[17]? = some (.int .i64 c.pc) := by
 rw [RR.cells, List.getElem?_append_right (by simp [h.roots])]
 simp [h.roots]
theorem RR.at_reg {k : Nat} (hk : k < 16) : c.cells[18 + k]? = some (.int .u64 (c.regs.getD k 0)) := by
 have hl : k < c.regs.length := by rw [h.regs]; exact hk
 rw [RR.cells, List.getElem?_append_right (by simp [h.roots]; omega), show 18 + k - (u64s c.roots).length = (k + 1) + 1 by simp [h.roots]; omega, List.getElem?_cons_succ, List.getElem?_cons_succ, List.getElem?_append_left (by simpa using hl)]
 simp [u64s, hl]
theorem RR.at_tail (j : Nat) : c.cells[34 + j]? = c.tail[j]? := by
 rw [RR.cells, List.getElem?_append_right (by simp [h.roots]; omega), show 34 + j - (u64s c.roots).length = (16 + j + 1) + 1 by simp [h.roots]; omega, List.getElem?_cons_succ, List.getElem?_cons_succ, List.getElem?_append_right (by simp [h.regs])]
 congr 1
 simp [h.regs]
theorem RR.set_root {k : Nat} (hk : k < 16) (v : Int) : c.cells.set k (.int .u64 v) = ({ c with roots := c.roots.set k v } : RR).cells := by
 rw [RR.cells, List.set_append_left _ _ (by simp [h.roots]; omega)]
 simp [RR.cells, RR.tail, u64s, List.map_set]
theorem RR.set_pc (v : Int) : c.cells.set 17 (.int .i64 v) = ({ c with pc := v } : RR).cells := by
 rw [RR.cells, List.set_append_right _ _ (by simp [h.roots])]
 simp [RR.cells, RR.tail, h.roots]
theorem RR.set_reg {k : Nat} (hk : k < 16) (v : Int) : c.cells.set (18 + k) (.int .u64 v) = ({ c with regs := c.regs.set k v } : RR).cells := by
 rw [RR.cells, List.set_append_right _ _ (by simp [h.roots]; omega), show 18 + k - (u64s c.roots).length = (k + 1) + 1 by simp [h.roots]; omega, List.set_cons_succ, List.set_cons_succ, List.set_append_left _ _ (by simp [h.regs]; omega)]
 simp [RR.cells, RR.tail, u64s, List.map_set]
theorem RR.set_tail (j : Nat) (v : Value) : c.cells.set (34 + j) v = u64s c.roots ++ (c.bv :: .int .i64 c.pc :: (u64s c.regs ++ c.tail.set j v)) := by
 rw [RR.cells, List.set_append_right _ _ (by simp [h.roots]; omega), show 34 + j - (u64s c.roots).length = (16 + j + 1) + 1 by simp [h.roots]; omega, List.set_cons_succ, List.set_cons_succ, List.set_append_right _ _ (by simp [h.regs])]
 congr 5
 simp [h.regs]
theorem RR.set_steps (v : Int) : c.cells.set 34 (.int .i64 v) = ({ c with steps := v } : RR).cells := RR.set_tail h 0 _
theorem RR.set_writes (v : Int) : c.cells.set 35 (.int .i64 v) = ({ c with writes := v } : RR).cells := RR.set_tail h 1 _
theorem RR.set_nv (v : Value) : c.cells.set 36 v = ({ c with nv := v } : RR).cells := RR.set_tail h 2 _
theorem RR.set_pv (v : Value) : c.cells.set 37 v = ({ c with pv := v } : RR).cells := RR.set_tail h 3 _
theorem RR.set_ended (v : Bool) : c.cells.set 38 (.bool v) = ({ c with ended := v } : RR).cells := RR.set_tail h 4 _
theorem RR.set_val (v : Int) : c.cells.set 39 (.int .u64 v) = ({ c with val := v } : RR).cells := RR.set_tail h 5 _
theorem RR.set_e (v : Int) : c.cells.set 40 (.int .i64 v) = ({ c with e := v } : RR).cells := RR.set_tail h 6 _
end
end Go.Proofs.Ytjggmimaolddkaa
namespace Go.Proofs.Ytjggmimaolddkaa
open Go.RowKit
set_option linter.unusedVariables false
end Go.Proofs.Ytjggmimaolddkaa
namespace Go.Proofs.Ytjggmimaolddkaa
open Go.RowKit
set_option linter.unusedVariables false
end Go.Proofs.Ytjggmimaolddkaa
