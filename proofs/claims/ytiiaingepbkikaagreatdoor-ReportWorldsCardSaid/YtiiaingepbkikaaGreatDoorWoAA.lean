import Derived.WalkKit
import Derived.Handy
import Derived.Deep.Draws
import Derived.Lib.Hide
import Derived.Maps.AppendAt
import Derived.OwnWalk
import Derived.Laws.OwnMore
import Derived.Lib.SlBytesConst
import Derived.Laws.BytesArg
import Derived.Laws.Runes
namespace Go.Proofs.YtiiaingepbkikaaGreatDoor
set_option linter.unusedVariables false
abbrev QO := Option (Int × List Int)
abbrev PO := Option (Int × List (Int × Int))
def newQ {α : Type} (n : Nat) (a : Int) : Option (Int × List α) := if n = 0 then some (a, []) else none
def qS (n : Nat) (a cap : Int) (l : List Int) : QO :=
 if n = 1 then (if cap ≤ (l.length : Int) then some (cap, l) else some (cap, l ++ [a]))
 else if n = 2 then some (cap, l.drop 1)
 else if n = 5 ∧ l = [] then none
 else some (cap, l)
def qP (n : Nat) (a : Int) : QO → QO
 | none => newQ n a
 | some (cap, l) => qS n a cap l
def insK (a : Int) (l : List Int) : List Int := l.takeWhile (fun x => decide (x < a)) ++ a :: l.dropWhile (fun x => decide (x < a))
def delK (a : Int) (l : List Int) : List Int := l.filter (fun x => decide (x ≠ a))
def cS (n : Nat) (a cap : Int) (l : List Int) : QO :=
 if n = 1 then (if a ∈ l then some (cap, l) else if cap ≤ (l.length : Int) then some (cap, l) else some (cap, insK a l))
 else if n = 2 then some (cap, delK a l)
 else if n = 6 ∧ l = [] then none
 else some (cap, l)
def cP (n : Nat) (a : Int) : QO → QO
 | none => newQ n a
 | some (cap, l) => cS n a cap l
def insT (p : Int × Int) (l : List (Int × Int)) : List (Int × Int) := l.takeWhile (fun x => decide (x.1 < p.1)) ++ p :: l.dropWhile (fun x => decide (x.1 < p.1))
def delT (a : Int) (l : List (Int × Int)) : List (Int × Int) := l.filter (fun x => decide (x.1 ≠ a))
def tS (n : Nat) (a b cap : Int) (l : List (Int × Int)) : PO :=
 if n = 1 then (if a ∈ l.map (·.1) then some (cap, insT (a, b) (delT a l)) else if cap ≤ (l.length : Int) then some (cap, l) else some (cap, insT (a, b) (delT a l)))
 else if n = 3 then some (cap, delT a l)
 else if n = 5 ∧ l = [] then none
 else some (cap, l)
def tP (n : Nat) (a b : Int) : PO → PO
 | none => newQ n a
 | some (cap, l) => tS n a b cap l
structure Th where
 q : QO
 c : QO
 t : PO
def Th.none_ (x : Th) : Bool := x.q.isNone && x.c.isNone && x.t.isNone
def th0 : Th := ⟨none, none, none⟩
def thP (n : Nat) (a b : Int) (x : Th) : Th :=
 if n < 6 then (if x.q.isSome || x.none_ then { x with q := qP n a x.q } else x)
 else if n < 13 then (if x.c.isSome || x.none_ then { x with c := cP (n - 6) a x.c } else x)
 else (if x.t.isSome || x.none_ then { x with t := tP (n - 13) a b x.t } else x)
def U64' (x : Int) : Prop := 0 ≤ x ∧ x ≤ 18446744073709551615
def Up (l : List Int) : Prop := l.Pairwise (· < ·)
def QOk (k : Nat) : QO → Prop
 | none => True
 | some (cap, l) => U64' cap ∧ (∀ x ∈ l, U64' x) ∧ l.length ≤ k
def COk (k : Nat) : QO → Prop
 | none => True
 | some (cap, l) => U64' cap ∧ (∀ x ∈ l, U64' x) ∧ l.length ≤ k ∧ Up l
def TOk (k : Nat) : PO → Prop
 | none => True
 | some (cap, l) => U64' cap ∧ (∀ x ∈ l, U64' x.1 ∧ U64' x.2) ∧ l.length ≤ k ∧ Up (l.map (·.1))
structure Th.Ok (k : Nat) (x : Th) : Prop where
 q : QOk k x.q
 c : COk k x.c
 t : TOk k x.t
 one : (x.c = none ∧ x.t = none) ∨ (x.q = none ∧ x.t = none) ∨ (x.q = none ∧ x.c = none)
theorem QOk.more {k m : Nat} {o : QO} (h : QOk k o) (hk : k ≤ m) : QOk m o := by
 rcases o with _ | ⟨cap, l⟩
 ·exact h
 ·exact ⟨h.1, h.2.1, Nat.le_trans h.2.2 hk⟩
theorem COk.more {k m : Nat} {o : QO} (h : COk k o) (hk : k ≤ m) : COk m o := by
 rcases o with _ | ⟨cap, l⟩
 ·exact h
 ·exact ⟨h.1, h.2.1, Nat.le_trans h.2.2.1 hk, h.2.2.2⟩
theorem TOk.more {k m : Nat} {o : PO} (h : TOk k o) (hk : k ≤ m) : TOk m o := by
 rcases o with _ | ⟨cap, l⟩
 ·exact h
 ·exact ⟨h.1, h.2.1, Nat.le_trans h.2.2.1 hk, h.2.2.2⟩
theorem Th.Ok.more {k m : Nat} {x : Th} (h : x.Ok k) (hk : k ≤ m) : x.Ok m := ⟨h.q.more hk, h.c.more hk, h.t.more hk, h.one⟩
theorem qP_ok {n k : Nat} {a : Int} {o : QO} (h : QOk k o) (ha : U64' a) : QOk (k + 1) (qP n a o) := by
 rcases o with _ | ⟨cap, l⟩
 ·show QOk _ (newQ n a)
  unfold newQ
  split
  ·exact ⟨ha, by simp, by simp⟩
  ·trivial
 ·have same := h.more (Nat.le_succ k)
  obtain ⟨hc, hm, hl⟩ := h
  show QOk _ (qS n a cap l)
  unfold qS
  split
  ·split
   ·exact same
   ·refine ⟨hc, fun x hx => ?_, by simp; exact hl⟩
    rcases List.mem_append.1 hx with h | h
    ·exact hm x h
    ·simp at h; subst h; exact ha
  ·split
   ·exact ⟨hc, fun x hx => hm x (List.mem_of_mem_drop hx), by simp; omega⟩
   ·split
    ·trivial
    ·exact same
theorem insK_parts (a : Int) (l : List Int) : l.takeWhile (fun x => decide (x < a)) ++ l.dropWhile (fun x => decide (x < a)) = l := List.takeWhile_append_dropWhile
theorem insK_mem {a x : Int} {l : List Int} (h : x ∈ insK a l) : x = a ∨ x ∈ l := by
 have hp := insK_parts a l
 unfold insK at h
 rcases List.mem_append.1 h with h | h
 ·exact .inr (by rw [← hp]; exact List.mem_append_left _ h)
 ·rcases List.mem_cons.1 h with h | h
  ·exact .inl h
  ·exact .inr (by rw [← hp]; exact List.mem_append_right _ h)
theorem insK_length (a : Int) (l : List Int) : (insK a l).length = l.length + 1 := by
 have := congrArg List.length (insK_parts a l)
 unfold insK
 simp only [List.length_append, List.length_cons] at this ⊢
 omega
theorem up_drop {l : List Int} (h : Up l) (a : Int) : ∀ x ∈ l.dropWhile (fun x => decide (x < a)), a ≤ x := by
 induction l with
 | nil => simp
 | cons y l ih =>
   have hy := List.pairwise_cons.1 h
   rw [List.dropWhile_cons]
   split
   ·exact ih hy.2
   ·next hn =>
    intro x hx
    have hya : a ≤ y := by simpa using hn
    rcases List.mem_cons.1 hx with rfl | hx
    ·exact hya
    ·have := hy.1 x hx; omega
theorem up_take (l : List Int) (a : Int) : ∀ x ∈ l.takeWhile (fun x => decide (x < a)), x < a := by
 intro x hx
 induction l with
 | nil => simp at hx
 | cons y l ih =>
   rw [List.takeWhile_cons] at hx
   split at hx
   ·next h =>
    rcases List.mem_cons.1 hx with rfl | hx
    ·simpa using h
    ·exact ih hx
   ·simp at hx
theorem insK_up {a : Int} {l : List Int} (h : Up l) (ha : a ∉ l) : Up (insK a l) := by
 have hp := insK_parts a l
 have hd := up_drop h a
 have ht := up_take l a
 have hs : Up (l.takeWhile (fun x => decide (x < a)) ++ l.dropWhile (fun x => decide (x < a))) := by rw [hp]; exact h
 obtain ⟨h1, h2, h3⟩ := List.pairwise_append.1 hs
 unfold insK Up
 refine List.pairwise_append.2 ⟨h1, List.pairwise_cons.2 ⟨fun x hx => ?_, h2⟩, fun x hx y hy => ?_⟩
 ·have h4 := hd x hx
  have h5 : x ≠ a := fun e => ha (by rw [← e, ← hp]; exact List.mem_append_right _ hx)
  omega
 ·rcases List.mem_cons.1 hy with rfl | hy
  ·exact ht x hx
  ·exact h3 x hx y hy
theorem cP_ok {n k : Nat} {a : Int} {o : QO} (h : COk k o) (ha : U64' a) : COk (k + 1) (cP n a o) := by
 rcases o with _ | ⟨cap, l⟩
 ·show COk _ (newQ n a)
  unfold newQ
  split
  ·exact ⟨ha, by simp, by simp, List.Pairwise.nil⟩
  ·trivial
 ·have same := h.more (Nat.le_succ k)
  obtain ⟨hc, hm, hl, hu⟩ := h
  show COk _ (cS n a cap l)
  unfold cS
  split
  ·split
   ·exact same
   ·next hna =>
    split
    ·exact same
    ·refine ⟨hc, fun x hx => ?_, by rw [insK_length]; omega, insK_up hu hna⟩
     rcases insK_mem hx with rfl | h
     ·exact ha
     ·exact hm x h
  ·split
   ·refine ⟨hc, fun x hx => hm x (List.mem_filter.1 hx).1, ?_, List.Pairwise.filter _ hu⟩
    have := List.length_filter_le (fun x => decide (x ≠ a)) l
    unfold delK
    omega
   ·split
    ·trivial
    ·exact same
theorem map_take (a : Int) (l : List (Int × Int)) : (l.takeWhile (fun x => decide (x.1 < a))).map (·.1) = (l.map (·.1)).takeWhile (fun x => decide (x < a)) := by
 induction l with
 | nil => rfl
 | cons y l ih => simp only [List.map_cons, List.takeWhile_cons]; split <;> simp [ih]
theorem map_drop (a : Int) (l : List (Int × Int)) : (l.dropWhile (fun x => decide (x.1 < a))).map (·.1) = (l.map (·.1)).dropWhile (fun x => decide (x < a)) := by
 induction l with
 | nil => rfl
 | cons y l ih => simp only [List.map_cons, List.dropWhile_cons]; split <;> simp [ih]
theorem insT_keys (a b : Int) (l : List (Int × Int)) : (insT (a, b) l).map (·.1) = insK a (l.map (·.1)) := by
 unfold insT insK
 rw [List.map_append, List.map_cons, map_take, map_drop]
theorem delT_keys (a : Int) (l : List (Int × Int)) : (delT a l).map (·.1) = delK a (l.map (·.1)) := by
 unfold delT delK
 rw [List.filter_map]
 rfl
theorem insT_mem {p x : Int × Int} {l : List (Int × Int)} (h : x ∈ insT p l) : x = p ∨ x ∈ l := by
 have hp : l.takeWhile (fun x => decide (x.1 < p.1)) ++ l.dropWhile (fun x => decide (x.1 < p.1)) = l := List.takeWhile_append_dropWhile
 unfold insT at h
 rcases List.mem_append.1 h with h | h
 ·exact .inr (by rw [← hp]; exact List.mem_append_left _ h)
 ·rcases List.mem_cons.1 h with h | h
  ·exact .inl h
  ·exact .inr (by rw [← hp]; exact List.mem_append_right _ h)
theorem delK_not (a : Int) (l : List Int) : a ∉ delK a l := fun h => by simpa using (List.mem_filter.1 h).2
theorem delT_not {a : Int} {l : List (Int × Int)} (h : a ∉ l.map (·.1)) : delT a l = l := by
 unfold delT
 refine List.filter_eq_self.2 fun x hx => ?_
 simp only [decide_eq_true_eq]
 exact fun e => h (List.mem_map.2 ⟨x, hx, e⟩)
theorem tP_ok {n k : Nat} {a b : Int} {o : PO} (h : TOk k o) (ha : U64' a) (hb : U64' b) : TOk (k + 1) (tP n a b o) := by
 rcases o with _ | ⟨cap, l⟩
 ·show TOk _ (newQ n a)
  unfold newQ
  split
  ·exact ⟨ha, by simp, by simp, List.Pairwise.nil⟩
  ·trivial
 ·have same := h.more (Nat.le_succ k)
  obtain ⟨hc, hm, hl, hu⟩ := h
  have hdl : (delT a l).length ≤ l.length := List.length_filter_le _ _
  have hdu : Up ((delT a l).map (·.1)) := by rw [delT_keys]; exact List.Pairwise.filter _ hu
  have put : TOk (k + 1) (some (cap, insT (a, b) (delT a l))) := by
   refine ⟨hc, fun x hx => ?_, ?_, ?_⟩
   ·rcases insT_mem hx with rfl | h
    ·exact ⟨ha, hb⟩
    ·exact hm x (List.mem_filter.1 h).1
   ·have := congrArg List.length (insT_keys a b (delT a l))
    rw [insK_length, List.length_map, List.length_map] at this
    omega
   ·rw [insT_keys]
    exact insK_up hdu (by rw [delT_keys]; exact delK_not _ _)
  show TOk _ (tS n a b cap l)
  unfold tS
  split
  ·split
   ·exact put
   ·split
    ·exact same
    ·exact put
  ·split
   ·exact ⟨hc, fun x hx => hm x (List.mem_filter.1 hx).1, by omega, hdu⟩
   ·split
    ·trivial
    ·exact same
theorem thP_ok {n k : Nat} {a b : Int} {x : Th} (h : x.Ok k) (ha : U64' a) (hb : U64' b) : (thP n a b x).Ok (k + 1) := by
 have same := h.more (Nat.le_succ k)
 have fewq : x.q.isSome || x.none_ → x.c = none ∧ x.t = none := by
  rcases x with ⟨q, c, t⟩
  intro hq
  rcases h.one with h | h | h <;> simp_all [Th.none_]
 have fewc : x.c.isSome || x.none_ → x.q = none ∧ x.t = none := by
  rcases x with ⟨q, c, t⟩
  intro hq
  rcases h.one with h | h | h <;> simp_all [Th.none_]
 have fewt : x.t.isSome || x.none_ → x.q = none ∧ x.c = none := by
  rcases x with ⟨q, c, t⟩
  intro hq
  rcases h.one with h | h | h <;> simp_all [Th.none_]
 unfold thP
 split
 ·split
  ·next hq => exact ⟨qP_ok h.q ha, same.c, same.t, .inl (fewq hq)⟩
  ·exact same
 ·split
  ·split
   ·next hq => exact ⟨same.q, cP_ok h.c ha, same.t, .inr (.inl (fewc hq))⟩
   ·exact same
  ·split
   ·next hq => exact ⟨same.q, same.c, tP_ok h.t ha hb, .inr (.inr (fewt hq))⟩
   ·exact same
end Go.Proofs.YtiiaingepbkikaaGreatDoor
namespace Go.Proofs.YtiiaingepbkikaaGreatDoor
open Go.RowKit
set_option linter.unusedVariables false
theorem below_drewN {B : Nat} {a w : World} (h : Below B a w) (n : Nat) : Below B a (w.drewN n) := ⟨h.os, h.tape, h.output, h.size, h.block⟩
structure Rd (w : World) (B size : Nat) (A : Option Addr) (n : Nat) (xs : List Value) : Prop where
 len : xs.length = n * size
 le : n ≤ maxLen
 at_ : 0 < n → ∃ b o, A = some ⟨b, o, none⟩ ∧ b < B ∧ ∀ j u, xs[j]? = some u → w.cell? ⟨b, o + j, none⟩ = some u
section
variable {w w' : World} {B B' size n : Nat} {A : Option Addr} {xs : List Value}
theorem Rd.keep (h : Rd w B size A n xs) (hk : ∀ p : Addr, p.block < B → w'.cell? p = w.cell? p) : Rd w' B size A n xs :=
 ⟨h.len, h.le, fun hn => by
  obtain ⟨b, o, e, hb, hc⟩ := h.at_ hn
  exact ⟨b, o, e, hb, fun j u hu => (hk ⟨b, o + j, none⟩ hb).trans (hc j u hu)⟩⟩
theorem Rd.more (h : Rd w B size A n xs) (hB : B ≤ B') : Rd w B' size A n xs :=
 ⟨h.len, h.le, fun hn => by
  obtain ⟨b, o, e, hb, hc⟩ := h.at_ hn
  exact ⟨b, o, e, Nat.lt_of_lt_of_le hb hB, hc⟩⟩
theorem Rd.below (h : Rd w B size A n xs) (hb : Below B w w') : Rd w' B size A n xs := h.keep fun _ hp => hb.cell hp
theorem Rd.drew (h : Rd w B size A n xs) : Rd w.drew B size A n xs := ⟨h.len, h.le, h.at_⟩
theorem Rd.drewN (h : Rd w B size A n xs) (k : Nat) : Rd (w.drewN k) B size A n xs := ⟨h.len, h.le, h.at_⟩
theorem Rd.alloc (h : Rd w B size A n xs) (hB : B ≤ w.heap.size) (o : Obj) : Rd (w.alloc o) B size A n xs := h.below ((Below.refl _ _).alloc hB o)
theorem Rd.setCell (h : Rd w B size A n xs) {p : Addr} (hB : B ≤ p.block) (u : Value) : Rd (w.setCell p u) B size A n xs := h.below ((Below.refl _ _).setCell hB u)
theorem Rd.grown (h : Rd w B size A n xs) {row : Option Nat} (hg : w.grownBy w' row) (hB : B ≤ w.heap.size) (hr : ∀ g, row = some g → B ≤ g) : Rd w' B size A n xs :=
 h.below ((Below.refl _ _).grown hg hB hr)
theorem Rd.nil (w : World) (B size : Nat) (A : Option Addr) : Rd w B size A 0 [] := ⟨by simp, by simp [maxLen], fun h => by omega⟩
theorem Rd.of_own {base : Nat} {e : TypeId} {v : Value} (h : w.ownsRow base e size v n xs) : ∃ A c, v = .slice A n c ∧ Rd w w.heap.size size A n xs := by
 rcases h.2 with ⟨rfl, rfl⟩ | ⟨g, cap, cur, rfl, hb, hg, hnc, hcm, hcs, hx⟩
 ·exact ⟨none, 0, rfl, h.1, by simp [maxLen], fun h => by omega⟩
 ·refine ⟨_, cap, rfl, h.1, Nat.le_trans hnc hcm, fun hn => ⟨g, 0, rfl, (Array.getElem?_eq_some_iff.1 hg).1, fun j u hu => ?_⟩⟩
  have hj : j < n * size := by rw [← h.1]; exact (List.getElem?_eq_some_iff.1 hu).1
  rw [← hx, List.getElem?_take_of_lt hj] at hu
  simp [World.cell?, hg]
  simpa using hu
end
structure Ins where
 op : Int
 a : Int
 b : Int
 c : Int
 imm : Int
theorem Ins.ext_ {i j : Ins} (h : i.op = j.op ∧ i.a = j.a ∧ i.b = j.b ∧ i.c = j.c ∧ i.imm = j.imm) : i = j := by
 cases i; cases j; simp_all
instance : DecidableEq Ins := fun i j =>
 if h : i.op = j.op ∧ i.a = j.a ∧ i.b = j.b ∧ i.c = j.c ∧ i.imm = j.imm then isTrue (Ins.ext_ h) else isFalse (fun e => h (by subst e; exact ⟨rfl, rfl, rfl, rfl, rfl⟩))
def Ins.cells (i : Ins) : List Value := [.int .i64 i.op, .int .i64 i.a, .int .i64 i.b, .int .i64 i.c, .int .u64 i.imm]
def insCells (l : List Ins) : List Value := l.flatMap Ins.cells
structure Ins.Ok (i : Ins) : Prop where
 op : -9223372036854775808 ≤ i.op ∧ i.op ≤ 9223372036854775807
 a : -9223372036854775808 ≤ i.a ∧ i.a ≤ 9223372036854775807
 b : -9223372036854775808 ≤ i.b ∧ i.b ≤ 9223372036854775807
 c : -9223372036854775808 ≤ i.c ∧ i.c ≤ 9223372036854775807
 imm : 0 ≤ i.imm ∧ i.imm ≤ 18446744073709551615
abbrev RdI (w : World) (B : Nat) (A : Option Addr) (n : Nat) (l : List Ins) : Prop := Rd w B 5 A n (insCells l)
end Go.Proofs.YtiiaingepbkikaaGreatDoor
namespace Go.Proofs.YtiiaingepbkikaaGreatDoor
open Go.RowKit
set_option linter.unusedVariables false
theorem Rd.new (w : World) (cs : Array Value) (t : TypeId) {size m : Nat} (hs : cs.size = m * size) (hm : m ≤ maxLen) :
 Rd (w.alloc (.cells cs t)) (w.heap.size + 1) size (some ⟨w.heap.size, 0, none⟩) m cs.toList := by
 refine ⟨by simpa using hs, hm, fun _ => ⟨w.heap.size, 0, rfl, by omega, fun j u hu => ?_⟩⟩
 rw [World.cell?_alloc_at _ _ _ _ rfl]
 simpa using hu
theorem Rd.newAt (w : World) (cs : Array Value) (t : TypeId) (g : Nat) (hg : g = w.heap.size) {size m : Nat} (hs : cs.size = m * size) (hm : m ≤ maxLen) :
 Rd (w.alloc (.cells cs t)) (g + 1) size (some ⟨g, 0, none⟩) m cs.toList := by
 subst hg; exact Rd.new w cs t hs hm
def Bk (w : World) (g : Nat) (t : TypeId) (cs : Array Value) : Prop := w.heap[g]? = some (.cells cs t (0, 0))
section
variable {w w' : World} {g : Nat} {t : TypeId} {cs : Array Value}
theorem Bk.lt (h : Bk w g t cs) : g < w.heap.size := (Array.getElem?_eq_some_iff.1 h).1
theorem Bk.cell (h : Bk w g t cs) (i : Nat) : w.cell? ⟨g, i, none⟩ = cs[i]? := by
 unfold Bk at h
 simp [World.cell?, h]
theorem Bk.frozen (h : Bk w g t cs) (i : Nat) : w.frozen? ⟨g, i, none⟩ = false := by
 unfold Bk at h
 simp [World.frozen?, h]
theorem Bk.new (w : World) (t : TypeId) (cs : Array Value) : Bk (w.alloc (.cells cs t)) w.heap.size t cs := heap_alloc_new w _
theorem Bk.below {B : Nat} (h : Bk w g t cs) (hb : Below B w w') (hg : g < B) : Bk w' g t cs := (hb.block g hg).trans h
theorem Bk.grown {row : Option Nat} (h : Bk w g t cs) (hb : w.grownBy w' row) (hg : row ≠ some g) : Bk w' g t cs := (hb.block g h.lt (fun e => hg e.symm)).trans h
theorem Bk.alloc (h : Bk w g t cs) (o : Obj) : Bk (w.alloc o) g t cs := (Below.heap_alloc w o g h.lt).trans h
theorem Bk.drew (h : Bk w g t cs) : Bk w.drew g t cs := h
theorem Bk.set_ (h : Bk w g t cs) (i : Nat) (u : Value) : Bk (w.setCell ⟨g, i, none⟩ u) g t (cs.setIfInBounds i u) := by
 unfold Bk at h ⊢
 simp [World.setCell, Array.getElem?_modify, h]
theorem Bk.ne_own {base : Nat} {e : TypeId} {size n : Nat} {v : Value} {xs : List Value} (hg : Bk w g t cs) (h : w.ownsRow base e size v n xs) (hne : e ≠ t) : v.ownBlock ≠ some g := by
 rcases h.2 with ⟨rfl, _⟩ | ⟨g', cap, cur, rfl, _, hh, _⟩
 ·simp [Value.ownBlock]
 ·intro he
  obtain rfl : g' = g := by simpa [Value.ownBlock] using he
  unfold Bk at hg
  rw [hg] at hh
  injection hh with hh
  injection hh with _ ht
  exact hne ht.symm
end
theorem own_new (w : World) (cs : Array Value) (t : TypeId) {size m base : Nat} (hs : cs.size = m * size) (hm : m ≤ maxLen) (hb : base ≤ w.heap.size) :
 (w.alloc (.cells cs t)).ownsRow base t size (.slice (some ⟨w.heap.size, 0, none⟩) m m) m cs.toList :=
 ⟨by simpa using hs, .inr ⟨w.heap.size, m, cs, rfl, hb, heap_alloc_new w _, Nat.le_refl _, hm, hs, by rw [List.take_of_length_le]; simp [hs]⟩⟩
theorem own_below {w w' : World} {base : Nat} {e : TypeId} {size n : Nat} {v : Value} {xs : List Value} (h : w.ownsRow base e size v n xs) (hb : Below w.heap.size w w') : w'.ownsRow base e size v n xs :=
 h.kept (row := none) ⟨hb.os, hb.tape, hb.output, hb.size, fun k hk _ => hb.block k hk⟩ (by
  cases hv : v.ownBlock with
  | none => exact .inl rfl
  | some b => exact .inr (by simp))
theorem own_base {w : World} {base base' : Nat} {e : TypeId} {size n : Nat} {v : Value} {xs : List Value} (h : w.ownsRow base e size v n xs) (hb : base' ≤ base) : w.ownsRow base' e size v n xs := by
 refine ⟨h.1, ?_⟩
 rcases h.2 with hn | ⟨g, cap, cur, hv, hg, rest⟩
 ·exact .inl hn
 ·exact .inr ⟨g, cap, cur, hv, Nat.le_trans hb hg, rest⟩
section
variable {P : Program} (w : World)
theorem run_app_nil (base : Nat) (t ty e : TypeId) (i : TypeInfo) (size : Nat) (ht : P.underlying t = some (.slice e)) (hi : P.info? e = some i)
 (v : Value) (n : Nat) (xs : List Value) (hown : w.ownsRow base e size v n xs) (c : Nat) : (Builtin.append_ #[t, t] ty #[v, .slice none 0 c]).run P w = .ok v w := by
 rcases hown.2 with ⟨rfl, rfl⟩ | ⟨g, cap, cur, rfl, _, _, hnc, _⟩
 ·simp [Builtin.append_, run_underlying ht, sizeOf, typeInfo, hi, Builtin.lenOf, Builtin.firstCells]
 ·simp [Builtin.append_, run_underlying ht, sizeOf, typeInfo, hi, Builtin.lenOf, Builtin.firstCells, hnc, storeCells]
theorem run_app (base : Nat) (t ty e : TypeId) (i : TypeInfo) (z : Value) (size bytes : Nat) (ht : P.underlying t = some (.slice e)) (hi : P.info? e = some i) (hz : i.zero = some z)
 (hsize : i.size = size) (hby : i.bytes = bytes) (hzs : z.cells.size = size) (hsz : 0 < size)
 (v : Value) (n : Nat) (xs : List Value) (hown : w.ownsRow base e size v n xs)
 (B : Nat) (A : Option Addr) (m c : Nat) (news : List Value) (hr : Rd w B size A m news) (h1 : ∀ u ∈ news, u.oneCell' = true)
 (h63 : n + m ≤ maxLen) (hbytes : (n + m) * bytes ≤ 140737488355328) (hbase : base ≤ w.heap.size) :
 ∃ v' w', (Builtin.append_ #[t, t] ty #[v, .slice A m c]).run P w = .ok v' w' ∧ w'.ownsRow base e size v' (n + m) (xs ++ news) ∧ w.grownBy w' v.ownBlock ∧
  (v'.ownBlock = v.ownBlock ∨ v'.ownBlock = some w.heap.size) := by
 rcases A with _ | ad
 ·have hm : m = 0 := by
   rcases Nat.eq_zero_or_pos m with h0 | h0
   ·exact h0
   ·obtain ⟨b, o, h, _⟩ := hr.at_ h0
    cases h
  subst hm
  have hn : news = [] := List.eq_nil_of_length_eq_zero (by simpa using hr.len)
  subst hn
  exact ⟨v, w, run_app_nil w base t ty e i size ht hi v n xs hown c, by simpa using hown, World.grownBy.refl w _, .inl rfl⟩
 ·have hcells : ∀ j u, news[j]? = some u → w.cell? (ad.add j) = some u := by
   intro j u hu
   rcases Nat.eq_zero_or_pos m with h0 | h0
   ·subst h0
    have hn : news = [] := List.eq_nil_of_length_eq_zero (by simpa using hr.len)
    subst hn
    simp at hu
   ·obtain ⟨b, o, h, _, hc⟩ := hr.at_ h0
    injection h with h
    subst h
    have := hc j u hu
    unfold Addr.add
    split
    ·rename_i hj
     subst hj
     exact this
    ·exact this
  obtain ⟨v', w', hrun, h2, h3, _, h5⟩ := run_append_own_at (P := P) w base t ty e i z size bytes ht hi hz hsize hby hzs hsz v n xs hown ad m c news hr.len hcells h1 h63 hbytes hbase
  exact ⟨v', w', hrun, h2, h3, h5⟩
theorem wpList_app {ops : Array Oper} {rest : List Oper} {o : Oper} {a : Act} {Q : Exit → Act → World → Prop} (hgd : o.guard = none) (s x : Operand) (t : TypeId)
 (ho : o.op = .call { callee := .builtin .append, args := #[s, x], argTypes := #[t, t] })
 (base : Nat) (e : TypeId) (i : TypeInfo) (z : Value) (size bytes : Nat) (ht : P.underlying t = some (.slice e)) (hi : P.info? e = some i) (hz : i.zero = some z)
 (hsize : i.size = size) (hby : i.bytes = bytes) (hzs : z.cells.size = size) (hsz : 0 < size)
 (v : Value) (n : Nat) (xs : List Value) (hs : a.eval s = v) (hown : w.ownsRow base e size v n xs)
 (B : Nat) (A : Option Addr) (m c : Nat) (news : List Value) (hx : a.eval x = .slice A m c) (hr : Rd w B size A m news) (h1 : ∀ u ∈ news, u.oneCell' = true)
 (h63 : n + m ≤ maxLen) (hbytes : (n + m) * bytes ≤ 140737488355328) (hbase : base ≤ w.heap.size)
 (h : ∀ v' w', w'.ownsRow base e size v' (n + m) (xs ++ news) → w.grownBy w' v.ownBlock → (v'.ownBlock = v.ownBlock ∨ v'.ownBlock = some w.heap.size) → wpList P ops Q rest (a.put o.dst v') w') : wpList P ops Q (o :: rest) a w := by
 refine wpList_plain hgd fun K hK => ?_
 obtain ⟨v', w', hrun, h2, h3, h4⟩ := run_app (P := P) w base t o.type e i z size bytes ht hi hz hsize hby hzs hsz v n xs hown B A m c news hr h1 h63 hbytes hbase
 unfold Oper.wp execOp
 simp only [ho, resolve, invoke, builtin, Sem.run_bind, Sem.run_pure, Result.andThen_ok, List.map_toArray, List.map_cons, List.map_nil, hs, hx, hrun]
 exact hK _ _ (h v' w' h2 h3 h4)
theorem rd_cells {B size m : Nat} {ad : Addr} {news : List Value} (hr : Rd w B size (some ad) m news) (h0 : 0 < m) : ∀ j u, news[j]? = some u → w.cell? (ad.add j) = some u := by
 intro j u hu
 obtain ⟨b, o, h, _, hc⟩ := hr.at_ h0
 injection h with h
 subst h
 have := hc j u hu
 unfold Addr.add
 split
 ·rename_i hj
  subst hj
  exact this
 ·exact this
end
theorem below_own {B : Nat} {a w w' : World} {base : Nat} {e : TypeId} {size n : Nat} {v : Value} {xs : List Value} (h : Below B a w) (hown : w.ownsRow base e size v n xs) (hg : w.grownBy w' v.ownBlock) (hB : B ≤ base) (hw : B ≤ w.heap.size) : Below B a w' :=
 h.grown hg hw fun k hk => Nat.le_trans hB (hown.lt k hk).1
def byt (l : List Int) : List Value := l.map (Value.int .u8)
theorem byt_length (l : List Int) : (byt l).length = l.length := by simp [byt]
abbrev RdB (w : World) (B : Nat) (A : Option Addr) (n : Nat) (l : List Int) : Prop := Rd w B 1 A n (byt l)
theorem Rd.bytLen {w : World} {B n : Nat} {A : Option Addr} {l : List Int} (h : RdB w B A n l) : l.length = n := by
 have := h.len; rw [byt_length] at this; omega
theorem Rd.bytAt {w : World} {B n : Nat} {A : Option Addr} {l : List Int} (h : RdB w B A n l) {k : Nat} (hk : k < n) :
 ∃ b o x, A = some ⟨b, o, none⟩ ∧ b < B ∧ l[k]? = some x ∧ w.cell? ⟨b, o + k, none⟩ = some (.int .u8 x) := by
 obtain ⟨b, o, e, hb, hc⟩ := h.at_ (by omega)
 have hl : k < l.length := by rw [h.bytLen]; exact hk
 refine ⟨b, o, l[k]'hl, e, hb, List.getElem?_eq_getElem hl, hc k _ ?_⟩
 simp [byt, hl]
theorem Rd.addr {w : World} {B size n : Nat} {A : Option Addr} {xs : List Value} (h : Rd w B size A n xs) (hn : 0 < n) : ∃ b o, A = some ⟨b, o, none⟩ ∧ b < B := by
 obtain ⟨b, o, e, hb, _⟩ := h.at_ hn
 exact ⟨b, o, e, hb⟩
theorem Rd.byt_ {w : World} {B n b o : Nat} {l : List Int} (h : RdB w B (some ⟨b, o, none⟩) n l) {k : Nat} (hk : k < n) :
 ∃ x, l[k]? = some x ∧ w.cell? ⟨b, o + k, none⟩ = some (.int .u8 x) := by
 obtain ⟨_, _, x, e, _, hx, hc⟩ := h.bytAt hk
 cases e
 exact ⟨x, hx, hc⟩
theorem Rd.of_own_cap {w : World} {base size n : Nat} {xs : List Value} {e : TypeId} {v : Value} (h : w.ownsRow base e size v n xs) : ∃ A c, v = .slice A n c ∧ n ≤ c ∧ Rd w w.heap.size size A n xs := by
 obtain ⟨A, c, rfl, hr⟩ := Rd.of_own h
 refine ⟨A, c, rfl, ?_, hr⟩
 rcases h.2 with ⟨h0, h1⟩ | ⟨g, cap, cur, h0, hb, hg, hnc, _⟩
 ·omega
 ·injection h0 with _ _ h0; omega
section
variable {P : Program} {w : World} {B size n c : Nat} {A : Option Addr} {xs : List Value}
theorem cut_l (T : TypeId) (hT : P.underlying T = some (.slice (P.elem T))) (hs : ∀ W : World, (sizeOf (P.elem T)).run P W = .ok size W) (hr : Rd w B size A n xs) (hnc : n ≤ c) (k : Nat) (z : Int) (hz : z = k) (hk : k ≤ n) :
 ∃ A', (∀ W : World, (Instr.sliceAt T (.slice A n c) (some (.int .i64 z)) none none).run P W = .ok (.slice A' (n - k) (c - k)) W) ∧ Rd w B size A' (n - k) (xs.drop (k * size)) := by
 subst hz
 refine ⟨if c = k then A else A.map (·.add (k * size)), fun W => ?_, ?_, ?_, ?_⟩
 ·rw [run_sliceAt_slice W T _ _ _ _ hT, run_slice_l W T A n c hT .i64 k (by omega) (by omega), hs]
  simp [Result.andThen, sliced]
 ·rw [List.length_drop, hr.len, Nat.sub_mul]
 ·have := hr.le; omega
 ·intro hn
  obtain ⟨b, o, rfl, hb, hc⟩ := hr.at_ (by omega)
  rw [if_neg (by omega)]
  by_cases h0 : k * size = 0
  ·refine ⟨b, o, by simp [Addr.add, h0], hb, fun j u hu => hc j u ?_⟩
   rw [List.getElem?_drop, h0] at hu
   simpa using hu
  ·refine ⟨b, o + k * size, by simp [Addr.add, h0], hb, fun j u hu => ?_⟩
   rw [List.getElem?_drop] at hu
   have := hc _ u hu
   rw [Nat.add_assoc]; exact this
end
theorem conv_str {P : Program} {w : World} {B n c : Nat} {A : Option Addr} {l : List Int} (T S e : TypeId) (hT : P.underlying T = some (.slice e)) (he : P.underlying e = some (.int .u8)) (hS : P.underlying S = some .string) (hr : RdB w B A n l) :
 (convert T S (.slice A n c)).run P w = .ok (.string (strOfNums l)) w := by
 rcases Nat.eq_zero_or_pos n with h0 | h0
 ·subst h0
  have hl : l = [] := List.eq_nil_of_length_eq_zero hr.bytLen
  subst hl
  cases A with
  | none => exact run_convert_bytes_nil w T e hT he 0 c S hS
  | some a =>
    rw [run_convert_bytes_string w T S e _ _ _ hT he hS]
    have h := run_bytesToString (P := P) w a 0 c [] (by simpa using run_loadCells_list (P := P) w a [] (fun j v hj => by simp at hj))
    rw [h]; rfl
 ·obtain ⟨b, o, rfl, hb⟩ := hr.addr h0
  refine run_convert_bytes_arg w T e hT he b o n c l hr.bytLen (fun i hi => ?_) S hS
  obtain ⟨x, hx, hc⟩ := hr.byt_ hi
  rw [List.getD_eq_getElem?_getD, hx]; exact hc
def Byts (l : List Int) : Prop := ∀ x ∈ l, 0 ≤ x ∧ x ≤ 255
end Go.Proofs.YtiiaingepbkikaaGreatDoor
namespace Go.Proofs.YtiiaingepbkikaaGreatDoor
open Go.RowKit
set_option linter.unusedVariables false
structure Tok where
 kind : Int
 text : ByteArray
 num : Int
 at_ : Int
 line : Int
theorem Tok.ext_ {i j : Tok} (h : i.kind = j.kind ∧ i.text = j.text ∧ i.num = j.num ∧ i.at_ = j.at_ ∧ i.line = j.line) : i = j := by
 cases i; cases j; simp_all
instance : DecidableEq Tok := fun i j =>
 if h : i.kind = j.kind ∧ i.text = j.text ∧ i.num = j.num ∧ i.at_ = j.at_ ∧ i.line = j.line then isTrue (Tok.ext_ h) else isFalse (fun e => h (by subst e; exact ⟨rfl, rfl, rfl, rfl, rfl⟩))
def Tok.cells (t : Tok) : List Value := [.int .i64 t.kind, .string t.text, .int .u64 t.num, .int .i64 t.at_, .int .i64 t.line]
def tokCells (l : List Tok) : List Value := l.flatMap Tok.cells
abbrev RdT (w : World) (B : Nat) (A : Option Addr) (n : Nat) (l : List Tok) : Prop := Rd w B 5 A n (tokCells l)
def isDigit (c : Nat) : Bool := decide (48 ≤ c ∧ c ≤ 57)
def isLetter (c : Nat) : Bool := decide ((97 ≤ c ∧ c ≤ 122) ∨ (65 ≤ c ∧ c ≤ 90) ∨ c = 95)
def signRunes : List Nat := [8592, 43, 45, 215, 37, 61, 60, 91, 93, 58, 36, 44]
def isSign (c : Nat) : Bool := signRunes.contains c
def numGo : List UInt8 → Nat → Option Nat
 | [], n => some n
 | c :: r, n => if isDigit c.toNat then (if (18446744073709551615 - (c.toNat - 48)) / 10 < n then none else numGo r (10 * n + (c.toNat - 48))) else none
def numP (l : List UInt8) : Option Nat := if 1 < l.length ∧ l[0]? = some 48 then none else numGo l 0
structure LSt where
 list : List Tok
 line : Nat
 from_ : Option Nat
 remark : Bool
def LSt.fromI (st : LSt) : Int := match st.from_ with
 | some k => (k : Int)
 | none => -1
def putP (st : LSt) (t : Tok) : Int × LSt := if 16384 ≤ st.list.length then (3, st) else (0, { st with list := st.list ++ [{ t with line := st.line }] })
def headIs (w : ByteArray) : Bool := match w.data.toList with
 | c :: _ => isDigit c.toNat
 | [] => false
def shutP (s : ByteArray) (to : Nat) (st : LSt) : Int × Int × LSt := match st.from_ with
 | none => (0, 0, st)
 | some a =>
   let w := s.extract a to
   let st1 : LSt := { st with from_ := none }
   if headIs w then match numP w.data.toList with
    | none => (a, 22, st1)
    | some n => ((a : Int), putP st1 { kind := 1, text := ⟨#[]⟩, num := n, at_ := a, line := 0 })
   else if 24 < w.size then (a, 21, st1) else ((a : Int), putP st1 { kind := 0, text := w, num := 0, at_ := a, line := 0 })
def runeP (s : ByteArray) (at_ c : Nat) (st : LSt) : Int × Int × LSt :=
 if (isLetter c || isDigit c || (c == 46 && st.from_.isSome)) && !st.remark then (0, 0, if st.from_.isSome then st else { st with from_ := some at_ })
 else match shutP s at_ st with
  | (p, e, st1) => if e ≠ 0 then (p, e, st1)
    else if c = 10 then match putP { st1 with remark := false } { kind := 3, text := ⟨#[]⟩, num := 0, at_ := at_, line := 0 } with
     | (e, st2) => (at_, e, { st2 with line := st2.line + 1 })
    else if st1.remark ∨ c = 32 ∨ c = 9 ∨ c = 13 then (0, 0, st1)
    else if c = 35 then (0, 0, { st1 with remark := true })
    else if isSign c then ((at_ : Int), putP st1 { kind := 2, text := Utf8.encode (c : Int), num := 0, at_ := at_, line := 0 })
    else (at_, 20, st1)
def lexGo (s : ByteArray) : Nat → Nat → LSt → List Tok × Int × Int
 | 0, _, _ => ([], 0, 0)
 | f + 1, pos, st => if pos < s.size then match runeP s pos (Utf8.decode s pos).1 st with
    | (p, e, st1) => if e ≠ 0 then ([], p, e) else lexGo s f (pos + (Utf8.decode s pos).2) st1
   else match shutP s s.size st with
    | (p, e, st1) => if e ≠ 0 then ([], p, e) else (st1.list, 0, 0)
def lexP (s : ByteArray) : List Tok × Int × Int := if 65536 < s.size then ([], 0, 2) else lexGo s (s.size + 1) 0 { list := [], line := 0, from_ := none, remark := false }
def linesGo : List Tok → List Tok → List (List Tok)
 | [], line => if line = [] then [] else [line]
 | t :: r, line => if t.kind = 3 then line :: linesGo r [] else linesGo r (line ++ [t])
def linesP (l : List Tok) : List (List Tok) := linesGo l []
end Go.Proofs.YtiiaingepbkikaaGreatDoor
