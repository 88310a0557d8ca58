import Derived.Test.YtiiaingepbkikaaGreatDoorWoAS
import Derived.Test.YtiiaingepbkikaaGreatDoorShelf
import Derived.Test.YtiiaingepbkikaaGreatDoorWoAE
namespace Go.Proofs.YtiiaingepbkikaaGreatDoor
open Go.RowKit
set_option linter.unusedVariables false
def noThings : Array Value := Array.replicate 48 (.pointer none)
set_option maxRecDepth 100000 in
set_option maxHeartbeats 4000000 in
theorem new_any (w : World) : Calls Tryz.prog 5 #[] w fun e w' => e = .returned (.pointer (some ⟨w.heap.size, 0, none⟩)) ∧ w' = w.alloc (.cells noThings 80) := by
 go_enter Tryz.func5, Tryz.ntmps5
 go_wp2
 go_ret
 exact ⟨rfl, rfl⟩
set_option maxRecDepth 100000 in
set_option maxHeartbeats 4000000 in
theorem at_none (g k : Nat) (w : World) (hk : k < 16) (hg : g < w.heap.size) (hc : ∀ i, i < 48 → w.cell? ⟨g, i, none⟩ = some (.pointer none)) :
 Calls Tryz.prog 28 #[.pointer (some ⟨g, 0, none⟩), .int .i64 k] w fun e w' => e = .returned (.agg #[.pointer none, .pointer none, .pointer none]) ∧ Below w.heap.size w w' := by
 have h0 := hc (k * 3) (by omega)
 have h1 := hc (k * 3 + 1) (by omega)
 have h2 := hc (k * 3 + 2) (by omega)
 clear hc
 go_enter Tryz.func28, Tryz.ntmps28
 go_wp2
 refine ⟨rfl, .agg #[.pointer none, .pointer none, .pointer none], ?_, rfl, (Below.refl _ _).alloc (Nat.le_refl _) _⟩
 simp [results, Tryz.results28, go_sem]
end Go.Proofs.YtiiaingepbkikaaGreatDoor
namespace Go.Proofs.YtiiaingepbkikaaGreatDoor
open Go.RowKit
set_option linter.unusedVariables false
theorem Bld.below {B b : Nat} {bs : List Value} {w w' : World} (h : Bld B b bs w) (hb : Below w.heap.size w w') : Bld B b bs w' := by
 have hk : ∀ (k : Nat) (o : Obj), w.heap[k]? = some o → w'.heap[k]? = some o := fun k o hk => (hb.block k (Array.getElem?_eq_some_iff.1 hk).1).trans hk
 have hA : ∀ p, Lib.BuilderAtF 97 5 B b p bs w → Lib.BuilderAtF 97 5 B b p bs w' := by
  rintro p ⟨h1, v, h2, h3, h4⟩
  refine ⟨h1, v, hk _ _ h2, ⟨h3.1, ?_⟩, h4⟩
  rcases h3.2 with h0 | ⟨g, cap, cur, fz, hv, hbb, hg, rest⟩
  ·exact .inl h0
  ·exact .inr ⟨g, cap, cur, fz, hv, hbb, hk _ _ hg, rest⟩
 rcases h with h | h
 ·exact .inl (hA _ h)
 ·exact .inr (hA _ h)
set_option maxRecDepth 100000 in
set_option maxHeartbeats 4000000 in
theorem things_none (g : Nat) (w : World) (hg : g < w.heap.size) (hc : ∀ i, i < 48 → w.cell? ⟨g, i, none⟩ = some (.pointer none)) :
 Calls Tryz.prog 8 #[.pointer (some ⟨g, 0, none⟩)] w fun e w' => e = .returned (.string ⟨#[]⟩) ∧ Below w.heap.size w w' := by
 have HC := Lib.hid hc
 clear hc
 go_enter Tryz.func8, Tryz.ntmps8
 go_wp2
 go_loopw [5, 4] (fun t _u wr => ∃ k : Nat, (k ≤ 16 ∧ t = .int .i64 k) ∧ Bld w.heap.size w.heap.size (Lib.byteCells []) wr ∧ Below w.heap.size w wr) (fun t _ _ => 16 - (intOf t).toNat)
 case atStart => exact ⟨0, ⟨by omega, rfl⟩, Lib.IsBuilderF.of (Lib.fresh_isBuilder _ _ w), (Below.refl _ _).alloc (Nat.le_refl _) _⟩
 case round =>
  obtain ⟨k, ⟨hk, rfl⟩, hbl, hb⟩ := hrel
  have HB := Lib.hid hb
  have HBl := Lib.hid hbl
  have hsz := hb.size
  clear hb hbl
  by_cases hlt : k < 16
  ·have c0 : ∀ i, i < 48 → wr.cell? ⟨g, i, none⟩ = some (.pointer none) := fun i hi => (HB.out.cell (p := ⟨g, i, none⟩) hg).trans (HC.out i hi)
   go_wp2_with fail
   refine (at_none g k _ hlt (Nat.lt_of_lt_of_le hg hsz) c0).mono ?_
   rintro e w1 ⟨rfl, hb1⟩
   have L1 := Lib.hid (HBl.out.below hb1)
   have B1 := Lib.hid (HB.out.trans (hb1.mono hsz))
   clear hb1 c0
   go_wp2_with fail
   refine (thing_none k _).mono ?_
   rintro e w2 ⟨rfl, hb2⟩
   have L2 := Lib.hid (L1.out.below hb2)
   have B2 := Lib.hid (B1.out.trans (hb2.mono B1.out.size))
   clear hb2
   go_wp2_with fail
   refine (wstring_any _ _ _ ⟨#[]⟩ _ L2.out (by decide) B2.out.size).mono ?_
   rintro e w3 ⟨rfl, hb3, hf3⟩
   have L3 : Hid (Bld w.heap.size w.heap.size (Lib.byteCells []) w3) := hb3
   have B3 := Lib.hid (B2.out.trans hf3.below)
   clear hb3 hf3
   go_wp2
   go_roundw
   case rel => exact ⟨k + 1, ⟨by omega, by go_num⟩, L3.out, B3.out⟩
   case measure => simp [intOf]; omega
  ·go_wp2_with fail
   refine (Tryz.Builder_String_any_k _ _ [] _ HBl.out hsz).mono ?_
   rintro e w1 ⟨rfl, _, hb1, _⟩
   have HB1 := Lib.hid (HB.out.trans hb1)
   clear hb1
   go_wp2
   go_ret
   exact ⟨rfl, HB1.out⟩
end Go.Proofs.YtiiaingepbkikaaGreatDoor
namespace Go.Proofs.YtiiaingepbkikaaGreatDoor
open Go.RowKit
set_option linter.unusedVariables false
def thB (root : Int) (x : Th) : Bys := match x.q with
 | some (cap, l) => thingP root #[113, 117, 101, 117, 101].toList cap (l.map dec)
 | none => match x.c with
   | some (cap, l) => thingP root #[99, 104, 97, 105, 110].toList cap (l.map dec)
   | none => match x.t with
     | some (cap, l) => thingP root #[116, 97, 98, 108, 101].toList cap (l.map pairB)
     | none => []
theorem thing_th (root : Int) (x : Th) (p0 p1 p2 : Option Addr) (w : World) (h : ThIn w x (.pointer p0) (.pointer p1) (.pointer p2)) (hok : x.Ok 100) (hr0 : -9223372036854775808 ≤ root) (hr1 : root ≤ 9223372036854775807) (htab : PowTab w) :
 Calls Tryz.prog 15 #[.int .i64 root, .agg #[.pointer p0, .pointer p1, .pointer p2]] w fun e w' => e = .returned (.string (str (thB root x))) ∧ Below w.heap.size w w' := by
 obtain ⟨q, c, t⟩ := x
 obtain ⟨hq, hc, ht⟩ := h
 obtain ⟨oq, oc, ot, hone⟩ := hok
 simp only at hq hc ht oq oc ot hone
 rcases q with _ | ⟨cap, l⟩
 ·injection (show (Value.pointer p0) = .pointer none from hq) with e0
  subst e0
  rcases c with _ | ⟨cap, l⟩
  ·injection (show (Value.pointer p1) = .pointer none from hc) with e1
   subst e1
   rcases t with _ | ⟨cap, l⟩
   ·injection (show (Value.pointer p2) = .pointer none from ht) with e2
    subst e2
    exact thing_none root w
   ·obtain ⟨b, A, n, k, e, hs, hb, c0, c1, hr, hi⟩ := ht
    injection e with e
    subst e
    obtain ⟨o1, o2, o3, o4⟩ := ot
    exact thing_table root cap l b A n k w hb c0 c1 hr hr0 hr1 o1.1 o1.2 (fun x hx => o2 x hx) (by have := hr.len; rw [pCells_len] at this; omega) htab
  ·have ht0 : t = none := by rcases hone with h | h | h <;> simp_all
   subst ht0
   injection (show (Value.pointer p2) = .pointer none from ht) with e2
   subst e2
   obtain ⟨b, A, n, k, e, hs, hb, c0, c1, hr, hi⟩ := hc
   injection e with e
   subst e
   obtain ⟨o1, o2, o3, o4⟩ := oc
   exact thing_chain root cap l b A n k w hb c0 c1 hr hr0 hr1 o1.1 o1.2 (fun x hx => o2 x hx) (by have := hr.u64Len; omega) htab
 ·have hc0 : c = none ∧ t = none := by rcases hone with h | h | h <;> simp_all
  obtain ⟨rfl, rfl⟩ := hc0
  injection (show (Value.pointer p1) = .pointer none from hc) with e1
  subst e1
  injection (show (Value.pointer p2) = .pointer none from ht) with e2
  subst e2
  obtain ⟨b, A, n, k, e, hs, hb, c0, c1, hr, hi⟩ := hq
  injection e with e
  subst e
  obtain ⟨o1, o2, o3⟩ := oq
  exact thing_queue root cap l b A n k w hb c0 c1 hr hr0 hr1 o1.1 o1.2 (fun x hx => o2 x hx) (by have := hr.u64Len; omega) htab
set_option maxRecDepth 100000 in
set_option maxHeartbeats 4000000 in
theorem at_any (ths : List Th) (g k : Nat) (x : Th) (w : World) (hx : OwIn w g ths) (hk : k < 16) (hxk : ths[k]? = some x) :
 Calls Tryz.prog 28 #[.pointer (some ⟨g, 0, none⟩), .int .i64 k] w fun e w' => ∃ b0 b1 b2, e = .returned (.agg #[.pointer b0, .pointer b1, .pointer b2]) ∧ ThIn w' x (.pointer b0) (.pointer b1) (.pointer b2) ∧ Below w.heap.size w w' := by
 obtain ⟨b0, b1, b2, hr, ht⟩ := thing_at hx hxk
 have h0 := hr 0 _ rfl
 have h1 := hr 1 _ rfl
 have h2 := hr 2 _ rfl
 rw [Nat.add_zero] at h0
 have HG := Lib.hid hx.lt
 have HT := Lib.hid ht
 clear hr ht hx hxk
 have hg := HG.out
 go_enter Tryz.func28, Tryz.ntmps28
 go_wp2
 refine ⟨rfl, .agg #[.pointer b0, .pointer b1, .pointer b2], ?_, b0, b1, b2, rfl, HT.out.below ((Below.refl _ _).alloc (Nat.le_refl _) _), (Below.refl _ _).alloc (Nat.le_refl _) _⟩
 simp [results, Tryz.results28, go_sem]
def textP (ths : List Th) : Nat → Bys
 | 0 => []
 | k + 1 => textP ths k ++ thB k (ths.getD k th0)
theorem thB_len (root : Int) (x : Th) (hok : x.Ok 100) (h0 : -9223372036854775808 ≤ root) (h1 : root ≤ 9223372036854775807) : (thB root x).length ≤ 1000001 := by
 obtain ⟨q, c, t⟩ := x
 obtain ⟨oq, oc, ot, hone⟩ := hok
 simp only at oq oc ot
 have pl : ∀ x : Int × Int, PairOk x → (pairB x).length ≤ 41 := fun x hx => pair_len x hx
 rcases q with _ | ⟨cap, l⟩
 ·rcases c with _ | ⟨cap, l⟩
  ·rcases t with _ | ⟨cap, l⟩
   ·show ([] : Bys).length ≤ _; simp
   ·have := thing_lenp root cap [116, 97, 98, 108, 101] l h0 h1 ot.1.2 (by decide) (by have := ot.2.2.1; omega) (fun x hx => pl x (ot.2.1 x hx))
    show (lineP _).length ≤ _
    unfold lineP
    simp only [List.length_append, List.length_cons, List.length_nil]
    exact Nat.succ_le_succ this
  ·have := thing_len root cap [99, 104, 97, 105, 110] l h0 h1 oc.1.2 (by decide) (by have := oc.2.2.1; omega) (fun x hx => (oc.2.1 x hx).2)
   show (lineP _).length ≤ _
   unfold lineP
   simp only [List.length_append, List.length_cons, List.length_nil]
   exact Nat.succ_le_succ this
 ·have := thing_len root cap [113, 117, 101, 117, 101] l h0 h1 oq.1.2 (by decide) (by have := oq.2.2; omega) (fun x hx => (oq.2.1 x hx).2)
  show (lineP _).length ≤ _
  unfold lineP
  simp only [List.length_append, List.length_cons, List.length_nil]
  exact Nat.succ_le_succ this
theorem textP_len (ths : List Th) (hok : ∀ x ∈ ths, x.Ok 100) (hl : ths.length = 16) (k : Nat) (hk : k ≤ 16) : (textP ths k).length ≤ k * 1000001 := by
 induction k with
 | zero => simp [textP]
 | succ k ih =>
   have h := ih (by omega)
   have hx : ths[k]? = some (ths[k]'(by omega)) := List.getElem?_eq_getElem _
   have hg : ths.getD k th0 = ths[k]'(by omega) := by rw [List.getD_eq_getElem?_getD, hx]; rfl
   have h2 := thB_len k (ths.getD k th0) (by rw [hg]; exact hok _ (List.getElem_mem _)) (by omega) (by omega)
   show (textP ths k ++ _).length ≤ _
   rw [List.length_append]
   omega
set_option maxRecDepth 100000 in
set_option maxHeartbeats 4000000 in
theorem things_any (ths : List Th) (g : Nat) (w : World) (hx : OwIn w g ths) (hok : ∀ x ∈ ths, x.Ok 100) (htab : PowTab w) :
 Calls Tryz.prog 8 #[.pointer (some ⟨g, 0, none⟩)] w fun e w' => e = .returned (.string (str (textP ths 16))) ∧ Below w.heap.size w w' := by
 have HX := Lib.hid hx
 have HOk := Lib.hid hok
 have HTab := Lib.hid htab
 have HLen := Lib.hid hx.len
 clear hx hok htab
 have hg := HX.out.lt
 go_enter Tryz.func8, Tryz.ntmps8
 go_wp2
 go_loopw [5, 4] (fun t _u wr => ∃ k : Nat, (k ≤ 16 ∧ t = .int .i64 k) ∧ Bld w.heap.size w.heap.size (Lib.byteCells (textP ths k)) wr ∧ Below w.heap.size w wr) (fun t _ _ => 16 - (intOf t).toNat)
 case atStart => exact ⟨0, ⟨by omega, rfl⟩, Lib.IsBuilderF.of (Lib.fresh_isBuilder _ _ w), (Below.refl _ _).alloc (Nat.le_refl _) _⟩
 case round =>
  obtain ⟨k, ⟨hk, rfl⟩, hbl, hb⟩ := hrel
  have HB := Lib.hid hb
  have HBl := Lib.hid hbl
  have hsz := hb.size
  clear hb hbl
  by_cases hlt : k < 16
  ·have hxk : ths[k]? = some (ths[k]'(by have := HLen.out; omega)) := List.getElem?_eq_getElem _
   have hgk : ths.getD k th0 = ths[k]'(by have := HLen.out; omega) := by rw [List.getD_eq_getElem?_getD, hxk]; rfl
   have hox := HOk.out _ (List.getElem_mem (l := ths) (n := k) (by have := HLen.out; omega))
   rw [← hgk] at hxk hox
   clear hgk
   have hnx : textP ths (k + 1) = textP ths k ++ thB k (ths.getD k th0) := rfl
   have htl := textP_len ths HOk.out HLen.out (k + 1) (by omega)
   rw [hnx] at htl
   have HNx := Lib.hid hnx
   have HTl := Lib.hid htl
   generalize ths.getD k th0 = x at *
   have HXk := Lib.hid hxk
   have HOx := Lib.hid hox
   clear hnx htl hxk hox
   go_wp2_with fail
   refine (at_any ths g k x _ (HX.out.below HB.out) hlt HXk.out).mono ?_
   rintro e w1 ⟨b0, b1, b2, rfl, ht, hb1⟩
   have HT1 := Lib.hid ht
   have L1 := Lib.hid (HBl.out.below hb1)
   have B1 := Lib.hid (HB.out.trans (hb1.mono hsz))
   clear hb1 ht
   go_wp2_with fail
   refine (thing_th k x b0 b1 b2 _ HT1.out HOx.out (by omega) (by omega) (HTab.out.below B1.out)).mono ?_
   rintro e w2 ⟨rfl, hb2⟩
   have L2 := Lib.hid (L1.out.below hb2)
   have B2 := Lib.hid (B1.out.trans (hb2.mono B1.out.size))
   clear hb2
   go_wp2_with fail
   refine (wstring_any _ _ _ (str (thB k x)) _ L2.out (by have := HTl.out; rw [List.length_append] at this; rw [str_size, Lib.byteCells_length]; omega) B2.out.size).mono ?_
   rintro e w3 ⟨rfl, hb3, hf3⟩
   have L3 : Hid (Bld w.heap.size w.heap.size (Lib.byteCells (textP ths (k + 1))) w3) := by
    show Bld _ _ _ _
    rw [HNx.out, Lib.byteCells_append]
    exact hb3
   have B3 := Lib.hid (B2.out.trans hf3.below)
   clear hb3 hf3
   go_wp2
   go_roundw
   case rel => exact ⟨k + 1, ⟨by omega, by go_num⟩, L3.out, B3.out⟩
   case measure => simp [intOf]; omega
  ·have hk16 : k = 16 := by omega
   subst hk16
   go_wp2_with fail
   refine (Tryz.Builder_String_any_k _ _ (textP ths 16) _ HBl.out hsz).mono ?_
   rintro e w1 ⟨rfl, _, hb1, _⟩
   have HB1 := Lib.hid (HB.out.trans hb1)
   clear hb1
   go_wp2
   go_ret
   exact ⟨rfl, HB1.out⟩
end Go.Proofs.YtiiaingepbkikaaGreatDoor
