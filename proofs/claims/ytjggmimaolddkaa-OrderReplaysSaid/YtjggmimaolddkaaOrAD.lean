import Derived.Test.YtjggmimaolddkaaOrAC
import Derived.Test.YtjggmimaolddkaaOrAA
import Derived.Maps.OwnSet
import Derived.Maps.OwnOps
import Derived.Maps.Ext
import Derived.Shelf.SlMaps.Clone
import Derived.Shelf.SlMaps.Equal
namespace Go.Proofs.Ytjggmimaolddkaa
open Go.RowKit
set_option linter.unusedVariables false
set_option maxHeartbeats 4000000 in
theorem rone_any (l : List Ins) (A : Option Addr) (n c : Nat) (w : World) (hr : RdI w w.heap.size A n l) (k : Nat) (hk : k < n) (i : Ins) (hi : l[k]? = some i) (hok : i.Ok) :
 Calls Try.prog 69 #[.slice A n c, .int .i64 k] w fun e w' => e = .returned (.int .i64 (oneE n k i)) ∧ Below w.heap.size w w' := by
 have h63 := hr.le
 unfold maxLen at h63
 obtain ⟨b0, o0, i', rfl, hbB, hi', c0, c1, c2, c3, c4⟩ := hr.insAt hk
 rw [hi] at hi'
 obtain rfl : i = i' := by simpa using hi'
 obtain ⟨op, a, b, cc, m⟩ := i
 obtain ⟨m0, m1⟩ := hok.imm
 simp only at c0 c1 c2 c3 c4 m0 m1
 clear hr hi hi' hok
 go_enter Try.func69, Try.ntmps69
 go_wp2_with fail
 refine (rplain_any _ _ _ _ _ _).mono ?_
 rintro e w1 ⟨rfl, hb1⟩
 have K1 := (Bk.new w 62 #[.int .i64 op, .int .i64 a, .int .i64 b, .int .i64 cc, .int .u64 m]).below hb1 (by simp)
 have HB := Lib.hid (((Below.refl w.heap.size w).alloc (Nat.le_refl _) _).trans (hb1.mono (by simp)))
 have e0 : w1.cell? ⟨w.heap.size, 0, none⟩ = some (.int .i64 op) := K1.cell 0
 have e4 : w1.cell? ⟨w.heap.size, 4, none⟩ = some (.int .u64 m) := K1.cell 4
 clear hb1 K1
 cases hp : plainB op a b cc m
 ·have E : Hid (oneE n k ⟨op, a, b, cc, m⟩ = 30) := by show _ = _; simp [oneE, Ins.plain, hp]
  go_wp2
  go_ret
  exact ⟨ret_int E.out.symm, HB.out⟩
 ·have H : (op = 8 ∧ (m < 4) ∧ (True) ∧ Hid (oneE n k ⟨op, a, b, cc, m⟩ = 0)) ∨
   (op = 8 ∧ (4 ≤ m) ∧ (True) ∧ Hid (oneE n k ⟨op, a, b, cc, m⟩ = 1)) ∨
   (op = 11 ∧ (m < 8) ∧ (True) ∧ Hid (oneE n k ⟨op, a, b, cc, m⟩ = 0)) ∨
   (op = 11 ∧ (8 ≤ m) ∧ (True) ∧ Hid (oneE n k ⟨op, a, b, cc, m⟩ = 1)) ∨
   (op = 13 ∧ (m < 8) ∧ (True) ∧ Hid (oneE n k ⟨op, a, b, cc, m⟩ = 0)) ∨
   (op = 13 ∧ (8 ≤ m) ∧ (True) ∧ Hid (oneE n k ⟨op, a, b, cc, m⟩ = 1)) ∨
   (op = 21 ∧ (m < 1) ∧ (True) ∧ Hid (oneE n k ⟨op, a, b, cc, m⟩ = 1)) ∨
   (op = 21 ∧ (1 ≤ m) ∧ (m ≤ 255) ∧ Hid (oneE n k ⟨op, a, b, cc, m⟩ = 0)) ∨
   (op = 21 ∧ (1 ≤ m) ∧ (255 < m) ∧ Hid (oneE n k ⟨op, a, b, cc, m⟩ = 1)) ∨
   (op = 17 ∧ (m ≤ k) ∧ (True) ∧ Hid (oneE n k ⟨op, a, b, cc, m⟩ = 24)) ∨
   (op = 17 ∧ ((k : Int) < m) ∧ ((n : Int) ≤ m) ∧ Hid (oneE n k ⟨op, a, b, cc, m⟩ = 24)) ∨
   (op = 17 ∧ ((k : Int) < m) ∧ (m < n) ∧ Hid (oneE n k ⟨op, a, b, cc, m⟩ = 0)) ∨
   (op = 18 ∧ (m ≤ k) ∧ (True) ∧ Hid (oneE n k ⟨op, a, b, cc, m⟩ = 24)) ∨
   (op = 18 ∧ ((k : Int) < m) ∧ ((n : Int) ≤ m) ∧ Hid (oneE n k ⟨op, a, b, cc, m⟩ = 24)) ∨
   (op = 18 ∧ ((k : Int) < m) ∧ (m < n) ∧ Hid (oneE n k ⟨op, a, b, cc, m⟩ = 0)) ∨
   (op = 19 ∧ ((k : Int) < m) ∧ ((n : Int) ≤ m) ∧ Hid (oneE n k ⟨op, a, b, cc, m⟩ = 24)) ∨
   (op = 19 ∧ ((k : Int) < m) ∧ (m < n) ∧ Hid (oneE n k ⟨op, a, b, cc, m⟩ = 24)) ∨
   (op = 19 ∧ (m ≤ k) ∧ (True) ∧ Hid (oneE n k ⟨op, a, b, cc, m⟩ = 0)) ∨
   (op ≠ 8 ∧ op ≠ 11 ∧ op ≠ 13 ∧ op ≠ 21 ∧ op ≠ 17 ∧ op ≠ 18 ∧ op ≠ 19 ∧ Hid (oneE n k ⟨op, a, b, cc, m⟩ = 0)) := by
   have e : oneE n k ⟨op, a, b, cc, m⟩ = (if op = 8 then (if 4 ≤ m then 1 else 0) else if op = 11 ∨ op = 13 then (if 8 ≤ m then 1 else 0) else if op = 21 then (if m < 1 ∨ 255 < m then 1 else 0)
    else if op = 17 ∨ op = 18 then (if m ≤ k ∨ n ≤ m then 24 else 0) else if op = 19 then (if (k : Int) < m then 24 else 0) else 0) := by simp [oneE, Ins.plain, hp]
   unfold Hid
   rw [e]
   clear e c0 c1 c2 c3 c4 e0 e4 hp HB
   by_cases q1 : op = 8
   ·subst q1; simp; omega
   by_cases q2 : op = 11
   ·subst q2; simp; omega
   by_cases q3 : op = 13
   ·subst q3; simp; omega
   by_cases q4 : op = 21
   ·subst q4; simp; omega
   by_cases q5 : op = 17
   ·subst q5; simp; omega
   by_cases q6 : op = 18
   ·subst q6; simp; omega
   by_cases q7 : op = 19
   ·subst q7; simp; omega
   simp [q1, q2, q3, q4, q5, q6, q7]
  rcases H with ⟨rfl, h1, h2, E⟩ | ⟨rfl, h1, h2, E⟩ | ⟨rfl, h1, h2, E⟩ | ⟨rfl, h1, h2, E⟩ | ⟨rfl, h1, h2, E⟩ | ⟨rfl, h1, h2, E⟩ | ⟨rfl, h1, h2, E⟩ | ⟨rfl, h1, h2, E⟩ | ⟨rfl, h1, h2, E⟩ | ⟨rfl, h1, h2, E⟩ | ⟨rfl, h1, h2, E⟩ | ⟨rfl, h1, h2, E⟩ | ⟨rfl, h1, h2, E⟩ | ⟨rfl, h1, h2, E⟩ | ⟨rfl, h1, h2, E⟩ | ⟨rfl, h1, h2, E⟩ | ⟨rfl, h1, h2, E⟩ | ⟨rfl, h1, h2, E⟩ | ⟨o1, o2, o3, o4, o5, o6, o7, E⟩
  rotate_right
  ·have f1 : (op == 8) = false := by simpa using o1
   have f2 : (op == 11) = false := by simpa using o2
   have f3 : (op == 13) = false := by simpa using o3
   have f4 : (op == 21) = false := by simpa using o4
   have f5 : ¬ (17 ≤ op ∧ op ≤ 19) := by omega
   clear o1 o2 o3 o4 o5 o6 o7
   go_wp2_with fail
   refine (goes_any _ _).mono ?_
   rintro e w2 ⟨rfl, rfl⟩
   rw [decide_eq_false f5]
   go_wp2
   go_ret
   exact ⟨ret_int E.out.symm, HB.out⟩
  all_goals
   clear hp
   have f9 : (m == 0) = decide (m = 0) := by rw [Bool.eq_iff_iff]; simp
   first
    | (have g9 : ¬ (m = 0) := by omega
       rw [decide_eq_false g9] at f9)
    | (have g9 : m = 0 := by omega
       rw [decide_eq_true g9] at f9
       clear g9)
    | clear f9
   go_wp2_with (first
    | (go_at_call 91; refine (goes_any _ _).mono ?_; rintro e w2 ⟨rfl, rfl⟩)
    | (go_at_call 92; refine (forth_any _ _ _ _).mono ?_; rintro e w2 ⟨rfl, rfl⟩))
   all_goals first
    | (go_ret
       exact ⟨ret_int E.out.symm, HB.out⟩)
    | (rename_i h0
       exfalso
       simp at h0
       omega)
end Go.Proofs.Ytjggmimaolddkaa
namespace Go.Proofs.Ytjggmimaolddkaa
open Go.RowKit
set_option linter.unusedVariables false
def oneAt (l : List Ins) (k : Nat) : Int := match l[k]? with
 | some i => oneE l.length k i
 | none => 0
def lastEnds (l : List Ins) : Bool := match l[l.length - 1]? with
 | some i => endsB i.op
 | none => false
def faultP (l : List Ins) : Int × Int :=
 if l.length = 0 then (0, 4) else if 256 < l.length then (256, 3)
 else match (List.range l.length).find? fun k => oneAt l k != 0 with
  | some k => ((k : Int), oneAt l k)
  | none => if lastEnds l then (0, 0) else ((l.length : Int) - 1, 30)
def FaultPost (l : List Ins) (w : World) (e : Ending) (w' : World) : Prop :=
 e = .returned (.tuple #[.int .i64 (faultP l).1, .int .i64 (faultP l).2]) ∧ Below w.heap.size w w'
theorem faultP_bad {l : List Ins} {n k : Nat} (hl : l.length = n) (h256 : n ≤ 256) (hk : k < n) (hall : ∀ q, q < k → oneAt l q = 0) (hz : oneAt l k ≠ 0) : faultP l = ((k : Int), oneAt l k) := by
 have hf : (List.range l.length).find? (fun k => oneAt l k != 0) = some k := by
  rw [List.find?_range_eq_some]
  exact ⟨by simpa using hz, by simpa [hl] using hk, fun j hj => by simp [hall j hj]⟩
 rw [faultP, if_neg (by omega), if_neg (by omega), hf]
theorem faultP_end {l : List Ins} {p : Nat} {i : Ins} (hl : l.length = p + 1) (h256 : p ≤ 255) (hall : ∀ q, q < p + 1 → oneAt l q = 0) (hi : l[p]? = some i) : faultP l = if endsB i.op then (0, 0) else ((p : Int), 30) := by
 have hf : (List.range l.length).find? (fun k => oneAt l k != 0) = none := by
  rw [List.find?_eq_none]
  intro x hx
  have := hall x (by simpa [hl] using hx)
  simp [this]
 have he : lastEnds l = endsB i.op := by rw [lastEnds, hl, Nat.add_sub_cancel, hi]
 rw [faultP, if_neg (by omega), if_neg (by omega), hf, he, hl]
 simp
set_option maxHeartbeats 4000000 in
theorem fault_any (l : List Ins) (A : Option Addr) (n c : Nat) (w : World) (hr : RdI w w.heap.size A n l) (hok : ∀ i ∈ l, i.Ok) :
 Calls Try.prog 50 #[.slice A n c] w (FaultPost l w) := by
 have h63 := hr.le
 unfold maxLen at h63
 have hl := hr.insLen
 rcases Nat.eq_zero_or_pos n with h0 | h0
 ·subst h0
  have E : Hid (faultP l = (0, 4)) := by show _ = _; rw [faultP, if_pos hl]
  clear hr hok hl
  go_enter Try.func50, Try.ntmps50
  go_wp2
  go_ret2
  exact ⟨by rw [E.out]; rfl, Below.refl _ _⟩
 ·by_cases h256 : 256 < n
  ·have E : Hid (faultP l = (256, 3)) := by show _ = _; rw [faultP, if_neg (by omega), if_pos (by omega)]
   have hne : ((n : Int) == 0) = false := by rw [beq_eq_false_iff_ne]; omega
   clear hr hok hl
   go_enter Try.func50, Try.ntmps50
   go_wp2
   go_ret2
   exact ⟨by rw [E.out]; rfl, Below.refl _ _⟩
  ·obtain ⟨p, hnp⟩ : ∃ p, n = p + 1 := ⟨n - 1, by omega⟩
   have hp256 : p ≤ 255 := by omega
   have hn1 : 0 < n := h0
   have hn256 : n ≤ 256 := by omega
   have hne : ((n : Int) == 0) = false := by rw [beq_eq_false_iff_ne]; omega
   have HP := Lib.hid hnp
   clear hnp
   have HL := Lib.hid hl
   have HR := Lib.hid hr
   have HK := Lib.hid hok
   clear hr hok hl h256 h0 h63
   go_enter Try.func50, Try.ntmps50
   go_wp2
   go_loopw [17] (fun k wr => ∃ j : Nat, j ≤ n ∧ k = .int .i64 j ∧ Below w.heap.size w wr ∧ Hid (∀ q, q < j → oneAt l q = 0)) (fun k _ => n - (intOf k).toNat)
   case atStart => exact ⟨0, by omega, rfl, Below.refl _ _, fun q hq => by omega⟩
   case round =>
    obtain ⟨k, hk, rfl, hb, hall⟩ := hrel
    have HB := Lib.hid hb
    clear hb
    by_cases hlt : k < n
    ·obtain ⟨i, hi⟩ : ∃ i, l[k]? = some i := ⟨l[k]'(by rw [HL.out]; exact hlt), List.getElem?_eq_getElem _⟩
     have HA : Hid (oneE n k i = oneAt l k) := by show _ = _; rw [oneAt, hi, HL.out]
     have hcall := one_any l A n c wr ((HR.out.below HB.out).more HB.out.size) k hlt i hi (HK.out i (List.mem_of_getElem? hi))
     rw [HA.out] at hcall
     have HC := Lib.hid hcall
     clear hcall
     clear hi HA
     cases hz : (oneAt l k == 0)
     ·have hz2 : (oneAt l k != 0) = true := by simpa using hz
      have E : Hid (faultP l = ((k : Int), oneAt l k)) := by
       show _ = _
       rw [faultP_bad HL.out (by omega) hlt hall.out (by simpa using hz)]
      generalize oneAt l k = x at *
      go_wp2_with fail
      refine HC.out.mono ?_
      rintro e w1 ⟨rfl, hb1⟩
      go_wp2
      go_ret2
      exact ⟨by rw [E.out]; rfl, HB.out.trans (hb1.mono HB.out.size)⟩
     ·have hz1 : oneAt l k = 0 := by simpa using hz
      have hn : Hid (∀ q, q < k + 1 → oneAt l q = 0) := fun q hq => by
       rcases Nat.lt_or_ge q k with h | h
       ·exact hall.out q h
       ·obtain rfl : q = k := by omega
        exact hz1
      rw [hz1] at HC
      clear hz hz1
      go_wp2_with fail
      refine HC.out.mono ?_
      rintro e w1 ⟨rfl, hb1⟩
      go_wp2
      go_roundw
      case rel => exact ⟨k + 1, by omega, by go_num, HB.out.trans (hb1.mono HB.out.size), hn⟩
      case measure => simp [intOf]; omega
    ·obtain rfl : k = n := by omega
     have hpn : p < k := by have := HP.out; omega
     have hpe : (k : Int) - 1 = (p : Int) := by have := HP.out; omega
     obtain ⟨b0, o0, i, rfl, hbB, hi, c0, c1, c2, c3, c4⟩ := (HR.out.below HB.out).insAt (k := p) (by omega)
     have E := Lib.hid (faultP_end (HL.out.trans HP.out) (by omega) (by rw [← HP.out]; exact hall.out) hi)
     clear hi c1 c2 c3 c4
     cases he : endsB i.op
     ·rw [he] at E
      go_wp2_with fail
      refine (ends_any _ _).mono ?_
      rintro e w1 ⟨rfl, rfl⟩
      rw [he]
      go_wp2
      go_ret2
      exact ⟨by rw [E.out]; rfl, HB.out⟩
     ·rw [he] at E
      go_wp2_with fail
      refine (ends_any _ _).mono ?_
      rintro e w1 ⟨rfl, rfl⟩
      rw [he]
      go_wp2
      go_ret2
      exact ⟨by rw [E.out]; rfl, HB.out⟩
end Go.Proofs.Ytjggmimaolddkaa
namespace Go.Proofs.Ytjggmimaolddkaa
open Go.RowKit
set_option linter.unusedVariables false
set_option maxHeartbeats 4000000 in
theorem rfault_any (l : List Ins) (A : Option Addr) (n c : Nat) (w : World) (hr : RdI w w.heap.size A n l) (hok : ∀ i ∈ l, i.Ok) :
 Calls Try.prog 57 #[.slice A n c] w (FaultPost l w) := by
 have h63 := hr.le
 unfold maxLen at h63
 have hl := hr.insLen
 rcases Nat.eq_zero_or_pos n with h0 | h0
 ·subst h0
  have E : Hid (faultP l = (0, 4)) := by show _ = _; rw [faultP, if_pos hl]
  clear hr hok hl
  go_enter Try.func57, Try.ntmps57
  go_wp2
  go_ret2
  exact ⟨by rw [E.out]; rfl, Below.refl _ _⟩
 ·by_cases h256 : 256 < n
  ·have E : Hid (faultP l = (256, 3)) := by show _ = _; rw [faultP, if_neg (by omega), if_pos (by omega)]
   have hne : ((n : Int) == 0) = false := by rw [beq_eq_false_iff_ne]; omega
   clear hr hok hl
   go_enter Try.func57, Try.ntmps57
   go_wp2
   go_ret2
   exact ⟨by rw [E.out]; rfl, Below.refl _ _⟩
  ·obtain ⟨p, hnp⟩ : ∃ p, n = p + 1 := ⟨n - 1, by omega⟩
   have hp256 : p ≤ 255 := by omega
   have hn1 : 0 < n := h0
   have hn256 : n ≤ 256 := by omega
   have hne : ((n : Int) == 0) = false := by rw [beq_eq_false_iff_ne]; omega
   have HP := Lib.hid hnp
   clear hnp
   have HL := Lib.hid hl
   have HR := Lib.hid hr
   have HK := Lib.hid hok
   clear hr hok hl h256 h0 h63
   go_enter Try.func57, Try.ntmps57
   go_wp2
   go_loopw [4] (fun k wr => ∃ j : Nat, j ≤ n ∧ k = .int .i64 j ∧ Below w.heap.size w wr ∧ Hid (∀ q, q < j → oneAt l q = 0)) (fun k _ => n - (intOf k).toNat)
   case atStart => exact ⟨0, by omega, rfl, Below.refl _ _, fun q hq => by omega⟩
   case round =>
    obtain ⟨k, hk, rfl, hb, hall⟩ := hrel
    have HB := Lib.hid hb
    clear hb
    by_cases hlt : k < n
    ·obtain ⟨i, hi⟩ : ∃ i, l[k]? = some i := ⟨l[k]'(by rw [HL.out]; exact hlt), List.getElem?_eq_getElem _⟩
     have HA : Hid (oneE n k i = oneAt l k) := by show _ = _; rw [oneAt, hi, HL.out]
     have hcall := rone_any l A n c wr ((HR.out.below HB.out).more HB.out.size) k hlt i hi (HK.out i (List.mem_of_getElem? hi))
     rw [HA.out] at hcall
     have HC := Lib.hid hcall
     clear hcall
     clear hi HA
     cases hz : (oneAt l k == 0)
     ·have hz2 : (oneAt l k != 0) = true := by simpa using hz
      have E : Hid (faultP l = ((k : Int), oneAt l k)) := by
       show _ = _
       rw [faultP_bad HL.out (by omega) hlt hall.out (by simpa using hz)]
      generalize oneAt l k = x at *
      go_wp2_with fail
      refine HC.out.mono ?_
      rintro e w1 ⟨rfl, hb1⟩
      go_wp2
      go_ret2
      exact ⟨by rw [E.out]; rfl, HB.out.trans (hb1.mono HB.out.size)⟩
     ·have hz1 : oneAt l k = 0 := by simpa using hz
      have hn : Hid (∀ q, q < k + 1 → oneAt l q = 0) := fun q hq => by
       rcases Nat.lt_or_ge q k with h | h
       ·exact hall.out q h
       ·obtain rfl : q = k := by omega
        exact hz1
      rw [hz1] at HC
      clear hz hz1
      go_wp2_with fail
      refine HC.out.mono ?_
      rintro e w1 ⟨rfl, hb1⟩
      go_wp2
      go_roundw
      case rel => exact ⟨k + 1, by omega, by go_num, HB.out.trans (hb1.mono HB.out.size), hn⟩
      case measure => simp [intOf]; omega
    ·obtain rfl : k = n := by omega
     have hpn : p < k := by have := HP.out; omega
     have hpe : (k : Int) - 1 = (p : Int) := by have := HP.out; omega
     obtain ⟨b0, o0, i, rfl, hbB, hi, c0, c1, c2, c3, c4⟩ := (HR.out.below HB.out).insAt (k := p) (by omega)
     have E := Lib.hid (faultP_end (HL.out.trans HP.out) (by omega) (by rw [← HP.out]; exact hall.out) hi)
     clear hi c1 c2 c3 c4
     by_cases h20 : i.op = 20
     ·rw [h20] at c0 E
      clear h20
      go_wp2
      go_ret2
      exact ⟨by rw [E.out]; rfl, HB.out⟩
     ·by_cases h21 : i.op = 21
      ·rw [h21] at c0 E
       clear h20 h21
       go_wp2
       go_ret2
       exact ⟨by rw [E.out]; rfl, HB.out⟩
      ·have e20 : (i.op != 20) = true := by simpa using h20
       have e21 : (i.op != 21) = true := by simpa using h21
       have he : endsB i.op = false := by simp [endsB, h20, h21]
       rw [he] at E
       clear h20 h21 he
       go_wp2
       go_ret2
       exact ⟨by rw [E.out]; rfl, HB.out⟩
end Go.Proofs.Ytjggmimaolddkaa
namespace Go.Proofs.Ytjggmimaolddkaa
open Go.RowKit
set_option linter.unusedVariables false
def rightP (l : List Ins) : Bool := decide ((faultP l).2 = 0)
def writesOf (op : Int) : Int := if op = 10 ∨ op = 13 ∨ op = 14 then 1 else if op = 16 then 2 else if op = 15 then 9 else 0
def readsP (l : List Ins) : Bool := (l.all fun i => writesOf i.op == 0) && rightP l
theorem right_any (l : List Ins) (A : Option Addr) (n c : Nat) (w : World) (hr : RdI w w.heap.size A n l) (hok : ∀ i ∈ l, i.Ok) :
 Calls Try.prog 38 #[.slice A n c] w fun e w' => e = .returned (.bool (rightP l)) ∧ Below w.heap.size w w' := by
 have HR := Lib.hid hr
 have HK := Lib.hid hok
 clear hr hok
 go_enter Try.func38, Try.ntmps38
 go_wp2_with fail
 refine (fault_any l A n c _ HR.out HK.out).mono ?_
 intro e w1 he
 obtain ⟨he, hb⟩ := he
 have HB := Lib.hid hb
 have E : Hid (rightP l = ((faultP l).2 == 0)) := by
  show _ = _
  rw [rightP, Bool.eq_iff_iff]; simp
 generalize (faultP l).1 = x at *
 generalize (faultP l).2 = y at *
 subst he
 clear hb
 go_wp2
 go_ret
 exact ⟨ret_bool (by rw [E.out]), HB.out⟩
theorem rright_any (l : List Ins) (A : Option Addr) (n c : Nat) (w : World) (hr : RdI w w.heap.size A n l) (hok : ∀ i ∈ l, i.Ok) :
 Calls Try.prog 41 #[.slice A n c] w fun e w' => e = .returned (.bool (rightP l)) ∧ Below w.heap.size w w' := by
 have HR := Lib.hid hr
 have HK := Lib.hid hok
 clear hr hok
 go_enter Try.func41, Try.ntmps41
 go_wp2_with fail
 refine (rfault_any l A n c _ HR.out HK.out).mono ?_
 intro e w1 he
 obtain ⟨he, hb⟩ := he
 have HB := Lib.hid hb
 have E : Hid (rightP l = ((faultP l).2 == 0)) := by
  show _ = _
  rw [rightP, Bool.eq_iff_iff]; simp
 generalize (faultP l).1 = x at *
 generalize (faultP l).2 = y at *
 subst he
 clear hb
 go_wp2
 go_ret
 exact ⟨ret_bool (by rw [E.out]), HB.out⟩
theorem writes_parts (op : Int) : op = 10 ∨ op = 13 ∨ op = 14 ∨ op = 16 ∨ op = 15 ∨
 (((op == 10) = false ∧ (op == 13) = false ∧ (op == 14) = false ∧ (op == 16) = false ∧ (op == 15) = false) ∧ writesOf op = 0) := by
 by_cases h1 : op = 10
 ·exact .inl h1
 by_cases h2 : op = 13
 ·exact .inr (.inl h2)
 by_cases h3 : op = 14
 ·exact .inr (.inr (.inl h3))
 by_cases h4 : op = 16
 ·exact .inr (.inr (.inr (.inl h4)))
 by_cases h5 : op = 15
 ·exact .inr (.inr (.inr (.inr (.inl h5))))
 exact .inr (.inr (.inr (.inr (.inr (by simp [h1, h2, h3, h4, h5, writesOf])))))
theorem costs_any (op : Int) (w : World) : Calls Try.prog 89 #[.int .i64 op] w fun e w' => e = .returned (.int .i64 (writesOf op)) ∧ w = w' := by
 rcases writes_parts op with rfl | rfl | rfl | rfl | rfl | ⟨⟨h1, h2, h3, h4, h5⟩, h6⟩
 rotate_right
 ·have E := Lib.hid h6
  clear h6
  go_enter Try.func89, Try.ntmps89
  go_wp2
  go_ret
  exact ⟨ret_int E.out.symm, rfl⟩
 all_goals
  go_enter Try.func89, Try.ntmps89
  go_wp2
  go_ret
  exact ⟨rfl, rfl⟩
theorem writes_any (op : Int) (w : World) : Calls Try.prog 73 #[.int .i64 op] w fun e w' => e = .returned (.int .i64 (writesOf op)) ∧ w = w' := by
 rcases writes_parts op with rfl | rfl | rfl | rfl | rfl | ⟨⟨h1, h2, h3, h4, h5⟩, h6⟩
 rotate_right
 ·have E := Lib.hid h6
  clear h6
  go_enter Try.func73, Try.ntmps73
  go_wp2
  go_ret
  exact ⟨ret_int E.out.symm, rfl⟩
 all_goals
  go_enter Try.func73, Try.ntmps73
  go_wp2
  go_ret
  exact ⟨rfl, rfl⟩
end Go.Proofs.Ytjggmimaolddkaa
namespace Go.Proofs.Ytjggmimaolddkaa
open Go.RowKit Go.Maps
set_option linter.unusedVariables false
def blkV (ws : List Int) : Value := .agg (ws.map (Value.int .u64)).toArray
def blkD (ws : List Int) : DataW Unit := .agg (ws.map fun x => .lit (.int .u64 x))
def zero8 : List Int := [0, 0, 0, 0, 0, 0, 0, 0]
def wordsL : List Value → Option (List Int)
 | [] => some []
 | .int .u64 x :: r => (wordsL r).map fun l => x :: l
 | _ :: _ => none
def blkR (v : Value) : Option (DataW Unit × List MemPlace) := match v with
 | .agg cs => (wordsL cs.toList).bind fun ws => if ws.length = 8 then some (blkD ws, []) else none
 | _ => none
theorem wordsL_mk : ∀ ws : List Int, wordsL (ws.map (Value.int .u64)) = some ws
 | [] => rfl
 | x :: r => by rw [List.map_cons, wordsL, wordsL_mk r]; rfl
theorem wordsL_inv : ∀ (l : List Value) (ws : List Int), wordsL l = some ws → l = ws.map (Value.int .u64)
 | [], ws, h => by
   obtain rfl : ws = [] := by simpa [wordsL] using h.symm
   rfl
 | v :: r, ws, h => by
   unfold wordsL at h
   split at h
   ·rename_i h0; cases h0
   ·rename_i x r' h0
    obtain ⟨rfl, rfl⟩ : v = .int .u64 x ∧ r = r' := by simpa using h0
    obtain ⟨l, hl, rfl⟩ := Option.map_eq_some_iff.1 h
    rw [List.map_cons, wordsL_inv r l hl]
   ·cases h
theorem blkR_mk {ws : List Int} (h : ws.length = 8) : blkR (blkV ws) = some (blkD ws, []) := by
 simp [blkR, blkV, wordsL_mk, h]
theorem blkR_inv {v : Value} {z : DataW Unit × List MemPlace} (h : blkR v = some z) : ∃ ws, ws.length = 8 ∧ v = blkV ws ∧ z = (blkD ws, []) := by
 cases v <;> simp only [blkR] at h <;> try (cases h; done)
 rename_i cs
 obtain ⟨ws, hw, h2⟩ := Option.bind_eq_some_iff.1 h
 split at h2
 ·rename_i h8
  refine ⟨ws, h8, ?_, by cases h2; rfl⟩
  have := wordsL_inv _ _ hw
  unfold blkV
  rw [← this]
 ·cases h2
theorem lits_inj : ∀ {a b : List Int}, a.map (fun x => (DataW.lit (.int .u64 x) : DataW Unit)) = b.map (fun x => (DataW.lit (.int .u64 x) : DataW Unit)) → a = b
 | [], [], _ => rfl
 | [], y :: b, h => by simp at h
 | x :: a, [], h => by simp at h
 | x :: a, y :: b, h => by
   rw [List.map_cons, List.map_cons] at h
   injection h with h1 h2
   injection h1 with h1
   injection h1 with _ h1
   rw [h1, lits_inj h2]
theorem blkD_inj {a b : List Int} (h : blkD a = blkD b) : a = b := by
 unfold blkD at h
 injection h with h
 exact lits_inj h
def U64 (h : Int) : Prop := 0 ≤ h ∧ h ≤ 18446744073709551615
theorem wf_u64_mk {h : Int} (hh : U64 h) : (Lit.int .u64 h).wf = true := by
 unfold U64 at hh
 simpa [Lit.wf, IntKind.min, IntKind.max, IntKind.signed, IntKind.bits] using hh
def OwnB (w : World) (P : Program) (K : TypeId) (b n : Nat) (f : Int → Option (List Int)) : Prop :=
 ∃ D, w.ownsMap P K blkR b n D ∧ ∀ h, U64 h → (f h = none ∧ Maps.has D (.int .u64 h) = false) ∨ ∃ ws, f h = some ws ∧ ws.length = 8 ∧ Maps.has D (.int .u64 h) = true ∧ ∀ z, D.atKey (.int .u64 h) z = blkD ws
section
variable {w w' : World} {P : Program} {K t e : TypeId} {b n : Nat} {f : Int → Option (List Int)}
theorem OwnB.lt (h : OwnB w P K b n f) : b < w.heap.size := by obtain ⟨D, h, _⟩ := h; exact h.lt
theorem OwnB.mono (h : OwnB w P K b n f) {m : Nat} (hm : n ≤ m) : OwnB w P K b m f := by obtain ⟨D, h, hv⟩ := h; exact ⟨D, h.mono hm, hv⟩
theorem OwnB.kept {row : Option Nat} (h : OwnB w P K b n f) (hg : w.grownBy w' row) (hne : some b ≠ row) : OwnB w' P K b n f := by obtain ⟨D, h, hv⟩ := h; exact ⟨D, h.kept hg hne, hv⟩
theorem OwnB.below (h : OwnB w P K b n f) (hb : Below w.heap.size w w') : OwnB w' P K b n f :=
 h.kept (row := none) ⟨hb.os, hb.tape, hb.output, hb.size, fun k hk _ => hb.block k hk⟩ (by simp)
theorem OwnB.alloc (h : OwnB w P K b n f) (o : Obj) : OwnB (w.alloc o) P K b n f := by obtain ⟨D, h, hv⟩ := h; exact ⟨D, h.alloc o, hv⟩
theorem OwnB.drew (h : OwnB w P K b n f) : OwnB w.drew P K b n f := h
theorem OwnB.setCell (h : OwnB w P K b n f) {a : Addr} (ha : b ≠ a.block) (u : Value) : OwnB (w.setCell a u) P K b n f := by obtain ⟨D, h, hv⟩ := h; exact ⟨D, h.setCell ha u, hv⟩
theorem OwnB.ne_bk {g : Nat} {s : TypeId} {cs : Array Value} (h : OwnB w P K b n f) (hg : Bk w g s cs) : b ≠ g := by
 rintro rfl
 obtain ⟨D, ⟨es, clock, hb, _⟩, _⟩ := h
 unfold Bk at hg
 rw [hb] at hg
 cases hg
theorem OwnB.ne_own {base size m : Nat} {s : TypeId} {v : Value} {xs : List Value} (h : OwnB w P K b n f) (ho : w.ownsRow base s size v m xs) : some b ≠ v.ownBlock := by
 intro e
 obtain ⟨D, ⟨es, clock, hb, _⟩, _⟩ := h
 rcases ho.2 with ⟨rfl, _⟩ | ⟨g, cap, cur, rfl, _, hg, _⟩
 ·simp [Value.ownBlock] at e
 ·obtain rfl : b = g := by simpa [Value.ownBlock] using e
  rw [hb] at hg
  cases hg
theorem OwnB.made (w : World) (P : Program) (K : TypeId) : OwnB (w.alloc (.map #[] 0)) P K w.heap.size 0 fun _ => none :=
 ⟨_, World.ownsMap_made w P K blkR, fun h _ => .inl ⟨rfl, rfl⟩⟩
theorem OwnB.words (h : OwnB w P K b n f) {x : Int} (hx : U64 x) {ws : List Int} (hf : f x = some ws) : ws.length = 8 := by
 obtain ⟨D, _, hv⟩ := h
 rcases hv x hx with ⟨h0, _⟩ | ⟨ws', h0, h8, _⟩
 ·rw [h0] at hf; cases hf
 ·rw [h0] at hf; cases hf; exact h8
theorem OwnB.look (h : OwnB w P K b n f) (hK : P.underlying K = some (.int .u64)) (ht : P.underlying t = some (.map K e)) (hz : (zeroValue e).run P w = .ok (blkV zero8) w) {x : Int} (hx : U64 x) :
 (Instr.lookup t (.map (some b)) (.int .u64 x) true).run P w = .ok (.tuple #[blkV ((f x).getD zero8), .bool (f x).isSome]) w := by
 obtain ⟨D, h, hv⟩ := h
 obtain ⟨v, ps, hrun, hr⟩ := h.look_ok (int_keyed hK) ht hz (blkR_mk (ws := zero8) rfl) (keyOf_int_mk hK (wf_u64_mk hx))
 rw [hrun]
 obtain ⟨ws, h8, rfl, hz2⟩ := blkR_inv hr
 have hd := congrArg Prod.fst hz2
 simp only at hd
 rcases hv x hx with ⟨h0, h1⟩ | ⟨ws', h0, _, h1, h2⟩
 ·rw [Maps.atKey_of_not_has h1] at hd
  have := blkD_inj hd
  subst this
  rw [h0, h1]; rfl
 ·rw [h2] at hd
  have := blkD_inj hd
  subst this
  rw [h0, h1]; rfl
theorem key_ne {x y : Int} (h : y ≠ x) : (Lit.int .u64 y) ≠ (Lit.int .u64 x) := by intro e; injection e with _ e; exact h e
theorem OwnB.store (h : OwnB w P K b n f) (hK : P.underlying K = some (.int .u64)) (ht : P.underlying t = some (.map K e)) (hn : n < maxLen) {x : Int} (hx : U64 x) {ws : List Int} (h8 : ws.length = 8) :
 ∃ w', (Instr.mapUpdate t (.map (some b)) (.int .u64 x) (blkV ws)).run P w = .ok () w' ∧ OwnB w' P K b (n + 1) (fun y => if y = x then some ws else f y) ∧ w.grownBy w' (some b) := by
 obtain ⟨D, h, hv⟩ := h
 have hk := keyOf_int_mk (P := P) hK (wf_u64_mk hx)
 obtain ⟨w1, hrun, h1, h2⟩ := h.update (int_keyed hK) ht hn hk (blkR_mk h8)
 have hkl : WideAt.IsKeyLit (Lit.int .u64 x) := by first | exact trivial | exact ⟨_, _, rfl⟩ | simp [WideAt.IsKeyLit]
 refine ⟨w1, hrun, ⟨_, h1, fun y hy => ?_⟩, h2⟩
 by_cases hyx : y = x
 ·subst hyx
  exact .inr ⟨ws, by simp, h8, Maps.has_put_same h.isMap hkl _, fun z => Maps.atKey_put_same h.isMap hkl _ _⟩
 ·simp only [if_neg hyx]
  rw [Maps.has_put_other (key_ne hyx)]
  rcases hv y hy with h0 | ⟨ws', h0, h1, h2, h3⟩
  ·exact .inl h0
  ·exact .inr ⟨ws', h0, h1, h2, fun z => by rw [Maps.atKey_put_other (key_ne hyx)]; exact h3 z⟩
theorem OwnB.drop (h : OwnB w P K b n f) (hK : P.underlying K = some (.int .u64)) (ht : P.underlying t = some (.map K e)) {x : Int} (hx : U64 x) (ty : TypeId) :
 ∃ w', (Builtin.delete_ #[t, K] ty #[.map (some b), .int .u64 x]).run P w = .ok (.tuple #[]) w' ∧ OwnB w' P K b n (fun y => if y = x then none else f y) ∧ w.grownBy w' (some b) := by
 obtain ⟨D, h, hv⟩ := h
 have hk := keyOf_int_mk (P := P) hK (wf_u64_mk hx)
 obtain ⟨w1, hrun, h1, h2⟩ := h.drop (int_keyed hK) ht hk ty
 refine ⟨w1, hrun, ⟨_, h1, fun y hy => ?_⟩, h2.grown⟩
 by_cases hyx : y = x
 ·subst hyx
  exact .inl ⟨by simp, Maps.has_del_same⟩
 ·simp only [if_neg hyx]
  rw [Maps.has_del_other (key_ne hyx)]
  rcases hv y hy with h0 | ⟨ws', h0, h1, h2, h3⟩
  ·exact .inl h0
  ·exact .inr ⟨ws', h0, h1, h2, fun z => by rw [Maps.atKey_del_other (key_ne hyx)]; exact h3 z⟩
end
/-! ### at the operation, for the walk -/
section
variable {P : Program} (w : World) {ops : Array Oper} {rest : List Oper} {o : Oper} {a : Act} {Q : Exit → Act → World → Prop}
theorem wpList_store_blk (hg : o.guard = none) (m x v : Operand) (t : TypeId) (hop : o.op = Op.mapUpdate t m x v) (K e : TypeId) (hK : P.underlying K = some (.int .u64)) (ht : P.underlying t = some (.map K e)) (b n : Nat) (f : Int → Option (List Int))
 (hm : a.eval m = .map (some b)) (hown : OwnB w P K b n f) (hn : n < maxLen) (k : Int) (hx : a.eval x = .int .u64 k) (hk : U64 k) (ws : List Int) (hv : a.eval v = blkV ws) (h8 : ws.length = 8)
 (hK' : ∀ w', OwnB w' P K b (n + 1) (fun y => if y = k then some ws else f y) → w.grownBy w' (some b) → wpList P ops Q rest (a.put o.dst undef) w') : wpList P ops Q (o :: rest) a w := by
 refine wpList_plain hg fun K2 hK2 => ?_
 obtain ⟨w', hrun, r1, r2⟩ := hown.store hK ht hn hk h8
 unfold Oper.wp
 simp [execOp, hop, hm, hx, hv, hrun, Result.andThen]
 exact hK2 _ _ (hK' w' r1 r2)
theorem wpList_drop_blk (hg : o.guard = none) (m x : Operand) (t K : TypeId) (hop : o.op = Op.call { callee := Callee.builtin Builtin.delete, args := #[m, x], argTypes := #[t, K] }) (e : TypeId) (hK : P.underlying K = some (.int .u64)) (ht : P.underlying t = some (.map K e)) (b n : Nat) (f : Int → Option (List Int))
 (hm : a.eval m = .map (some b)) (hown : OwnB w P K b n f) (k : Int) (hx : a.eval x = .int .u64 k) (hk : U64 k)
 (hK' : ∀ w', OwnB w' P K b n (fun y => if y = k then none else f y) → w.grownBy w' (some b) → wpList P ops Q rest (a.put o.dst (.tuple #[])) w') : wpList P ops Q (o :: rest) a w := by
 refine wpList_plain hg fun K2 hK2 => ?_
 obtain ⟨w', hrun, r1, r2⟩ := hown.drop hK ht hk o.type
 unfold Oper.wp
 simp [execOp, hop, resolve, invoke, builtin, hm, hx, hrun, Result.andThen]
 exact hK2 _ _ (hK' w' r1 r2)
end
end Go.Proofs.Ytjggmimaolddkaa
