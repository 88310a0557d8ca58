/-
  Texts of one proof, joined (wip/gen/pack.py): ChkD, ChkE, ChkF, MapB, ModP, ModA, ModB.
-/
import Derived.Test.YtjggmimaolddkaaObAB
import Derived.Test.YtjggmimaolddkaaObAA
import Derived.Maps.OwnSet
import Derived.Maps.OwnOps
import Derived.Maps.Ext
import Derived.Shelf.SlMaps.Clone
import Derived.Shelf.SlMaps.Equal
import Derived.Deep.QuietTactic
import Derived.BigQuiet
import Derived.IntWalk
import Derived.Maps.AppendAt
import Derived.StillTailTactics
namespace Go.Proofs.Ytjggmimaolddkaa
open Go.RowKit
set_option linter.unusedVariables false

def oneAt (l : List Ins) (k : Nat) : Int := match l[k]? with
  | some i => oneE l.length k i
  | none => 0
def lastEnds (l : List Ins) : Bool := match l[l.length - 1]? with
  | some i => endsB i.op
  | none => false
/-- The first instruction that isn't right, and what is wrong. -/
def faultP (l : List Ins) : Int × Int :=
  if l.length = 0 then (0, 4) else if 256 < l.length then (256, 3)
  else match (List.range l.length).find? fun k => oneAt l k != 0 with
    | some k => ((k : Int), oneAt l k)
    | none => if lastEnds l then (0, 0) else ((l.length : Int) - 1, 30)
def FaultPost (l : List Ins) (w : World) (e : Ending) (w' : World) : Prop :=
  e = .returned (.tuple #[.int .i64 (faultP l).1, .int .i64 (faultP l).2]) ∧ Below w.heap.size w w'
theorem faultP_bad {l : List Ins} {n k : Nat} (hl : l.length = n) (h256 : n ≤ 256) (hk : k < n) (hall : ∀ q, q < k → oneAt l q = 0) (hz : oneAt l k ≠ 0) : faultP l = ((k : Int), oneAt l k) := by
  have hf : (List.range l.length).find? (fun k => oneAt l k != 0) = some k := by
    rw [List.find?_range_eq_some]
    exact ⟨by simpa using hz, by simpa [hl] using hk, fun j hj => by simp [hall j hj]⟩
  rw [faultP, if_neg (by omega), if_neg (by omega), hf]
theorem faultP_end {l : List Ins} {p : Nat} {i : Ins} (hl : l.length = p + 1) (h256 : p ≤ 255) (hall : ∀ q, q < p + 1 → oneAt l q = 0) (hi : l[p]? = some i) : faultP l = if endsB i.op then (0, 0) else ((p : Int), 30) := by
  have hf : (List.range l.length).find? (fun k => oneAt l k != 0) = none := by
    rw [List.find?_eq_none]
    intro x hx
    have := hall x (by simpa [hl] using hx)
    simp [this]
  have he : lastEnds l = endsB i.op := by rw [lastEnds, hl, Nat.add_sub_cancel, hi]
  rw [faultP, if_neg (by omega), if_neg (by omega), hf, he, hl]
  simp

set_option maxHeartbeats 4000000 in
theorem fault_any (l : List Ins) (A : Option Addr) (n c : Nat) (w : World) (hr : RdI w w.heap.size A n l) (hok : ∀ i ∈ l, i.Ok) :
    Calls Try.prog 50 #[.slice A n c] w (FaultPost l w) := by
  have h63 := hr.le
  unfold maxLen at h63
  have hl := hr.insLen
  rcases Nat.eq_zero_or_pos n with h0 | h0
  · subst h0
    have E : Hid (faultP l = (0, 4)) := by show _ = _; rw [faultP, if_pos hl]
    clear hr hok hl
    go_enter Try.func50, Try.ntmps50
    go_wp2
    go_ret2
    exact ⟨by rw [E.out]; rfl, Below.refl _ _⟩
  · by_cases h256 : 256 < n
    · have E : Hid (faultP l = (256, 3)) := by show _ = _; rw [faultP, if_neg (by omega), if_pos (by omega)]
      have hne : ((n : Int) == 0) = false := by rw [beq_eq_false_iff_ne]; omega
      clear hr hok hl
      go_enter Try.func50, Try.ntmps50
      go_wp2
      go_ret2
      exact ⟨by rw [E.out]; rfl, Below.refl _ _⟩
    · obtain ⟨p, hnp⟩ : ∃ p, n = p + 1 := ⟨n - 1, by omega⟩
      have hp256 : p ≤ 255 := by omega
      have hn1 : 0 < n := h0
      have hn256 : n ≤ 256 := by omega
      have hne : ((n : Int) == 0) = false := by rw [beq_eq_false_iff_ne]; omega
      have HP := Lib.hid hnp
      clear hnp
      have HL := Lib.hid hl
      have HR := Lib.hid hr
      have HK := Lib.hid hok
      clear hr hok hl h256 h0 h63
      go_enter Try.func50, Try.ntmps50
      go_wp2
      go_loopw [17] (fun k wr => ∃ j : Nat, j ≤ n ∧ k = .int .i64 j ∧ Below w.heap.size w wr ∧ Hid (∀ q, q < j → oneAt l q = 0)) (fun k _ => n - (intOf k).toNat)
      case atStart => exact ⟨0, by omega, rfl, Below.refl _ _, fun q hq => by omega⟩
      case round =>
        obtain ⟨k, hk, rfl, hb, hall⟩ := hrel
        have HB := Lib.hid hb
        clear hb
        by_cases hlt : k < n
        · obtain ⟨i, hi⟩ : ∃ i, l[k]? = some i := ⟨l[k]'(by rw [HL.out]; exact hlt), List.getElem?_eq_getElem _⟩
          have HA : Hid (oneE n k i = oneAt l k) := by show _ = _; rw [oneAt, hi, HL.out]
          have hcall := one_any l A n c wr ((HR.out.below HB.out).more HB.out.size) k hlt i hi (HK.out i (List.mem_of_getElem? hi))
          rw [HA.out] at hcall
          have HC := Lib.hid hcall
          clear hcall
          clear hi HA
          cases hz : (oneAt l k == 0)
          · have hz2 : (oneAt l k != 0) = true := by simpa using hz
            have E : Hid (faultP l = ((k : Int), oneAt l k)) := by
              show _ = _
              rw [faultP_bad HL.out (by omega) hlt hall.out (by simpa using hz)]
            generalize oneAt l k = x at *
            go_wp2_with fail
            refine HC.out.mono ?_
            rintro e w1 ⟨rfl, hb1⟩
            go_wp2
            go_ret2
            exact ⟨by rw [E.out]; rfl, HB.out.trans (hb1.mono HB.out.size)⟩
          · have hz1 : oneAt l k = 0 := by simpa using hz
            have hn : Hid (∀ q, q < k + 1 → oneAt l q = 0) := fun q hq => by
              rcases Nat.lt_or_ge q k with h | h
              · exact hall.out q h
              · obtain rfl : q = k := by omega
                exact hz1
            rw [hz1] at HC
            clear hz hz1
            go_wp2_with fail
            refine HC.out.mono ?_
            rintro e w1 ⟨rfl, hb1⟩
            go_wp2
            go_roundw
            case rel => exact ⟨k + 1, by omega, by go_num, HB.out.trans (hb1.mono HB.out.size), hn⟩
            case measure => simp [intOf]; omega
        · obtain rfl : k = n := by omega
          have hpn : p < k := by have := HP.out; omega
          have hpe : (k : Int) - 1 = (p : Int) := by have := HP.out; omega
          obtain ⟨b0, o0, i, rfl, hbB, hi, c0, c1, c2, c3, c4⟩ := (HR.out.below HB.out).insAt (k := p) (by omega)
          have E := Lib.hid (faultP_end (HL.out.trans HP.out) (by omega) (by rw [← HP.out]; exact hall.out) hi)
          clear hi c1 c2 c3 c4
          cases he : endsB i.op
          · rw [he] at E
            go_wp2_with fail
            refine (ends_any _ _).mono ?_
            rintro e w1 ⟨rfl, rfl⟩
            rw [he]
            go_wp2
            go_ret2
            exact ⟨by rw [E.out]; rfl, HB.out⟩
          · rw [he] at E
            go_wp2_with fail
            refine (ends_any _ _).mono ?_
            rintro e w1 ⟨rfl, rfl⟩
            rw [he]
            go_wp2
            go_ret2
            exact ⟨by rw [E.out]; rfl, HB.out⟩
end Go.Proofs.Ytjggmimaolddkaa

namespace Go.Proofs.Ytjggmimaolddkaa
open Go.RowKit
set_option linter.unusedVariables false

set_option maxHeartbeats 4000000 in
theorem rfault_any (l : List Ins) (A : Option Addr) (n c : Nat) (w : World) (hr : RdI w w.heap.size A n l) (hok : ∀ i ∈ l, i.Ok) :
    Calls Try.prog 57 #[.slice A n c] w (FaultPost l w) := by
  have h63 := hr.le
  unfold maxLen at h63
  have hl := hr.insLen
  rcases Nat.eq_zero_or_pos n with h0 | h0
  · subst h0
    have E : Hid (faultP l = (0, 4)) := by show _ = _; rw [faultP, if_pos hl]
    clear hr hok hl
    go_enter Try.func57, Try.ntmps57
    go_wp2
    go_ret2
    exact ⟨by rw [E.out]; rfl, Below.refl _ _⟩
  · by_cases h256 : 256 < n
    · have E : Hid (faultP l = (256, 3)) := by show _ = _; rw [faultP, if_neg (by omega), if_pos (by omega)]
      have hne : ((n : Int) == 0) = false := by rw [beq_eq_false_iff_ne]; omega
      clear hr hok hl
      go_enter Try.func57, Try.ntmps57
      go_wp2
      go_ret2
      exact ⟨by rw [E.out]; rfl, Below.refl _ _⟩
    · obtain ⟨p, hnp⟩ : ∃ p, n = p + 1 := ⟨n - 1, by omega⟩
      have hp256 : p ≤ 255 := by omega
      have hn1 : 0 < n := h0
      have hn256 : n ≤ 256 := by omega
      have hne : ((n : Int) == 0) = false := by rw [beq_eq_false_iff_ne]; omega
      have HP := Lib.hid hnp
      clear hnp
      have HL := Lib.hid hl
      have HR := Lib.hid hr
      have HK := Lib.hid hok
      clear hr hok hl h256 h0 h63
      go_enter Try.func57, Try.ntmps57
      go_wp2
      go_loopw [4] (fun k wr => ∃ j : Nat, j ≤ n ∧ k = .int .i64 j ∧ Below w.heap.size w wr ∧ Hid (∀ q, q < j → oneAt l q = 0)) (fun k _ => n - (intOf k).toNat)
      case atStart => exact ⟨0, by omega, rfl, Below.refl _ _, fun q hq => by omega⟩
      case round =>
        obtain ⟨k, hk, rfl, hb, hall⟩ := hrel
        have HB := Lib.hid hb
        clear hb
        by_cases hlt : k < n
        · obtain ⟨i, hi⟩ : ∃ i, l[k]? = some i := ⟨l[k]'(by rw [HL.out]; exact hlt), List.getElem?_eq_getElem _⟩
          have HA : Hid (oneE n k i = oneAt l k) := by show _ = _; rw [oneAt, hi, HL.out]
          have hcall := rone_any l A n c wr ((HR.out.below HB.out).more HB.out.size) k hlt i hi (HK.out i (List.mem_of_getElem? hi))
          rw [HA.out] at hcall
          have HC := Lib.hid hcall
          clear hcall
          clear hi HA
          cases hz : (oneAt l k == 0)
          · have hz2 : (oneAt l k != 0) = true := by simpa using hz
            have E : Hid (faultP l = ((k : Int), oneAt l k)) := by
              show _ = _
              rw [faultP_bad HL.out (by omega) hlt hall.out (by simpa using hz)]
            generalize oneAt l k = x at *
            go_wp2_with fail
            refine HC.out.mono ?_
            rintro e w1 ⟨rfl, hb1⟩
            go_wp2
            go_ret2
            exact ⟨by rw [E.out]; rfl, HB.out.trans (hb1.mono HB.out.size)⟩
          · have hz1 : oneAt l k = 0 := by simpa using hz
            have hn : Hid (∀ q, q < k + 1 → oneAt l q = 0) := fun q hq => by
              rcases Nat.lt_or_ge q k with h | h
              · exact hall.out q h
              · obtain rfl : q = k := by omega
                exact hz1
            rw [hz1] at HC
            clear hz hz1
            go_wp2_with fail
            refine HC.out.mono ?_
            rintro e w1 ⟨rfl, hb1⟩
            go_wp2
            go_roundw
            case rel => exact ⟨k + 1, by omega, by go_num, HB.out.trans (hb1.mono HB.out.size), hn⟩
            case measure => simp [intOf]; omega
        · obtain rfl : k = n := by omega
          have hpn : p < k := by have := HP.out; omega
          have hpe : (k : Int) - 1 = (p : Int) := by have := HP.out; omega
          obtain ⟨b0, o0, i, rfl, hbB, hi, c0, c1, c2, c3, c4⟩ := (HR.out.below HB.out).insAt (k := p) (by omega)
          have E := Lib.hid (faultP_end (HL.out.trans HP.out) (by omega) (by rw [← HP.out]; exact hall.out) hi)
          clear hi c1 c2 c3 c4
          by_cases h20 : i.op = 20
          · rw [h20] at c0 E
            clear h20
            go_wp2
            go_ret2
            exact ⟨by rw [E.out]; rfl, HB.out⟩
          · by_cases h21 : i.op = 21
            · rw [h21] at c0 E
              clear h20 h21
              go_wp2
              go_ret2
              exact ⟨by rw [E.out]; rfl, HB.out⟩
            · have e20 : (i.op != 20) = true := by simpa using h20
              have e21 : (i.op != 21) = true := by simpa using h21
              have he : endsB i.op = false := by simp [endsB, h20, h21]
              rw [he] at E
              clear h20 h21 he
              go_wp2
              go_ret2
              exact ⟨by rw [E.out]; rfl, HB.out⟩
end Go.Proofs.Ytjggmimaolddkaa

namespace Go.Proofs.Ytjggmimaolddkaa
open Go.RowKit
set_option linter.unusedVariables false

def rightP (l : List Ins) : Bool := decide ((faultP l).2 = 0)
/-- How many words an instruction of a kind writes. -/
def writesOf (op : Int) : Int := if op = 10 ∨ op = 13 ∨ op = 14 then 1 else if op = 16 then 2 else if op = 15 then 9 else 0
def readsP (l : List Ins) : Bool := (l.all fun i => writesOf i.op == 0) && rightP l

theorem right_any (l : List Ins) (A : Option Addr) (n c : Nat) (w : World) (hr : RdI w w.heap.size A n l) (hok : ∀ i ∈ l, i.Ok) :
    Calls Try.prog 38 #[.slice A n c] w fun e w' => e = .returned (.bool (rightP l)) ∧ Below w.heap.size w w' := by
  have HR := Lib.hid hr
  have HK := Lib.hid hok
  clear hr hok
  go_enter Try.func38, Try.ntmps38
  go_wp2_with fail
  refine (fault_any l A n c _ HR.out HK.out).mono ?_
  intro e w1 he
  obtain ⟨he, hb⟩ := he
  have HB := Lib.hid hb
  have E : Hid (rightP l = ((faultP l).2 == 0)) := by
    show _ = _
    rw [rightP, Bool.eq_iff_iff]; simp
  generalize (faultP l).1 = x at *
  generalize (faultP l).2 = y at *
  subst he
  clear hb
  go_wp2
  go_ret
  exact ⟨ret_bool (by rw [E.out]), HB.out⟩

theorem rright_any (l : List Ins) (A : Option Addr) (n c : Nat) (w : World) (hr : RdI w w.heap.size A n l) (hok : ∀ i ∈ l, i.Ok) :
    Calls Try.prog 41 #[.slice A n c] w fun e w' => e = .returned (.bool (rightP l)) ∧ Below w.heap.size w w' := by
  have HR := Lib.hid hr
  have HK := Lib.hid hok
  clear hr hok
  go_enter Try.func41, Try.ntmps41
  go_wp2_with fail
  refine (rfault_any l A n c _ HR.out HK.out).mono ?_
  intro e w1 he
  obtain ⟨he, hb⟩ := he
  have HB := Lib.hid hb
  have E : Hid (rightP l = ((faultP l).2 == 0)) := by
    show _ = _
    rw [rightP, Bool.eq_iff_iff]; simp
  generalize (faultP l).1 = x at *
  generalize (faultP l).2 = y at *
  subst he
  clear hb
  go_wp2
  go_ret
  exact ⟨ret_bool (by rw [E.out]), HB.out⟩

theorem writes_parts (op : Int) : op = 10 ∨ op = 13 ∨ op = 14 ∨ op = 16 ∨ op = 15 ∨
    (((op == 10) = false ∧ (op == 13) = false ∧ (op == 14) = false ∧ (op == 16) = false ∧ (op == 15) = false) ∧ writesOf op = 0) := by
  by_cases h1 : op = 10
  · exact .inl h1
  by_cases h2 : op = 13
  · exact .inr (.inl h2)
  by_cases h3 : op = 14
  · exact .inr (.inr (.inl h3))
  by_cases h4 : op = 16
  · exact .inr (.inr (.inr (.inl h4)))
  by_cases h5 : op = 15
  · exact .inr (.inr (.inr (.inr (.inl h5))))
  exact .inr (.inr (.inr (.inr (.inr (by simp [h1, h2, h3, h4, h5, writesOf])))))

theorem costs_any (op : Int) (w : World) : Calls Try.prog 89 #[.int .i64 op] w fun e w' => e = .returned (.int .i64 (writesOf op)) ∧ w = w' := by
  rcases writes_parts op with rfl | rfl | rfl | rfl | rfl | ⟨⟨h1, h2, h3, h4, h5⟩, h6⟩
  rotate_right
  · have E := Lib.hid h6
    clear h6
    go_enter Try.func89, Try.ntmps89
    go_wp2
    go_ret
    exact ⟨ret_int E.out.symm, rfl⟩
  all_goals
    go_enter Try.func89, Try.ntmps89
    go_wp2
    go_ret
    exact ⟨rfl, rfl⟩
theorem writes_any (op : Int) (w : World) : Calls Try.prog 73 #[.int .i64 op] w fun e w' => e = .returned (.int .i64 (writesOf op)) ∧ w = w' := by
  rcases writes_parts op with rfl | rfl | rfl | rfl | rfl | ⟨⟨h1, h2, h3, h4, h5⟩, h6⟩
  rotate_right
  · have E := Lib.hid h6
    clear h6
    go_enter Try.func73, Try.ntmps73
    go_wp2
    go_ret
    exact ⟨ret_int E.out.symm, rfl⟩
  all_goals
    go_enter Try.func73, Try.ntmps73
    go_wp2
    go_ret
    exact ⟨rfl, rfl⟩
theorem readsP_not {l : List Ins} {k : Nat} {i : Ins} (hi : l[k]? = some i) (h : writesOf i.op ≠ 0) : readsP l = false := by
  have : (l.all fun i => writesOf i.op == 0) = false := by
    rw [List.all_eq_false]
    exact ⟨i, List.mem_of_getElem? hi, by simpa using h⟩
  rw [readsP, this]; rfl
theorem readsP_all {l : List Ins} (h : ∀ q i, q < l.length → l[q]? = some i → writesOf i.op = 0) : readsP l = rightP l := by
  have : (l.all fun i => writesOf i.op == 0) = true := by
    rw [List.all_eq_true]
    intro i hi
    obtain ⟨q, hq, rfl⟩ := List.getElem_of_mem hi
    simpa using h q _ hq (List.getElem?_eq_getElem hq)
  rw [readsP, this]; rfl

set_option maxHeartbeats 4000000 in
theorem reads_any (l : List Ins) (A : Option Addr) (n c : Nat) (w : World) (hr : RdI w w.heap.size A n l) (hok : ∀ i ∈ l, i.Ok) :
    Calls Try.prog 60 #[.slice A n c] w fun e w' => e = .returned (.bool (readsP l)) ∧ Below w.heap.size w w' := by
  have h63 := hr.le
  unfold maxLen at h63
  have HL := Lib.hid hr.insLen
  have HR := Lib.hid hr
  have HK := Lib.hid hok
  clear hr hok
  go_enter Try.func60, Try.ntmps60
  go_wp2
  go_loopw [7] (fun k wr => ∃ j : Nat, j ≤ n ∧ k = .int .i64 j ∧ Below w.heap.size w wr ∧ Hid (∀ q i, q < j → l[q]? = some i → writesOf i.op = 0)) (fun k _ => n - (intOf k).toNat)
  case atStart => exact ⟨0, by omega, rfl, Below.refl _ _, fun q i hq => by omega⟩
  case round =>
    obtain ⟨k, hk, rfl, hb, hall⟩ := hrel
    have hsz := hb.size
    have HB := Lib.hid hb
    clear hb
    by_cases hlt : k < n
    · obtain ⟨b0, o0, i, rfl, hbB, hi, c0, c1, c2, c3, c4⟩ := (HR.out.below HB.out).insAt hlt
      have HI := Lib.hid hi
      obtain ⟨op, a, b, cc, m⟩ := i
      simp only at c0 c1 c2 c3 c4
      clear hi
      rcases writes_parts op with h | h | h | h | h | ⟨⟨h1, h2, h3, h4, h5⟩, h6⟩
      rotate_right
      · have hn : Hid (∀ q i, q < k + 1 → l[q]? = some i → writesOf i.op = 0) := fun q i hq hqi => by
          rcases Nat.lt_or_ge q k with h | h
          · exact hall.out q i h hqi
          · obtain rfl : q = k := by omega
            rw [HI.out] at hqi
            injection hqi with hqi
            subst hqi
            exact h6
        clear h6
        go_wp2
        go_roundw
        case rel => exact ⟨k + 1, by omega, by go_num, HB.out.alloc hsz _, hn⟩
        case measure => simp [intOf]; omega
      all_goals
        subst h
        have E := Lib.hid (readsP_not HI.out (by simp [writesOf]))
        go_wp2
        go_ret
        exact ⟨ret_bool E.out.symm, HB.out.alloc hsz _⟩
    · obtain rfl : k = n := by omega
      have E : Hid (readsP l = rightP l) := readsP_all (by rw [HL.out]; exact hall.out)
      go_wp2_with fail
      refine (right_any l A k c _ ((HR.out.below HB.out).more hsz) HK.out).mono ?_
      rintro e w1 ⟨rfl, hb1⟩
      have HB1 := Lib.hid (HB.out.trans (hb1.mono hsz))
      clear hb1
      go_wp2
      go_ret
      exact ⟨ret_bool E.out.symm, HB1.out⟩

end Go.Proofs.Ytjggmimaolddkaa

namespace Go.Proofs.Ytjggmimaolddkaa
open Go.RowKit Go.Maps
set_option linter.unusedVariables false

def blkV (ws : List Int) : Value := .agg (ws.map (Value.int .u64)).toArray
def blkD (ws : List Int) : DataW Unit := .agg (ws.map fun x => .lit (.int .u64 x))
def zero8 : List Int := [0, 0, 0, 0, 0, 0, 0, 0]
def wordsL : List Value → Option (List Int)
  | [] => some []
  | .int .u64 x :: r => (wordsL r).map fun l => x :: l
  | _ :: _ => none
def blkR (v : Value) : Option (DataW Unit × List MemPlace) := match v with
  | .agg cs => (wordsL cs.toList).bind fun ws => if ws.length = 8 then some (blkD ws, []) else none
  | _ => none
theorem wordsL_mk : ∀ ws : List Int, wordsL (ws.map (Value.int .u64)) = some ws
  | [] => rfl
  | x :: r => by rw [List.map_cons, wordsL, wordsL_mk r]; rfl
theorem wordsL_inv : ∀ (l : List Value) (ws : List Int), wordsL l = some ws → l = ws.map (Value.int .u64)
  | [], ws, h => by
    obtain rfl : ws = [] := by simpa [wordsL] using h.symm
    rfl
  | v :: r, ws, h => by
    unfold wordsL at h
    split at h
    · rename_i h0; cases h0
    · rename_i x r' h0
      obtain ⟨rfl, rfl⟩ : v = .int .u64 x ∧ r = r' := by simpa using h0
      obtain ⟨l, hl, rfl⟩ := Option.map_eq_some_iff.1 h
      rw [List.map_cons, wordsL_inv r l hl]
    · cases h
theorem blkR_mk {ws : List Int} (h : ws.length = 8) : blkR (blkV ws) = some (blkD ws, []) := by
  simp [blkR, blkV, wordsL_mk, h]
theorem blkR_inv {v : Value} {z : DataW Unit × List MemPlace} (h : blkR v = some z) : ∃ ws, ws.length = 8 ∧ v = blkV ws ∧ z = (blkD ws, []) := by
  cases v <;> simp only [blkR] at h <;> try (cases h; done)
  rename_i cs
  obtain ⟨ws, hw, h2⟩ := Option.bind_eq_some_iff.1 h
  split at h2
  · rename_i h8
    refine ⟨ws, h8, ?_, by cases h2; rfl⟩
    have := wordsL_inv _ _ hw
    unfold blkV
    rw [← this]
  · cases h2
theorem lits_inj : ∀ {a b : List Int}, a.map (fun x => (DataW.lit (.int .u64 x) : DataW Unit)) = b.map (fun x => (DataW.lit (.int .u64 x) : DataW Unit)) → a = b
  | [], [], _ => rfl
  | [], y :: b, h => by simp at h
  | x :: a, [], h => by simp at h
  | x :: a, y :: b, h => by
    rw [List.map_cons, List.map_cons] at h
    injection h with h1 h2
    injection h1 with h1
    injection h1 with _ h1
    rw [h1, lits_inj h2]
theorem blkD_inj {a b : List Int} (h : blkD a = blkD b) : a = b := by
  unfold blkD at h
  injection h with h
  exact lits_inj h

def U64 (h : Int) : Prop := 0 ≤ h ∧ h ≤ 18446744073709551615
theorem wf_u64_mk {h : Int} (hh : U64 h) : (Lit.int .u64 h).wf = true := by
  unfold U64 at hh
  simpa [Lit.wf, IntKind.min, IntKind.max, IntKind.signed, IntKind.bits] using hh
/-- Block b of w is a map of at most n entries, that holds at each handle h the words f h. -/
def OwnB (w : World) (P : Program) (K : TypeId) (b n : Nat) (f : Int → Option (List Int)) : Prop :=
  ∃ D, w.ownsMap P K blkR b n D ∧ ∀ h, U64 h → (f h = none ∧ Maps.has D (.int .u64 h) = false) ∨ ∃ ws, f h = some ws ∧ ws.length = 8 ∧ Maps.has D (.int .u64 h) = true ∧ ∀ z, D.atKey (.int .u64 h) z = blkD ws

section
variable {w w' : World} {P : Program} {K t e : TypeId} {b n : Nat} {f : Int → Option (List Int)}
theorem OwnB.lt (h : OwnB w P K b n f) : b < w.heap.size := by obtain ⟨D, h, _⟩ := h; exact h.lt
theorem OwnB.mono (h : OwnB w P K b n f) {m : Nat} (hm : n ≤ m) : OwnB w P K b m f := by obtain ⟨D, h, hv⟩ := h; exact ⟨D, h.mono hm, hv⟩
theorem OwnB.kept {row : Option Nat} (h : OwnB w P K b n f) (hg : w.grownBy w' row) (hne : some b ≠ row) : OwnB w' P K b n f := by obtain ⟨D, h, hv⟩ := h; exact ⟨D, h.kept hg hne, hv⟩
theorem OwnB.below (h : OwnB w P K b n f) (hb : Below w.heap.size w w') : OwnB w' P K b n f :=
  h.kept (row := none) ⟨hb.os, hb.tape, hb.output, hb.size, fun k hk _ => hb.block k hk⟩ (by simp)
theorem OwnB.alloc (h : OwnB w P K b n f) (o : Obj) : OwnB (w.alloc o) P K b n f := by obtain ⟨D, h, hv⟩ := h; exact ⟨D, h.alloc o, hv⟩
theorem OwnB.drew (h : OwnB w P K b n f) : OwnB w.drew P K b n f := h
theorem OwnB.setCell (h : OwnB w P K b n f) {a : Addr} (ha : b ≠ a.block) (u : Value) : OwnB (w.setCell a u) P K b n f := by obtain ⟨D, h, hv⟩ := h; exact ⟨D, h.setCell ha u, hv⟩
/-- A map's block is no block of cells. -/
theorem OwnB.ne_bk {g : Nat} {s : TypeId} {cs : Array Value} (h : OwnB w P K b n f) (hg : Bk w g s cs) : b ≠ g := by
  rintro rfl
  obtain ⟨D, ⟨es, clock, hb, _⟩, _⟩ := h
  unfold Bk at hg
  rw [hb] at hg
  cases hg
theorem OwnB.ne_own {base size m : Nat} {s : TypeId} {v : Value} {xs : List Value} (h : OwnB w P K b n f) (ho : w.ownsRow base s size v m xs) : some b ≠ v.ownBlock := by
  intro e
  obtain ⟨D, ⟨es, clock, hb, _⟩, _⟩ := h
  rcases ho.2 with ⟨rfl, _⟩ | ⟨g, cap, cur, rfl, _, hg, _⟩
  · simp [Value.ownBlock] at e
  · obtain rfl : b = g := by simpa [Value.ownBlock] using e
    rw [hb] at hg
    cases hg
theorem OwnB.made (w : World) (P : Program) (K : TypeId) : OwnB (w.alloc (.map #[] 0)) P K w.heap.size 0 fun _ => none :=
  ⟨_, World.ownsMap_made w P K blkR, fun h _ => .inl ⟨rfl, rfl⟩⟩
theorem OwnB.words (h : OwnB w P K b n f) {x : Int} (hx : U64 x) {ws : List Int} (hf : f x = some ws) : ws.length = 8 := by
  obtain ⟨D, _, hv⟩ := h
  rcases hv x hx with ⟨h0, _⟩ | ⟨ws', h0, h8, _⟩
  · rw [h0] at hf; cases hf
  · rw [h0] at hf; cases hf; exact h8

/-- 'v, ok := m[k]'. -/
theorem OwnB.look (h : OwnB w P K b n f) (hK : P.underlying K = some (.int .u64)) (ht : P.underlying t = some (.map K e)) (hz : (zeroValue e).run P w = .ok (blkV zero8) w) {x : Int} (hx : U64 x) :
    (Instr.lookup t (.map (some b)) (.int .u64 x) true).run P w = .ok (.tuple #[blkV ((f x).getD zero8), .bool (f x).isSome]) w := by
  obtain ⟨D, h, hv⟩ := h
  obtain ⟨v, ps, hrun, hr⟩ := h.look_ok (int_keyed hK) ht hz (blkR_mk (ws := zero8) rfl) (keyOf_int_mk hK (wf_u64_mk hx))
  rw [hrun]
  obtain ⟨ws, h8, rfl, hz2⟩ := blkR_inv hr
  have hd := congrArg Prod.fst hz2
  simp only at hd
  rcases hv x hx with ⟨h0, h1⟩ | ⟨ws', h0, _, h1, h2⟩
  · rw [Maps.atKey_of_not_has h1] at hd
    have := blkD_inj hd
    subst this
    rw [h0, h1]; rfl
  · rw [h2] at hd
    have := blkD_inj hd
    subst this
    rw [h0, h1]; rfl

theorem key_ne {x y : Int} (h : y ≠ x) : (Lit.int .u64 y) ≠ (Lit.int .u64 x) := by intro e; injection e with _ e; exact h e

/-- 'm[k] = v'. -/
theorem OwnB.store (h : OwnB w P K b n f) (hK : P.underlying K = some (.int .u64)) (ht : P.underlying t = some (.map K e)) (hn : n < maxLen) {x : Int} (hx : U64 x) {ws : List Int} (h8 : ws.length = 8) :
    ∃ w', (Instr.mapUpdate t (.map (some b)) (.int .u64 x) (blkV ws)).run P w = .ok () w' ∧ OwnB w' P K b (n + 1) (fun y => if y = x then some ws else f y) ∧ w.grownBy w' (some b) := by
  obtain ⟨D, h, hv⟩ := h
  have hk := keyOf_int_mk (P := P) hK (wf_u64_mk hx)
  obtain ⟨w1, hrun, h1, h2⟩ := h.update (int_keyed hK) ht hn hk (blkR_mk h8)
  have hkl : WideAt.IsKeyLit (Lit.int .u64 x) := by first | exact trivial | exact ⟨_, _, rfl⟩ | simp [WideAt.IsKeyLit]
  refine ⟨w1, hrun, ⟨_, h1, fun y hy => ?_⟩, h2⟩
  by_cases hyx : y = x
  · subst hyx
    exact .inr ⟨ws, by simp, h8, Maps.has_put_same h.isMap hkl _, fun z => Maps.atKey_put_same h.isMap hkl _ _⟩
  · simp only [if_neg hyx]
    rw [Maps.has_put_other (key_ne hyx)]
    rcases hv y hy with h0 | ⟨ws', h0, h1, h2, h3⟩
    · exact .inl h0
    · exact .inr ⟨ws', h0, h1, h2, fun z => by rw [Maps.atKey_put_other (key_ne hyx)]; exact h3 z⟩

/-- 'delete(m, k)'. -/
theorem OwnB.drop (h : OwnB w P K b n f) (hK : P.underlying K = some (.int .u64)) (ht : P.underlying t = some (.map K e)) {x : Int} (hx : U64 x) (ty : TypeId) :
    ∃ w', (Builtin.delete_ #[t, K] ty #[.map (some b), .int .u64 x]).run P w = .ok (.tuple #[]) w' ∧ OwnB w' P K b n (fun y => if y = x then none else f y) ∧ w.grownBy w' (some b) := by
  obtain ⟨D, h, hv⟩ := h
  have hk := keyOf_int_mk (P := P) hK (wf_u64_mk hx)
  obtain ⟨w1, hrun, h1, h2⟩ := h.drop (int_keyed hK) ht hk ty
  refine ⟨w1, hrun, ⟨_, h1, fun y hy => ?_⟩, h2.grown⟩
  by_cases hyx : y = x
  · subst hyx
    exact .inl ⟨by simp, Maps.has_del_same⟩
  · simp only [if_neg hyx]
    rw [Maps.has_del_other (key_ne hyx)]
    rcases hv y hy with h0 | ⟨ws', h0, h1, h2, h3⟩
    · exact .inl h0
    · exact .inr ⟨ws', h0, h1, h2, fun z => by rw [Maps.atKey_del_other (key_ne hyx)]; exact h3 z⟩
end

/-! ### at the operation, for the walk -/
section
variable {P : Program} (w : World) {ops : Array Oper} {rest : List Oper} {o : Oper} {a : Act} {Q : Exit → Act → World → Prop}
theorem wpList_store_blk (hg : o.guard = none) (m x v : Operand) (t : TypeId) (hop : o.op = Op.mapUpdate t m x v) (K e : TypeId) (hK : P.underlying K = some (.int .u64)) (ht : P.underlying t = some (.map K e)) (b n : Nat) (f : Int → Option (List Int))
    (hm : a.eval m = .map (some b)) (hown : OwnB w P K b n f) (hn : n < maxLen) (k : Int) (hx : a.eval x = .int .u64 k) (hk : U64 k) (ws : List Int) (hv : a.eval v = blkV ws) (h8 : ws.length = 8)
    (hK' : ∀ w', OwnB w' P K b (n + 1) (fun y => if y = k then some ws else f y) → w.grownBy w' (some b) → wpList P ops Q rest (a.put o.dst undef) w') : wpList P ops Q (o :: rest) a w := by
  refine wpList_plain hg fun K2 hK2 => ?_
  obtain ⟨w', hrun, r1, r2⟩ := hown.store hK ht hn hk h8
  unfold Oper.wp
  simp [execOp, hop, hm, hx, hv, hrun, Result.andThen]
  exact hK2 _ _ (hK' w' r1 r2)
theorem wpList_drop_blk (hg : o.guard = none) (m x : Operand) (t K : TypeId) (hop : o.op = Op.call { callee := Callee.builtin Builtin.delete, args := #[m, x], argTypes := #[t, K] }) (e : TypeId) (hK : P.underlying K = some (.int .u64)) (ht : P.underlying t = some (.map K e)) (b n : Nat) (f : Int → Option (List Int))
    (hm : a.eval m = .map (some b)) (hown : OwnB w P K b n f) (k : Int) (hx : a.eval x = .int .u64 k) (hk : U64 k)
    (hK' : ∀ w', OwnB w' P K b n (fun y => if y = k then none else f y) → w.grownBy w' (some b) → wpList P ops Q rest (a.put o.dst (.tuple #[])) w') : wpList P ops Q (o :: rest) a w := by
  refine wpList_plain hg fun K2 hK2 => ?_
  obtain ⟨w', hrun, r1, r2⟩ := hown.drop hK ht hk o.type
  unfold Oper.wp
  simp [execOp, hop, resolve, invoke, builtin, hm, hx, hrun, Result.andThen]
  exact hK2 _ _ (hK' w' r1 r2)
end
end Go.Proofs.Ytjggmimaolddkaa

namespace Go.Proofs.Ytjggmimaolddkaa
open Go.RowKit
set_option linter.unusedVariables false

/-- All roots, and what stands in the blocks, by handles. -/
structure MSt where
  roots : List Int
  blocks : Int → Option (List Int)
/-- A program that runs. -/
structure MRun where
  st : MSt
  regs : List Int
  code : Int
  val : Int
  steps : Int
  writes : Int
  news : List Int
  pick : List Int
  pc : Int
  ended : Bool
def wrapU (x : Int) : Int := x % 18446744073709551616
def MRun.reg (r : MRun) (k : Int) : Int := r.regs.getD k.toNat 0
def MRun.put (r : MRun) (k v : Int) : MRun := { r with regs := r.regs.set k.toNat v }
/-- What an instruction without roots and blocks makes of its register. -/
def reckonP (i : Ins) (regs args : List Int) : Int :=
  if i.op = 0 then i.imm else if i.op = 1 then regs.getD i.b.toNat 0
  else if i.op = 2 then wrapU (regs.getD i.b.toNat 0 + regs.getD i.c.toNat 0)
  else if i.op = 3 then wrapU (regs.getD i.b.toNat 0 - regs.getD i.c.toNat 0)
  else if i.op = 4 then wrapU (regs.getD i.b.toNat 0 * regs.getD i.c.toNat 0)
  else if i.op = 5 then (if regs.getD i.c.toNat 0 = 0 then regs.getD i.b.toNat 0 else regs.getD i.b.toNat 0 % regs.getD i.c.toNat 0)
  else if i.op = 6 then (if regs.getD i.b.toNat 0 = regs.getD i.c.toNat 0 then 1 else 0)
  else if i.op = 7 then (if regs.getD i.b.toNat 0 < regs.getD i.c.toNat 0 then 1 else 0)
  else if i.op = 8 then args.getD i.imm.toNat 0 else 0
/-- Words that are to be written are counted, if there are so many left. -/
def payP (maxw op : Int) (r : MRun) : Option MRun := if maxw - r.writes < writesOf op then none else some { r with writes := r.writes + writesOf op }
def rootP (maxw : Int) (i : Ins) (r : MRun) : Int × MRun :=
  if 16 ≤ r.reg i.b then (44, r) else if i.op = 9 then (0, r.put i.a (r.st.roots.getD (r.reg i.b).toNat 0))
  else match payP maxw i.op r with
    | none => (42, r)
    | some r' => (0, { r' with st := { r.st with roots := r.st.roots.set (r.reg i.b).toNat (r.reg i.a) } })
def wordAt (i : Ins) (r : MRun) : Int := if i.op = 12 ∨ i.op = 14 then r.reg i.c else i.imm
def upd (f : Int → Option (List Int)) (h : Int) (v : Option (List Int)) : Int → Option (List Int) := fun y => if y = h then v else f y
def wordP (maxw : Int) (i : Ins) (r : MRun) : Int × MRun :=
  match r.st.blocks (r.reg i.b) with
  | none => (44, r)
  | some ws => if 8 ≤ wordAt i r then (44, r) else if i.op = 11 ∨ i.op = 12 then (0, r.put i.a (ws.getD (wordAt i r).toNat 0))
    else match payP maxw i.op r with
      | none => (42, r)
      | some r' => (0, { r' with st := { r.st with blocks := upd r.st.blocks (r.reg i.b) (some (ws.set (wordAt i r).toNat (r.reg i.a))) } })
def freshP (maxw : Int) (i : Ins) (r : MRun) : Int × MRun :=
  match payP maxw i.op r with
  | none => (42, r)
  | some r' => match r.pick with
    | [] => (43, r')
    | h :: rest => if (r.st.blocks h).isSome ∨ h = 0 ∨ 64 < h then (43, r')
      else (0, { r' with pick := rest, st := { r.st with blocks := upd r.st.blocks h (some zero8) }, news := r.news ++ [h], regs := r.regs.set i.a.toNat h })
def freeP (maxw : Int) (i : Ins) (r : MRun) : Int × MRun :=
  match r.st.blocks (r.reg i.a) with
  | none => (44, r)
  | some _ => match payP maxw i.op r with
    | none => (42, r)
    | some r' => (0, { r' with st := { r.st with blocks := upd r.st.blocks (r.reg i.a) none } })
/-- An instruction: the error's number, and what it makes. -/
def doP (args : List Int) (maxw : Int) (i : Ins) (r : MRun) : Int × MRun :=
  if i.op = 17 then (0, { r with pc := i.imm })
  else if i.op = 18 then (0, if r.reg i.a = 0 then { r with pc := i.imm } else r)
  else if i.op = 19 then (0, if r.reg i.a = 0 then r else { r with pc := i.imm })
  else if i.op = 20 then (0, { r with val := r.reg i.a, ended := true })
  else if i.op = 21 then (40, { r with val := i.imm })
  else if i.op = 9 ∨ i.op = 10 then rootP maxw i r
  else if i.op = 11 ∨ i.op = 12 ∨ i.op = 13 ∨ i.op = 14 then wordP maxw i r
  else if i.op = 15 then freshP maxw i r
  else if i.op = 16 then freeP maxw i r
  else (0, r.put i.a (reckonP i r.regs args))
def stepP (args : List Int) (maxw : Int) (i : Ins) (r : MRun) : Int × MRun := doP args maxw i { r with pc := r.pc + 1 }
def noIns : Ins := ⟨0, 0, 0, 0, 0⟩
/-- So many instructions more at most. -/
def goP (l : List Ins) (args : List Int) (maxw : Int) : Nat → MRun → MRun
  | 0, r => { r with code := 41, val := 0 }
  | n + 1, r => match stepP args maxw (l.getD r.pc.toNat noIns) { r with steps := r.steps + 1 } with
    | (e, r') => if e ≠ 0 then { r' with code := e } else if r'.ended then r' else goP l args maxw n r'
def zero16 : List Int := [0, 0, 0, 0, 0, 0, 0, 0, 0, 0, 0, 0, 0, 0, 0, 0]
def startP (s : MSt) (pick : List Int) : MRun := { st := s, regs := zero16, code := 0, val := 0, steps := 0, writes := 0, news := [], pick := pick, pc := 0, ended := false }
def badP (s : MSt) (pick : List Int) : MRun := { startP s pick with code := 30 }
/-- A program is let run: what came of it. -/
def runP (s : MSt) (l : List Ins) (args : List Int) (fuel maxw : Int) (pick : List Int) : MRun :=
  if rightP l then goP l args maxw fuel.toNat (startP s pick) else badP s pick
/-- The state behind it: as ahead, unless it returned. -/
def afterP (s : MSt) (r : MRun) : MSt := if r.code = 0 then r.st else s

/-! ### in memory -/
abbrev u64s (l : List Int) : List Value := l.map (Value.int .u64)
/-- A run's cells. -/
structure RC where
  sb : Nat
  args : List Int
  regs : List Int
  maxw : Int
  pv : Value
  code : Int
  val : Int
  steps : Int
  writes : Int
  nv : Value
  pc : Int
  ended : Bool
def RC.tail (c : RC) : List Value := [.int .i64 c.maxw, c.pv, .int .i64 c.code, .int .u64 c.val, .int .i64 c.steps, .int .i64 c.writes, c.nv, .int .i64 c.pc, .bool c.ended]
def RC.cells (c : RC) : List Value := .pointer (some ⟨c.sb, 0, none⟩) :: (u64s c.args ++ (u64s c.regs ++ c.tail))
section
variable {c : RC} (ha : c.args.length = 4) (hr : c.regs.length = 16)
include ha in
theorem RC.at_reg {k : Nat} (hk : k < c.regs.length) : c.cells[5 + k]? = some (.int .u64 (c.regs.getD k 0)) := by
  rw [RC.cells, show 5 + k = (4 + k) + 1 by omega, List.getElem?_cons_succ, List.getElem?_append_right (by simp [ha]), List.getElem?_append_left (by simp [ha]; omega)]
  simp [ha, hk]
include ha in
theorem RC.at_arg {k : Nat} (hk : k < 4) : c.cells[1 + k]? = some (.int .u64 (c.args.getD k 0)) := by
  rw [RC.cells, show 1 + k = k + 1 by omega, List.getElem?_cons_succ, List.getElem?_append_left (by simp [ha]; omega)]
  simp [ha, hk]
include ha hr in
theorem RC.at_tail (j : Nat) : c.cells[21 + j]? = c.tail[j]? := by
  rw [RC.cells, show 21 + j = (20 + j) + 1 by omega, List.getElem?_cons_succ, List.getElem?_append_right (by simp [ha]; omega), List.getElem?_append_right (by simp [ha, hr]; omega)]
  simp [ha, hr]
  congr 1; omega
include ha in
theorem RC.set_reg {k : Nat} (hk : k < c.regs.length) (v : Int) : c.cells.set (5 + k) (.int .u64 v) = ({ c with regs := c.regs.set k v } : RC).cells := by
  rw [RC.cells, show 5 + k = (4 + k) + 1 by omega, List.set_cons_succ, List.set_append_right _ _ (by simp [ha]), List.set_append_left _ _ (by simp [ha]; omega)]
  simp [RC.cells, ha, List.map_set, RC.tail]
include ha hr in
theorem RC.set_tail (j : Nat) (v : Value) : c.cells.set (21 + j) v = .pointer (some ⟨c.sb, 0, none⟩) :: (u64s c.args ++ (u64s c.regs ++ c.tail.set j v)) := by
  rw [RC.cells, show 21 + j = (20 + j) + 1 by omega, List.set_cons_succ, List.set_append_right _ _ (by simp [ha]; omega), List.set_append_right _ _ (by simp [ha, hr]; omega)]
  simp [ha, hr]
  congr 1; omega
include ha hr in
theorem RC.set_pick (v : Value) : c.cells.set 22 v = ({ c with pv := v } : RC).cells := RC.set_tail ha hr 1 v
include ha hr in
theorem RC.set_code (v : Int) : c.cells.set 23 (.int .i64 v) = ({ c with code := v } : RC).cells := RC.set_tail ha hr 2 _
include ha hr in
theorem RC.set_val (v : Int) : c.cells.set 24 (.int .u64 v) = ({ c with val := v } : RC).cells := RC.set_tail ha hr 3 _
include ha hr in
theorem RC.set_steps (v : Int) : c.cells.set 25 (.int .i64 v) = ({ c with steps := v } : RC).cells := RC.set_tail ha hr 4 _
include ha hr in
theorem RC.set_writes (v : Int) : c.cells.set 26 (.int .i64 v) = ({ c with writes := v } : RC).cells := RC.set_tail ha hr 5 _
include ha hr in
theorem RC.set_news (v : Value) : c.cells.set 27 v = ({ c with nv := v } : RC).cells := RC.set_tail ha hr 6 v
include ha hr in
theorem RC.set_pc (v : Int) : c.cells.set 28 (.int .i64 v) = ({ c with pc := v } : RC).cells := RC.set_tail ha hr 7 _
include ha hr in
theorem RC.set_ended (v : Bool) : c.cells.set 29 (.bool v) = ({ c with ended := v } : RC).cells := RC.set_tail ha hr 8 _
end
/-- Block g of w is a run that has these cells. -/
def BkR (w : World) (g : Nat) (c : RC) : Prop := Bk w g 115 c.cells.toArray ∧ c.args.length = 4 ∧ c.regs.length = 16
theorem BkR.bk {w : World} {g : Nat} {c : RC} (h : BkR w g c) : Bk w g 115 c.cells.toArray := h.1
theorem BkR.reg {w : World} {g : Nat} {c : RC} (h : BkR w g c) {k : Nat} (hk : k < 16) : w.cell? ⟨g, 5 + k, none⟩ = some (.int .u64 (c.regs.getD k 0)) := by
  rw [h.1.cell]; simpa using RC.at_reg h.2.1 (by rw [h.2.2]; exact hk)
theorem BkR.tail {w : World} {g : Nat} {c : RC} (h : BkR w g c) (j : Nat) : w.cell? ⟨g, 21 + j, none⟩ = c.tail[j]? := by
  rw [h.1.cell]; simpa using RC.at_tail h.2.1 h.2.2 j
theorem BkR.setAny {w : World} {g : Nat} {c c' : RC} (h : BkR w g c) {k : Nat} {v : Value} (hs : c.cells.set k v = c'.cells) (ha : c'.args.length = 4) (hr : c'.regs.length = 16) : BkR (w.setCell ⟨g, k, none⟩ v) g c' := by
  refine ⟨?_, ha, hr⟩
  have := h.1.set_ k v
  rw [List.setIfInBounds_toArray, hs] at this
  exact this
end Go.Proofs.Ytjggmimaolddkaa

namespace Go.Proofs.Ytjggmimaolddkaa
open Go.RowKit
set_option linter.unusedVariables false

theorem grown_set (w : World) (g k : Nat) (v : Value) : w.grownBy (w.setCell ⟨g, k, none⟩ v) (some g) := by
  refine ⟨rfl, rfl, rfl, by simp [World.setCell], fun i hi hne => ?_⟩
  simp only [World.setCell]
  rw [Array.getElem?_modify, if_neg (fun e => hne (by rw [e]))]
theorem grown_drewN (w : World) (n : Nat) (row : Option Nat) : w.grownBy (w.drewN n) row := ⟨rfl, rfl, rfl, Nat.le_refl _, fun _ _ _ => rfl⟩
theorem grown_drew (w : World) (row : Option Nat) : w.grownBy w.drew row := ⟨rfl, rfl, rfl, Nat.le_refl _, fun _ _ _ => rfl⟩
theorem BkR.drewN {w : World} {g : Nat} {c : RC} (h : BkR w g c) (n : Nat) : BkR (w.drewN n) g c := h
theorem BkR.drew {w : World} {g : Nat} {c : RC} (h : BkR w g c) : BkR w.drew g c := h
theorem BkR.grown {w w' : World} {g : Nat} {c : RC} {row : Option Nat} (h : BkR w g c) (hg : w.grownBy w' row) (hne : row ≠ some g) : BkR w' g c := ⟨h.1.grown hg hne, h.2⟩
theorem BkR.alloc {w : World} {g : Nat} {c : RC} (h : BkR w g c) (o : Obj) : BkR (w.alloc o) g c := ⟨h.1.alloc o, h.2⟩
theorem BkR.lt {w : World} {g : Nat} {c : RC} (h : BkR w g c) : g < w.heap.size := h.1.lt

theorem bit_any (b : Bool) (w : World) : Calls Try.prog 68 #[.bool b] w fun e w' => e = .returned (.int .u64 (if b then 1 else 0)) ∧ w = w' := by
  cases b
  · go_enter Try.func68, Try.ntmps68
    go_wp2
    go_ret
    exact ⟨rfl, rfl⟩
  · go_enter Try.func68, Try.ntmps68
    go_wp2
    go_ret
    exact ⟨rfl, rfl⟩

theorem writesOf_bd (op : Int) : 0 ≤ writesOf op ∧ writesOf op ≤ 9 := by
  unfold writesOf
  constructor <;> (repeat (first | split | omega))

def PayPost (g : Nat) (c : RC) (op : Int) (w : World) (e : Ending) (w' : World) : Prop :=
  (if c.maxw - c.writes < writesOf op then e = .returned (.int .i64 42) ∧ BkR w' g c else e = .returned (.int .i64 0) ∧ BkR w' g { c with writes := c.writes + writesOf op }) ∧ w.grownBy w' (some g)
theorem PayPost.no {g : Nat} {c : RC} {op : Int} {w w' : World} (h : c.maxw - c.writes < writesOf op) (hb : BkR w' g c) (hg : w.grownBy w' (some g)) : PayPost g c op w (.returned (.int .i64 42)) w' := by
  refine ⟨?_, hg⟩
  rw [if_pos h]; exact ⟨rfl, hb⟩
theorem PayPost.yes {g : Nat} {c : RC} {op : Int} {w w' : World} (h : ¬ c.maxw - c.writes < writesOf op) (hb : BkR w' g { c with writes := c.writes + writesOf op }) (hg : w.grownBy w' (some g)) : PayPost g c op w (.returned (.int .i64 0)) w' := by
  refine ⟨?_, hg⟩
  rw [if_neg h]; exact ⟨rfl, hb⟩

set_option maxHeartbeats 2000000 in
theorem pay_any (g : Nat) (c : RC) (op : Int) (w : World) (h : BkR w g c) (hm : -9223372036854775808 ≤ c.maxw ∧ c.maxw ≤ 9223372036854775807) (hw : 0 ≤ c.writes ∧ c.writes ≤ 1000000000000) (hl : c.writes ≤ c.maxw ∨ c.writes = 0) :
    Calls Try.prog 67 #[.pointer (some ⟨g, 0, none⟩), .int .i64 op] w (PayPost g c op w) := by
  have HB := Lib.hid h
  have hbd := writesOf_bd op
  have k21 : w.cell? ⟨g, 21, none⟩ = some (.int .i64 c.maxw) := (h.tail 0).trans rfl
  have k26 : w.cell? ⟨g, 26, none⟩ = some (.int .i64 c.writes) := (h.tail 5).trans rfl
  have f26 := h.bk.frozen 26
  obtain ⟨M, hM⟩ : ∃ M, c.maxw = M := ⟨_, rfl⟩
  obtain ⟨W, hW⟩ : ∃ W, c.writes = W := ⟨_, rfl⟩
  obtain ⟨n, hn⟩ : ∃ n, writesOf op = n := ⟨_, rfl⟩
  rw [hM] at k21 hm hl
  rw [hW] at k26 hw hl
  rw [hn] at hbd
  have HM := Lib.hid hM
  have HW := Lib.hid hW
  have HN := Lib.hid hn
  have hs0 : -9223372036854775808 ≤ M - W := by omega
  have hs1 : M - W ≤ 9223372036854775807 := by omega
  have hwr : IntKind.i64.wrap (M - W) = M - W := IntWalk.i64_in _ (by omega)
  have hwr2 : IntKind.i64.wrap (W + n) = W + n := IntWalk.i64_in _ (by omega)
  clear h hM hW hn hl
  by_cases ht : M - W < n
  · have hd : decide (n > M - W) = true := decide_eq_true ht
    have hd2 : decide (M - W < n) = true := decide_eq_true ht
    go_enter Try.func67, Try.ntmps67
    go_wp2_with fail
    refine (costs_any op _).mono ?_
    rintro e w1 ⟨rfl, rfl⟩
    rw [HN.out]
    go_wp2_with fail
    go_quiet (fail)
    go_wp2
    go_ret
    exact PayPost.no (by rw [HM.out, HW.out, HN.out]; omega) (HB.out.drewN _) (grown_drewN _ _ _)
  · have hd : decide (n > M - W) = false := decide_eq_false ht
    have hd2 : decide (M - W < n) = false := decide_eq_false ht
    go_enter Try.func67, Try.ntmps67
    go_wp2_with fail
    refine (costs_any op _).mono ?_
    rintro e w1 ⟨rfl, rfl⟩
    rw [HN.out]
    go_wp2_with fail
    go_quiet (fail)
    go_wp2
    go_ret
    refine PayPost.yes (by rw [HM.out, HW.out, HN.out]; omega) ?_ ((grown_drewN _ _ _).trans (grown_set _ _ _ _))
    rw [HN.out, HW.out]
    exact (HB.out.drewN _).setAny (RC.set_writes HB.out.2.1 HB.out.2.2 _) HB.out.2.1 HB.out.2.2

theorem and15 : ∀ k : Fin 16, bits .and .i64 (k.val : Int) 15 = (k.val : Int) := by decide +kernel
theorem and3u : ∀ k : Fin 4, bits .and .u64 (k.val : Int) 3 = (k.val : Int) := by decide +kernel
def Ins.v (i : Ins) : Value := .agg #[.int .i64 i.op, .int .i64 i.a, .int .i64 i.b, .int .i64 i.c, .int .u64 i.imm]
theorem u64s_get {l : List Int} {k : Nat} (h : k < l.length) : (u64s l).toArray[k]? = some (.int .u64 (l.getD k 0)) := by simp [h]
theorem getD_u64 {l : List Int} (h : ∀ x ∈ l, U64 x) (k : Nat) : U64 (l.getD k 0) := by
  rw [List.getD_eq_getElem?_getD]
  cases hk : l[k]? with
  | none => exact ⟨by decide, by decide⟩
  | some x => exact h x (List.mem_of_getElem? hk)

set_option maxRecDepth 100000 in
set_option maxHeartbeats 4000000 in
theorem reckon_any (i : Ins) (regs args : List Int) (w : World) (hr : regs.length = 16) (ha : args.length = 4) (hu : ∀ x ∈ regs, U64 x) (hb : 0 ≤ i.b ∧ i.b < 16) (hc : 0 ≤ i.c ∧ i.c < 16) (hm : i.op = 8 → 0 ≤ i.imm ∧ i.imm < 4) :
    Calls Try.prog 56 #[i.v, .agg (u64s regs).toArray, .agg (u64s args).toArray] w fun e w' => e = .returned (.int .u64 (reckonP i regs args)) ∧ w.grownBy w' none := by
  obtain ⟨op, ia, ib, ic, imm⟩ := i
  simp only at hb hc hm
  obtain ⟨b, rfl⟩ : ∃ b : Nat, ib = (b : Int) := ⟨ib.toNat, by omega⟩
  obtain ⟨c, rfl⟩ : ∃ c : Nat, ic = (c : Int) := ⟨ic.toNat, by omega⟩
  have hb16 : b < 16 := by omega
  have hc16 : c < 16 := by omega
  have hab : bits .and .i64 (b : Int) 15 = (b : Int) := and15 ⟨b, hb16⟩
  have hac : bits .and .i64 (c : Int) 15 = (c : Int) := and15 ⟨c, hc16⟩
  obtain ⟨CR, hCR⟩ : ∃ CR, (u64s regs).toArray = CR := ⟨_, rfl⟩
  obtain ⟨CA, hCA⟩ : ∃ CA, (u64s args).toArray = CA := ⟨_, rfl⟩
  have sR : CR.size = 16 := by rw [← hCR]; simp [hr]
  have sA : CA.size = 4 := by rw [← hCA]; simp [ha]
  obtain ⟨X, hX⟩ : ∃ X, regs.getD b 0 = X := ⟨_, rfl⟩
  obtain ⟨Y, hY⟩ : ∃ Y, regs.getD c 0 = Y := ⟨_, rfl⟩
  have uX : U64 X := by rw [← hX]; exact getD_u64 hu b
  have uY : U64 Y := by rw [← hY]; exact getD_u64 hu c
  have gX : CR[b]? = some (.int .u64 X) := by rw [← hCR, ← hX]; exact u64s_get (by omega)
  have gY : CR[c]? = some (.int .u64 Y) := by rw [← hCR, ← hY]; exact u64s_get (by omega)
  obtain ⟨W3, hW3⟩ : ∃ W3, ((w.alloc (.cells #[.int .i64 op, .int .i64 ia, .int .i64 b, .int .i64 c, .int .u64 imm] 62)).alloc (.cells CR 50)).alloc (.cells CA 37) = W3 := ⟨_, rfl⟩
  have k1 : W3.cell? ⟨w.heap.size + 1, b, none⟩ = some (.int .u64 X) := by
    rw [← hW3]
    have h1 := ((Bk.new (w.alloc (.cells #[.int .i64 op, .int .i64 ia, .int .i64 b, .int .i64 c, .int .u64 imm] 62)) 50 CR).alloc (.cells CA 37)).cell b
    rw [gX] at h1
    simpa using h1
  have k2 : W3.cell? ⟨w.heap.size + 1, c, none⟩ = some (.int .u64 Y) := by
    rw [← hW3]
    have h1 := ((Bk.new (w.alloc (.cells #[.int .i64 op, .int .i64 ia, .int .i64 b, .int .i64 c, .int .u64 imm] 62)) 50 CR).alloc (.cells CA 37)).cell c
    rw [gY] at h1
    simpa using h1
  have k3 : ∀ j : Nat, j < 5 → W3.cell? ⟨w.heap.size, j, none⟩ = #[.int .i64 op, .int .i64 ia, .int .i64 b, .int .i64 c, .int .u64 imm][j]? := by
    intro j _
    rw [← hW3]
    exact (((Bk.new w 62 #[.int .i64 op, .int .i64 ia, .int .i64 b, .int .i64 c, .int .u64 imm]).alloc _).alloc _).cell j
  have q0 := (k3 0 (by omega)).trans rfl
  have q2 := (k3 2 (by omega)).trans rfl
  have q3 := (k3 3 (by omega)).trans rfl
  have q4 := (k3 4 (by omega)).trans rfl
  have hG : Hid (w.grownBy W3 none) := by show World.grownBy _ _ _; rw [← hW3]; exact ((World.grownBy_alloc _ _ _).trans (World.grownBy_alloc _ _ _)).trans (World.grownBy_alloc _ _ _)
  clear k3 gX gY
  have HW3 := Lib.hid hW3
  have HE : Hid (reckonP ⟨op, ia, b, c, imm⟩ regs args = if op = 0 then imm else if op = 1 then X else if op = 2 then wrapU (X + Y) else if op = 3 then wrapU (X - Y) else if op = 4 then wrapU (X * Y) else if op = 5 then (if Y = 0 then X else X % Y) else if op = 6 then (if X = Y then 1 else 0) else if op = 7 then (if X < Y then 1 else 0) else if op = 8 then args.getD imm.toNat 0 else 0) := by
    show _ = _
    rw [← hX, ← hY]; rfl
  have HA := Lib.hid hCA
  have HM := Lib.hid hm
  have HU := Lib.hid (And.intro uX uY)
  clear hW3 hX hY hu hm uX uY
  simp only [Ins.v]
  rw [hCR, hCA]
  clear hCR hCA
  go_enter Try.func56, Try.ntmps56
  go_wp2_with fail
  rw [HW3.out]
  go_quiet (fail)
  by_cases h0 : op = 0
  · subst h0
    go_wp2
    go_ret
    exact ⟨ret_int HE.out.symm, hG.out.trans (grown_drewN _ _ _)⟩
  by_cases h1 : op = 1
  · subst h1
    go_wp2
    go_ret
    exact ⟨ret_int HE.out.symm, hG.out.trans (grown_drewN _ _ _)⟩
  by_cases h2 : op = 2
  · subst h2
    go_wp2
    go_ret
    exact ⟨ret_int (by rw [HE.out, wrapU, ← IntKind.wrap_u64]; rfl), hG.out.trans (grown_drewN _ _ _)⟩
  by_cases h3 : op = 3
  · subst h3
    go_wp2
    go_ret
    exact ⟨ret_int (by rw [HE.out, wrapU, ← IntKind.wrap_u64]; rfl), hG.out.trans (grown_drewN _ _ _)⟩
  by_cases h4 : op = 4
  · subst h4
    go_wp2
    go_ret
    exact ⟨ret_int (by rw [HE.out, wrapU, ← IntKind.wrap_u64]; rfl), hG.out.trans (grown_drewN _ _ _)⟩
  by_cases h5 : op = 5
  · subst h5
    by_cases hy : Y = 0
    · subst hy
      go_wp2
      go_ret
      exact ⟨ret_int (by rw [HE.out]; rfl), hG.out.trans (grown_drewN _ _ _)⟩
    · have hy0 : (Y == 0) = false := by simpa using hy
      have HR : Hid (X.tmod Y = X % Y) := Int.tmod_eq_emod_of_nonneg HU.out.1.1
      go_wp2
      go_ret
      exact ⟨ret_int (by rw [HE.out]; simp [hy, HR.out]), hG.out.trans (grown_drewN _ _ _)⟩
  by_cases h6 : op = 6
  · subst h6
    by_cases hy : X = Y
    · have hd : (X == Y) = true := by simpa using hy
      have HF : Hid (reckonP ⟨6, ia, b, c, imm⟩ regs args = 1) := by show _ = _; rw [HE.out]; simp [hy]
      clear hy
      go_wp2_with fail
      refine (bit_any _ _).mono ?_
      rintro e w' ⟨rfl, rfl⟩
      go_wp2
      go_ret
      exact ⟨ret_int (by rw [HF.out]), hG.out.trans (grown_drewN _ _ _)⟩
    · have hd : (X == Y) = false := by simpa using hy
      have HF : Hid (reckonP ⟨6, ia, b, c, imm⟩ regs args = 0) := by show _ = _; rw [HE.out]; simp [hy]
      clear hy
      go_wp2_with fail
      refine (bit_any _ _).mono ?_
      rintro e w' ⟨rfl, rfl⟩
      go_wp2
      go_ret
      exact ⟨ret_int (by rw [HF.out]), hG.out.trans (grown_drewN _ _ _)⟩
  by_cases h7 : op = 7
  · subst h7
    by_cases hy : X < Y
    · have hd : decide (X < Y) = true := decide_eq_true hy
      have HF : Hid (reckonP ⟨7, ia, b, c, imm⟩ regs args = 1) := by show _ = _; rw [HE.out]; simp [hy]
      go_wp2_with fail
      refine (bit_any _ _).mono ?_
      rintro e w' ⟨rfl, rfl⟩
      go_wp2
      go_ret
      exact ⟨ret_int (by rw [HF.out]), hG.out.trans (grown_drewN _ _ _)⟩
    · have hd : decide (X < Y) = false := decide_eq_false hy
      have HF : Hid (reckonP ⟨7, ia, b, c, imm⟩ regs args = 0) := by show _ = _; rw [HE.out]; simp [hy]
      go_wp2_with fail
      refine (bit_any _ _).mono ?_
      rintro e w' ⟨rfl, rfl⟩
      go_wp2
      go_ret
      exact ⟨ret_int (by rw [HF.out]), hG.out.trans (grown_drewN _ _ _)⟩
  by_cases h8 : op = 8
  · obtain ⟨hm0, hm4⟩ := HM.out h8
    subst h8
    obtain ⟨m, rfl⟩ : ∃ m : Nat, imm = (m : Int) := ⟨imm.toNat, by omega⟩
    have hm4' : m < 4 := by omega
    have ham : bits .and .u64 (m : Int) 3 = (m : Int) := and3u ⟨m, hm4'⟩
    obtain ⟨Z, hZ⟩ : ∃ Z, args.getD m 0 = Z := ⟨_, rfl⟩
    have k5 : W3.cell? ⟨w.heap.size + 1 + 1, m, none⟩ = some (.int .u64 Z) := by
      rw [← HW3.out]
      have h1 := (Bk.new ((w.alloc (.cells #[.int .i64 8, .int .i64 ia, .int .i64 b, .int .i64 c, .int .u64 m] 62)).alloc (.cells CR 50)) 37 CA).cell m
      rw [← HA.out, u64s_get (by omega), hZ, HA.out] at h1
      simpa using h1
    have HF : Hid (reckonP ⟨8, ia, b, c, m⟩ regs args = Z) := by show _ = _; rw [HE.out]; simpa using hZ
    clear hZ
    go_wp2
    go_ret
    exact ⟨ret_int HF.out.symm, hG.out.trans (grown_drewN _ _ _)⟩
  · have HF : Hid (reckonP ⟨op, ia, b, c, imm⟩ regs args = 0) := by show _ = _; rw [HE.out]; simp [h0, h1, h2, h3, h4, h5, h6, h7, h8]
    go_wp2
    go_ret
    exact ⟨ret_int HF.out.symm, hG.out.trans (grown_drewN _ _ _)⟩
end Go.Proofs.Ytjggmimaolddkaa

namespace Go.Proofs.Ytjggmimaolddkaa
open Go.RowKit
set_option linter.unusedVariables false

abbrev RdU (w : World) (B : Nat) (A : Option Addr) (n : Nat) (l : List Int) : Prop := Rd w B 1 A n (u64s l)
theorem Rd.u64Len {w : World} {B n : Nat} {A : Option Addr} {l : List Int} (h : RdU w B A n l) : l.length = n := by
  have := h.len; rw [List.length_map] at this; omega
def rc (sb : Nat) (args : List Int) (maxw : Int) (pv nv : Value) (r : MRun) : RC := ⟨sb, args, r.regs, maxw, pv, r.code, r.val, r.steps, r.writes, nv, r.pc, r.ended⟩
def stCells (roots : List Int) (mb : Nat) : List Value := u64s roots ++ [.map (some mb)]
/-- Block sb of w is a state's cells. -/
def BkS (w : World) (sb : Nat) (roots : List Int) (mb : Nat) : Prop := Bk w sb 98 (stCells roots mb).toArray
theorem BkS.root {w : World} {sb mb : Nat} {roots : List Int} (h : BkS w sb roots mb) {k : Nat} (hk : k < roots.length) : w.cell? ⟨sb, k, none⟩ = some (.int .u64 (roots.getD k 0)) := by
  have := Bk.cell h k
  rw [this, stCells, List.getElem?_toArray, List.getElem?_append_left (by simpa using hk)]
  simp [hk]
theorem BkS.map {w : World} {sb mb : Nat} {roots : List Int} (h : BkS w sb roots mb) (hr : roots.length = 16) : w.cell? ⟨sb, 16, none⟩ = some (.map (some mb)) := by
  have := Bk.cell h 16
  rw [this]
  simp [stCells, hr]
theorem BkS.setRoot {w : World} {sb mb : Nat} {roots : List Int} (h : BkS w sb roots mb) {k : Nat} (hk : k < roots.length) (v : Int) : BkS (w.setCell ⟨sb, k, none⟩ (.int .u64 v)) sb (roots.set k v) mb := by
  have := Bk.set_ h k (.int .u64 v)
  rw [List.setIfInBounds_toArray] at this
  unfold BkS
  have e : (stCells roots mb).set k (.int .u64 v) = stCells (roots.set k v) mb := by
    rw [stCells, List.set_append_left _ _ (by simpa using hk), ← List.map_set]; rfl
  rw [← e]; exact this

/-- A run, in block g; all that it may turn lies from block B on. -/
structure RunIn (w : World) (B NB g : Nat) (args : List Int) (maxw : Int) (r : MRun) (sb mb n : Nat) (pA : Option Addr) (pc_ : Nat) (nv : Value) : Prop where
  bk : BkR w g (rc sb args maxw (.slice pA r.pick.length pc_) nv r)
  st : BkS w sb r.st.roots mb
  map : OwnB w Try.prog 31 mb n r.st.blocks
  nb : n + r.pick.length ≤ NB
  news : w.ownsRow B 31 1 nv r.news.length (u64s r.news)
  pick : RdU w B pA r.pick.length r.pick
  pcap : r.pick.length ≤ pc_
  bg : B ≤ g
  bs : B ≤ sb
  bm : B ≤ mb
  roots : r.st.roots.length = 16
def RunAt (w : World) (B NB g : Nat) (args : List Int) (maxw : Int) (r : MRun) : Prop := ∃ sb mb n pA pc_ nv, RunIn w B NB g args maxw r sb mb n pA pc_ nv
/-- Its numbers are of their kinds. -/
structure ROk (maxw : Int) (r : MRun) : Prop where
  regs : ∀ x ∈ r.regs, U64 x
  roots : ∀ x ∈ r.st.roots, U64 x
  blocks : ∀ h ws, r.st.blocks h = some ws → ∀ x ∈ ws, U64 x
  pick : ∀ x ∈ r.pick, U64 x
  w0 : 0 ≤ r.writes ∧ r.writes ≤ 1000000000000
  w1 : r.writes ≤ maxw ∨ r.writes = 0
  mw : -9223372036854775808 ≤ maxw ∧ maxw ≤ 9223372036854775807
section
variable {w w' : World} {B NB g : Nat} {args : List Int} {maxw : Int} {r : MRun} {sb mb n : Nat} {pA : Option Addr} {pc_ : Nat} {nv : Value}
theorem RunIn.ne (h : RunIn w B NB g args maxw r sb mb n pA pc_ nv) : g ≠ sb ∧ g ≠ mb ∧ sb ≠ mb ∧ nv.ownBlock ≠ some g ∧ nv.ownBlock ≠ some sb ∧ some mb ≠ nv.ownBlock := by
  refine ⟨?_, fun e => h.map.ne_bk h.bk.bk e.symm, fun e => h.map.ne_bk h.st e.symm, h.bk.bk.ne_own h.news (by decide), Bk.ne_own h.st h.news (by decide), h.map.ne_own h.news⟩
  rintro rfl
  have h1 := h.bk.bk
  have h2 := h.st
  unfold Bk at h1
  unfold BkS Bk at h2
  rw [h1] at h2
  simp at h2
theorem RunIn.lt (h : RunIn w B NB g args maxw r sb mb n pA pc_ nv) : g < w.heap.size ∧ sb < w.heap.size ∧ mb < w.heap.size := ⟨h.bk.lt, Bk.lt h.st, h.map.lt⟩
theorem RunIn.pos (h : RunIn w B NB g args maxw r sb mb n pA pc_ nv) : B ≤ w.heap.size := Nat.le_of_lt (Nat.lt_of_le_of_lt h.bg h.lt.1)
/-- New blocks, and draws, turn nothing. -/
theorem RunIn.more (h : RunIn w B NB g args maxw r sb mb n pA pc_ nv) (hg : w.grownBy w' none) : RunIn w' B NB g args maxw r sb mb n pA pc_ nv :=
  ⟨h.bk.grown hg (by simp), Bk.grown h.st hg (by simp), h.map.kept hg (by simp), h.nb, h.news.kept hg (by
    cases hv : nv.ownBlock with
    | none => exact .inl rfl
    | some b => exact .inr (by simp)), h.pick.below ((Below.refl _ _).grown hg h.pos (by simp)), h.pcap, h.bg, h.bs, h.bm, h.roots⟩
/-- The run's own cells turn. -/
theorem RunIn.self (h : RunIn w B NB g args maxw r sb mb n pA pc_ nv) (hg : w.grownBy w' (some g)) {r' : MRun} (hb : BkR w' g (rc sb args maxw (.slice pA r.pick.length pc_) nv r')) (hs : r'.st = r.st) (hn : r'.news = r.news) (hp : r'.pick = r.pick) :
    RunIn w' B NB g args maxw r' sb mb n pA pc_ nv := by
  obtain ⟨n1, n2, n3, n4, n5, n6⟩ := h.ne
  refine ⟨by rw [hp]; exact hb, by rw [hs]; exact Bk.grown h.st hg (by simpa using n1), by rw [hs]; exact h.map.kept hg (by simpa using fun e => n2 e.symm), by rw [hp]; exact h.nb, ?_, ?_, by rw [hp]; exact h.pcap, h.bg, h.bs, h.bm, by rw [hs]; exact h.roots⟩
  · rw [hn]
    exact h.news.kept hg (by
      cases hv : nv.ownBlock with
      | none => exact .inl rfl
      | some b => exact .inr (by rw [← hv]; exact n4))
  · rw [hp]
    exact h.pick.below ((Below.refl _ _).grown hg h.pos (fun k hk => by cases hk; exact h.bg))
/-- The state's cells turn. -/
theorem RunIn.state (h : RunIn w B NB g args maxw r sb mb n pA pc_ nv) (hg : w.grownBy w' (some sb)) {r' : MRun} (hs : BkS w' sb r'.st.roots mb) (hl : r'.st.roots.length = 16) (hb : r'.st.blocks = r.st.blocks)
    (hc : ∀ pv nv, rc sb args maxw pv nv r' = rc sb args maxw pv nv r) (hn : r'.news = r.news) (hp : r'.pick = r.pick) : RunIn w' B NB g args maxw r' sb mb n pA pc_ nv := by
  obtain ⟨n1, n2, n3, n4, n5, n6⟩ := h.ne
  refine ⟨by rw [hp, hc]; exact h.bk.grown hg (by simpa using fun e => n1 e.symm), hs, by rw [hb]; exact h.map.kept hg (by simpa using fun e => n3 e.symm), by rw [hp]; exact h.nb, ?_, ?_, by rw [hp]; exact h.pcap, h.bg, h.bs, h.bm, hl⟩
  · rw [hn]
    exact h.news.kept hg (by
      cases hv : nv.ownBlock with
      | none => exact .inl rfl
      | some b => exact .inr (by rw [← hv]; exact n5))
  · rw [hp]
    exact h.pick.below ((Below.refl _ _).grown hg h.pos (fun k hk => by cases hk; exact h.bs))
theorem RunIn.below (h : RunIn w B NB g args maxw r sb mb n pA pc_ nv) {row : Option Nat} (hg : w.grownBy w' row) (hr : ∀ k, row = some k → B ≤ k) : Below B w w' := (Below.refl _ _).grown hg h.pos hr
end

/-- What is paid for an instruction. -/
def PayIn (B NB g : Nat) (args : List Int) (maxw op : Int) (r : MRun) (sb mb n : Nat) (pA : Option Addr) (pc_ : Nat) (nv : Value) (w : World) (e : Ending) (w' : World) : Prop :=
  ((payP maxw op r = none ∧ e = .returned (.int .i64 42) ∧ RunIn w' B NB g args maxw r sb mb n pA pc_ nv) ∨
    ∃ r', payP maxw op r = some r' ∧ r'.st = r.st ∧ r'.regs = r.regs ∧ r'.news = r.news ∧ r'.pick = r.pick ∧ e = .returned (.int .i64 0) ∧ RunIn w' B NB g args maxw r' sb mb n pA pc_ nv) ∧ w.grownBy w' (some g)
theorem payIn_any (B NB g : Nat) (args : List Int) (maxw op : Int) (r : MRun) (sb mb n : Nat) (pA : Option Addr) (pc_ : Nat) (nv : Value) (w : World) (h : RunIn w B NB g args maxw r sb mb n pA pc_ nv) (hok : ROk maxw r) :
    Calls Try.prog 67 #[.pointer (some ⟨g, 0, none⟩), .int .i64 op] w (PayIn B NB g args maxw op r sb mb n pA pc_ nv w) := by
  refine (pay_any g _ op w h.bk hok.mw hok.w0 hok.w1).mono fun e w' hp => ?_
  obtain ⟨hp1, hg⟩ := hp
  refine ⟨?_, hg⟩
  split at hp1
  · rename_i ht
    have ht : maxw - r.writes < writesOf op := ht
    exact .inl ⟨by rw [payP, if_pos ht], hp1.1, h.self (r' := r) hg hp1.2 rfl rfl rfl⟩
  · rename_i ht
    have ht : ¬ maxw - r.writes < writesOf op := ht
    exact .inr ⟨{ r with writes := r.writes + writesOf op }, by rw [payP, if_neg ht], rfl, rfl, rfl, rfl, hp1.1, h.self (r' := { r with writes := r.writes + writesOf op }) hg hp1.2 rfl rfl rfl⟩

/-- What an instruction of a run comes to. -/
def DoPost (B NB g : Nat) (args : List Int) (maxw : Int) (p : Int × MRun) (w : World) (e : Ending) (w' : World) : Prop :=
  e = .returned (.int .i64 p.1) ∧ RunAt w' B NB g args maxw p.2 ∧ Below B w w'
structure RegsOk (i : Ins) : Prop where
  a : 0 ≤ i.a ∧ i.a < 16
  b : 0 ≤ i.b ∧ i.b < 16
  c : 0 ≤ i.c ∧ i.c < 16

set_option maxRecDepth 100000 in
set_option maxHeartbeats 4000000 in
theorem root_any (B NB g : Nat) (args : List Int) (maxw : Int) (i : Ins) (r : MRun) (sb mb n : Nat) (pA : Option Addr) (pc_ : Nat) (nv : Value) (w : World) (h : RunIn w B NB g args maxw r sb mb n pA pc_ nv) (hok : ROk maxw r) (hi : RegsOk i) (hop : i.op = 9 ∨ i.op = 10) :
    Calls Try.prog 52 #[.pointer (some ⟨g, 0, none⟩), i.v] w (DoPost B NB g args maxw (rootP maxw i r) w) := by
  obtain ⟨op, ia, ib, ic, imm⟩ := i
  obtain ⟨⟨a0, a1⟩, ⟨b0, b1⟩, ⟨c0, c1⟩⟩ := hi
  simp only at a0 a1 b0 b1 c0 c1 hop
  obtain ⟨a, rfl⟩ : ∃ a : Nat, ia = (a : Int) := ⟨ia.toNat, by omega⟩
  obtain ⟨b, rfl⟩ : ∃ b : Nat, ib = (b : Int) := ⟨ib.toNat, by omega⟩
  have ha16 : a < 16 := by omega
  have hb16 : b < 16 := by omega
  obtain ⟨W1, hW1⟩ : ∃ W1, w.alloc (.cells #[.int .i64 op, .int .i64 a, .int .i64 b, .int .i64 ic, .int .u64 imm] 62) = W1 := ⟨_, rfl⟩
  have HG1 : Hid (w.grownBy W1 none) := by show World.grownBy _ _ _; rw [← hW1]; exact World.grownBy_alloc _ _ _
  have hI : Bk W1 w.heap.size 62 #[.int .i64 op, .int .i64 a, .int .i64 b, .int .i64 ic, .int .u64 imm] := by rw [← hW1]; exact Bk.new w _ _
  have HR := Lib.hid (h.more HG1.out)
  have HW1 := Lib.hid hW1
  have HK := Lib.hid hok
  have HP := Lib.hid h.pos
  have HNg : Hid (g ≠ w.heap.size) := fun e => by have := h.lt.1; omega
  have q0 := (hI.cell 0).trans rfl
  have q1 := (hI.cell 1).trans rfl
  have q2 := (hI.cell 2).trans rfl
  have l16 := HR.out.bk.2.2
  obtain ⟨X, hX⟩ : ∃ X, r.regs.getD b 0 = X := ⟨_, rfl⟩
  obtain ⟨Y, hY⟩ : ∃ Y, r.regs.getD a 0 = Y := ⟨_, rfl⟩
  have uX : U64 X := by rw [← hX]; exact getD_u64 hok.regs b
  have kX : W1.cell? ⟨g, 5 + b, none⟩ = some (.int .u64 X) := by rw [← hX]; exact HR.out.bk.reg hb16
  have kY : W1.cell? ⟨g, 5 + a, none⟩ = some (.int .u64 Y) := by rw [← hY]; exact HR.out.bk.reg ha16
  have fA := HR.out.bk.bk.frozen (5 + a)
  have kS : W1.cell? ⟨g, 0, none⟩ = some (.pointer (some ⟨sb, 0, none⟩)) := (HR.out.bk.bk.cell 0).trans rfl
  have HX : Hid (r.reg (b : Int) = X) := hX
  have HY : Hid (r.reg (a : Int) = Y) := hY
  obtain ⟨uX0, uX1⟩ := uX
  clear hW1 hI hX hY h hok l16
  simp only [Ins.v]
  go_enter Try.func52, Try.ntmps52
  go_wp2_with fail
  rw [HW1.out]
  go_quiet (fail)
  by_cases hx : 16 ≤ X
  · have hd : decide (X ≥ 16) = true := decide_eq_true hx
    have hd2 : decide (16 ≤ X) = true := decide_eq_true hx
    go_wp2
    go_ret
    have HE : rootP maxw ⟨op, a, b, ic, imm⟩ r = (44, r) := by rw [rootP, if_pos (by rw [HX.out]; omega)]
    rw [HE]
    exact ⟨rfl, ⟨_, _, _, _, _, _, HR.out.more (grown_drewN _ _ _)⟩, (Below.refl _ _).grown (HG1.out.trans (grown_drewN _ _ _)) HP.out (by simp)⟩
  · have hd : decide (X ≥ 16) = false := decide_eq_false hx
    have hd2 : decide (16 ≤ X) = false := decide_eq_false hx
    obtain ⟨x, rfl⟩ : ∃ x : Nat, X = (x : Int) := ⟨X.toNat, by omega⟩
    have hx16 : x < 16 := by omega
    rcases hop with rfl | rfl
    · obtain ⟨R, hR⟩ : ∃ R, r.st.roots.getD x 0 = R := ⟨_, rfl⟩
      have kR : W1.cell? ⟨sb, x, none⟩ = some (.int .u64 R) := by rw [← hR]; exact HR.out.st.root (by rw [HR.out.roots]; exact hx16)
      have HE : Hid (rootP maxw ⟨9, a, b, ic, imm⟩ r = (0, r.put a R)) := by
        show _ = _
        rw [rootP, if_neg (by rw [HX.out]; omega), if_pos rfl, HX.out, ← hR]; rfl
      clear hR
      go_wp2_with fail
      generalize hW2 : W1.drewN _ = W2
      have HR2 : Hid (RunIn W2 B NB g args maxw r sb mb n pA pc_ nv) := by rw [← hW2]; exact HR.out.more (grown_drewN _ _ _)
      have HG2 : Hid (w.grownBy W2 none) := by show World.grownBy _ _ _; rw [← hW2]; exact HG1.out.trans (grown_drewN _ _ _)
      have r1 : W2.cell? ⟨w.heap.size, 1, none⟩ = some (.int .i64 a) := by rw [← hW2]; exact q1
      have rS : W2.cell? ⟨g, 0, none⟩ = some (.pointer (some ⟨sb, 0, none⟩)) := by rw [← hW2]; exact kS
      have rR : W2.cell? ⟨sb, x, none⟩ = some (.int .u64 R) := by rw [← hW2]; exact kR
      have rA : W2.cell? ⟨g, 5 + a, none⟩ = some (.int .u64 Y) := by rw [← hW2]; exact kY
      have fA2 : W2.frozen? ⟨g, 5 + a, none⟩ = false := by rw [← hW2]; exact fA
      clear hW2 q0 q1 q2 kX kY fA kS kR
      go_still_tail 15, (by kernel_rfl)
      go_wp2
      go_ret
      rw [HE.out]
      have hset := HR2.out.bk.setAny (RC.set_reg HR2.out.bk.2.1 (by rw [HR2.out.bk.2.2]; exact ha16) R) HR2.out.bk.2.1 (by simpa using HR2.out.bk.2.2)
      refine ⟨rfl, ⟨_, _, _, _, _, _, HR2.out.self (r' := r.put a R) ((grown_set _ _ _ _).trans (grown_drew _ _)) hset.drew rfl rfl rfl⟩, (Below.refl _ _).grown (row := some g) (((HG2.out.but _).trans (grown_set _ _ _ _)).trans (grown_drew _ _)) HP.out (fun k hk => by cases hk; exact HR2.out.bg)⟩
    · go_wp2_with fail
      refine (payIn_any B NB g args maxw 10 r sb mb n pA pc_ nv _ (HR.out.more (grown_drewN _ _ _)) HK.out).mono ?_
      intro e W2 hp
      obtain ⟨hp | hp, hg⟩ := hp
      · obtain ⟨hpay, rfl, hr2⟩ := hp
        have HE : Hid (rootP maxw ⟨10, a, b, ic, imm⟩ r = (42, r)) := by
          show _ = _
          rw [rootP, if_neg (by rw [HX.out]; omega), if_neg (by show ¬ (10 : Int) = 9; decide)]
          simp only [hpay]
        have HG2 : Hid (w.grownBy W2 (some g)) := (HG1.out.but _).trans (((grown_drewN _ _ _).but _).trans hg)
        have HR2 := Lib.hid hr2
        clear hg hr2 hpay
        go_wp2
        go_ret
        rw [HE.out]
        exact ⟨rfl, ⟨_, _, _, _, _, _, HR2.out⟩, (Below.refl _ _).grown HG2.out HP.out (fun k hk => by cases hk; exact HR2.out.bg)⟩
      · obtain ⟨r', hpay, es, er, en, ep, rfl, hr2⟩ := hp
        have HE : Hid (rootP maxw ⟨10, a, b, ic, imm⟩ r = (0, { r' with st := { r.st with roots := r.st.roots.set x Y } })) := by
          show _ = _
          rw [rootP, if_neg (by rw [HX.out]; omega), if_neg (by show ¬ (10 : Int) = 9; decide)]
          simp only [hpay, HX.out, HY.out]
          rfl
        have HR2 := Lib.hid hr2
        have HG2 : Hid (w.grownBy W2 (some g)) := (HG1.out.but _).trans (((grown_drewN _ _ _).but _).trans hg)
        have HS := Lib.hid es
        have hlw : w.heap.size < W1.heap.size := World.block_lt_of_cell? _ _ q1
        have hng : g ≠ w.heap.size := HNg.out
        have r1 : W2.cell? ⟨w.heap.size, 1, none⟩ = some (.int .i64 a) := hg.cell (a := ⟨w.heap.size, 1, none⟩) q1 (fun e => hng (Option.some.inj e).symm)
        have rS : W2.cell? ⟨g, 0, none⟩ = some (.pointer (some ⟨sb, 0, none⟩)) := (HR2.out.bk.bk.cell 0).trans rfl
        have rA : W2.cell? ⟨g, 5 + a, none⟩ = some (.int .u64 Y) := by
          have h := HR2.out.bk.reg ha16
          rw [h]; show some (Value.int .u64 (r'.regs.getD a 0)) = _
          rw [er]; exact congrArg (fun z => some (Value.int .u64 z)) HY.out
        have rR : W2.cell? ⟨sb, x, none⟩ = some (.int .u64 (r.st.roots.getD x 0)) := by rw [← es]; exact HR2.out.st.root (by rw [HR2.out.roots]; exact hx16)
        have fR := Bk.frozen HR2.out.st x
        obtain ⟨R, hR⟩ : ∃ R, r.st.roots.getD x 0 = R := ⟨_, rfl⟩
        rw [hR] at rR
        clear q0 q1 q2 kX kY fA kS hpay hg hr2 es er hR hlw hng
        go_wp2_with fail
        go_still_tail 15, (by kernel_rfl)
        go_wp2
        go_ret
        rw [HE.out]
        have hroots : r'.st.roots.length = 16 := HR2.out.roots
        have hst : BkS (W2.setCell ⟨sb, x, none⟩ (.int .u64 Y)) sb (r.st.roots.set x Y) mb := by rw [← HS.out]; exact HR2.out.st.setRoot (by rw [HR2.out.roots]; exact hx16) Y
        exact ⟨rfl, ⟨_, _, _, _, _, _, (HR2.out.state (r' := { r' with st := { r.st with roots := r.st.roots.set x Y } }) ((grown_set _ _ _ _).trans (grown_drew _ _)) hst (by simp [← HS.out, hroots]) (by rw [HS.out]) (fun _ _ => rfl) rfl rfl)⟩, ((Below.refl _ _).grown HG2.out HP.out (fun k hk => by cases hk; exact HR2.out.bg)).trans ((Below.refl _ _).grown ((grown_set _ _ _ _).trans (grown_drew _ _)) HR2.out.pos (fun k hk => by cases hk; exact HR2.out.bs))⟩
end Go.Proofs.Ytjggmimaolddkaa
