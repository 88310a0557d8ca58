/-
  Chapter 5: the first fault of a program: contracts of check.Fault, tumblerref05.Fault.
-/
import Derived.Test.YtddaeaimimdonaaChkB
import Derived.Test.YtddaeaimimdonaaChkC
namespace Go.Proofs.Ytddaeaimimdonaa
open Go.RowKit
set_option linter.unusedVariables false

def oneAt (l : List Ins) (k : Nat) : Int := match l[k]? with
  | some i => oneE l.length k i
  | none => 0
def lastEnds (l : List Ins) : Bool := match l[l.length - 1]? with
  | some i => endsB i.op
  | none => false
/-- The first instruction that isn't right, and what is wrong. -/
def faultP (l : List Ins) : Int × Int :=
  if l.length = 0 then (0, 4) else if 256 < l.length then (256, 3)
  else match (List.range l.length).find? fun k => oneAt l k != 0 with
    | some k => ((k : Int), oneAt l k)
    | none => if lastEnds l then (0, 0) else ((l.length : Int) - 1, 30)
def FaultPost (l : List Ins) (w : World) (e : Ending) (w' : World) : Prop :=
  e = .returned (.tuple #[.int .i64 (faultP l).1, .int .i64 (faultP l).2]) ∧ Below w.heap.size w w'
theorem faultP_bad {l : List Ins} {n k : Nat} (hl : l.length = n) (h256 : n ≤ 256) (hk : k < n) (hall : ∀ q, q < k → oneAt l q = 0) (hz : oneAt l k ≠ 0) : faultP l = ((k : Int), oneAt l k) := by
  have hf : (List.range l.length).find? (fun k => oneAt l k != 0) = some k := by
    rw [List.find?_range_eq_some]
    exact ⟨by simpa using hz, by simpa [hl] using hk, fun j hj => by simp [hall j hj]⟩
  rw [faultP, if_neg (by omega), if_neg (by omega), hf]
theorem faultP_end {l : List Ins} {p : Nat} {i : Ins} (hl : l.length = p + 1) (h256 : p ≤ 255) (hall : ∀ q, q < p + 1 → oneAt l q = 0) (hi : l[p]? = some i) : faultP l = if endsB i.op then (0, 0) else ((p : Int), 30) := by
  have hf : (List.range l.length).find? (fun k => oneAt l k != 0) = none := by
    rw [List.find?_eq_none]
    intro x hx
    have := hall x (by simpa [hl] using hx)
    simp [this]
  have he : lastEnds l = endsB i.op := by rw [lastEnds, hl, Nat.add_sub_cancel, hi]
  rw [faultP, if_neg (by omega), if_neg (by omega), hf, he, hl]
  simp

set_option maxHeartbeats 4000000 in
theorem fault_any (l : List Ins) (A : Option Addr) (n c : Nat) (w : World) (hr : RdI w w.heap.size A n l) (hok : ∀ i ∈ l, i.Ok) :
    Calls Try.prog 35 #[.slice A n c] w (FaultPost l w) := by
  have h63 := hr.le
  unfold maxLen at h63
  have hl := hr.insLen
  rcases Nat.eq_zero_or_pos n with h0 | h0
  · subst h0
    have E : Hid (faultP l = (0, 4)) := by show _ = _; rw [faultP, if_pos hl]
    clear hr hok hl
    go_enter Try.func35, Try.ntmps35
    go_wp2
    go_ret2
    exact ⟨by rw [E.out]; rfl, Below.refl _ _⟩
  · by_cases h256 : 256 < n
    · have E : Hid (faultP l = (256, 3)) := by show _ = _; rw [faultP, if_neg (by omega), if_pos (by omega)]
      have hne : ((n : Int) == 0) = false := by rw [beq_eq_false_iff_ne]; omega
      clear hr hok hl
      go_enter Try.func35, Try.ntmps35
      go_wp2
      go_ret2
      exact ⟨by rw [E.out]; rfl, Below.refl _ _⟩
    · obtain ⟨p, hnp⟩ : ∃ p, n = p + 1 := ⟨n - 1, by omega⟩
      have hp256 : p ≤ 255 := by omega
      have hn1 : 0 < n := h0
      have hn256 : n ≤ 256 := by omega
      have hne : ((n : Int) == 0) = false := by rw [beq_eq_false_iff_ne]; omega
      have HP := Lib.hid hnp
      clear hnp
      have HL := Lib.hid hl
      have HR := Lib.hid hr
      have HK := Lib.hid hok
      clear hr hok hl h256 h0 h63
      go_enter Try.func35, Try.ntmps35
      go_wp2
      go_loopw [17] (fun k wr => ∃ j : Nat, j ≤ n ∧ k = .int .i64 j ∧ Below w.heap.size w wr ∧ Hid (∀ q, q < j → oneAt l q = 0)) (fun k _ => n - (intOf k).toNat)
      case atStart => exact ⟨0, by omega, rfl, Below.refl _ _, fun q hq => by omega⟩
      case round =>
        obtain ⟨k, hk, rfl, hb, hall⟩ := hrel
        have HB := Lib.hid hb
        clear hb
        by_cases hlt : k < n
        · obtain ⟨i, hi⟩ : ∃ i, l[k]? = some i := ⟨l[k]'(by rw [HL.out]; exact hlt), List.getElem?_eq_getElem _⟩
          have HA : Hid (oneE n k i = oneAt l k) := by show _ = _; rw [oneAt, hi, HL.out]
          have hcall := one_any l A n c wr ((HR.out.below HB.out).more HB.out.size) k hlt i hi (HK.out i (List.mem_of_getElem? hi))
          rw [HA.out] at hcall
          have HC := Lib.hid hcall
          clear hcall
          clear hi HA
          cases hz : (oneAt l k == 0)
          · have hz2 : (oneAt l k != 0) = true := by simpa using hz
            have E : Hid (faultP l = ((k : Int), oneAt l k)) := by
              show _ = _
              rw [faultP_bad HL.out (by omega) hlt hall.out (by simpa using hz)]
            generalize oneAt l k = x at *
            go_wp2_with fail
            refine HC.out.mono ?_
            rintro e w1 ⟨rfl, hb1⟩
            go_wp2
            go_ret2
            exact ⟨by rw [E.out]; rfl, HB.out.trans (hb1.mono HB.out.size)⟩
          · have hz1 : oneAt l k = 0 := by simpa using hz
            have hn : Hid (∀ q, q < k + 1 → oneAt l q = 0) := fun q hq => by
              rcases Nat.lt_or_ge q k with h | h
              · exact hall.out q h
              · obtain rfl : q = k := by omega
                exact hz1
            rw [hz1] at HC
            clear hz hz1
            go_wp2_with fail
            refine HC.out.mono ?_
            rintro e w1 ⟨rfl, hb1⟩
            go_wp2
            go_roundw
            case rel => exact ⟨k + 1, by omega, by go_num, HB.out.trans (hb1.mono HB.out.size), hn⟩
            case measure => simp [intOf]; omega
        · obtain rfl : k = n := by omega
          have hpn : p < k := by have := HP.out; omega
          have hpe : (k : Int) - 1 = (p : Int) := by have := HP.out; omega
          obtain ⟨b0, o0, i, rfl, hbB, hi, c0, c1, c2, c3, c4⟩ := (HR.out.below HB.out).insAt (k := p) (by omega)
          have E := Lib.hid (faultP_end (HL.out.trans HP.out) (by omega) (by rw [← HP.out]; exact hall.out) hi)
          clear hi c1 c2 c3 c4
          cases he : endsB i.op
          · rw [he] at E
            go_wp2_with fail
            refine (ends_any _ _).mono ?_
            rintro e w1 ⟨rfl, rfl⟩
            rw [he]
            go_wp2
            go_ret2
            exact ⟨by rw [E.out]; rfl, HB.out⟩
          · rw [he] at E
            go_wp2_with fail
            refine (ends_any _ _).mono ?_
            rintro e w1 ⟨rfl, rfl⟩
            rw [he]
            go_wp2
            go_ret2
            exact ⟨by rw [E.out]; rfl, HB.out⟩
end Go.Proofs.Ytddaeaimimdonaa
