/-
  Chapter 5: the first fault of a program: the document's answer.
-/
import Derived.Test.YtddaeaimimdonaaChkD
namespace Go.Proofs.Ytddaeaimimdonaa
open Go.RowKit
set_option linter.unusedVariables false

set_option maxHeartbeats 4000000 in
theorem rfault_any (l : List Ins) (A : Option Addr) (n c : Nat) (w : World) (hr : RdI w w.heap.size A n l) (hok : ∀ i ∈ l, i.Ok) :
    Calls Try.prog 41 #[.slice A n c] w (FaultPost l w) := by
  have h63 := hr.le
  unfold maxLen at h63
  have hl := hr.insLen
  rcases Nat.eq_zero_or_pos n with h0 | h0
  · subst h0
    have E : Hid (faultP l = (0, 4)) := by show _ = _; rw [faultP, if_pos hl]
    clear hr hok hl
    go_enter Try.func41, Try.ntmps41
    go_wp2
    go_ret2
    exact ⟨by rw [E.out]; rfl, Below.refl _ _⟩
  · by_cases h256 : 256 < n
    · have E : Hid (faultP l = (256, 3)) := by show _ = _; rw [faultP, if_neg (by omega), if_pos (by omega)]
      have hne : ((n : Int) == 0) = false := by rw [beq_eq_false_iff_ne]; omega
      clear hr hok hl
      go_enter Try.func41, Try.ntmps41
      go_wp2
      go_ret2
      exact ⟨by rw [E.out]; rfl, Below.refl _ _⟩
    · obtain ⟨p, hnp⟩ : ∃ p, n = p + 1 := ⟨n - 1, by omega⟩
      have hp256 : p ≤ 255 := by omega
      have hn1 : 0 < n := h0
      have hn256 : n ≤ 256 := by omega
      have hne : ((n : Int) == 0) = false := by rw [beq_eq_false_iff_ne]; omega
      have HP := Lib.hid hnp
      clear hnp
      have HL := Lib.hid hl
      have HR := Lib.hid hr
      have HK := Lib.hid hok
      clear hr hok hl h256 h0 h63
      go_enter Try.func41, Try.ntmps41
      go_wp2
      go_loopw [4] (fun k wr => ∃ j : Nat, j ≤ n ∧ k = .int .i64 j ∧ Below w.heap.size w wr ∧ Hid (∀ q, q < j → oneAt l q = 0)) (fun k _ => n - (intOf k).toNat)
      case atStart => exact ⟨0, by omega, rfl, Below.refl _ _, fun q hq => by omega⟩
      case round =>
        obtain ⟨k, hk, rfl, hb, hall⟩ := hrel
        have HB := Lib.hid hb
        clear hb
        by_cases hlt : k < n
        · obtain ⟨i, hi⟩ : ∃ i, l[k]? = some i := ⟨l[k]'(by rw [HL.out]; exact hlt), List.getElem?_eq_getElem _⟩
          have HA : Hid (oneE n k i = oneAt l k) := by show _ = _; rw [oneAt, hi, HL.out]
          have hcall := rone_any l A n c wr ((HR.out.below HB.out).more HB.out.size) k hlt i hi (HK.out i (List.mem_of_getElem? hi))
          rw [HA.out] at hcall
          have HC := Lib.hid hcall
          clear hcall
          clear hi HA
          cases hz : (oneAt l k == 0)
          · have hz2 : (oneAt l k != 0) = true := by simpa using hz
            have E : Hid (faultP l = ((k : Int), oneAt l k)) := by
              show _ = _
              rw [faultP_bad HL.out (by omega) hlt hall.out (by simpa using hz)]
            generalize oneAt l k = x at *
            go_wp2_with fail
            refine HC.out.mono ?_
            rintro e w1 ⟨rfl, hb1⟩
            go_wp2
            go_ret2
            exact ⟨by rw [E.out]; rfl, HB.out.trans (hb1.mono HB.out.size)⟩
          · have hz1 : oneAt l k = 0 := by simpa using hz
            have hn : Hid (∀ q, q < k + 1 → oneAt l q = 0) := fun q hq => by
              rcases Nat.lt_or_ge q k with h | h
              · exact hall.out q h
              · obtain rfl : q = k := by omega
                exact hz1
            rw [hz1] at HC
            clear hz hz1
            go_wp2_with fail
            refine HC.out.mono ?_
            rintro e w1 ⟨rfl, hb1⟩
            go_wp2
            go_roundw
            case rel => exact ⟨k + 1, by omega, by go_num, HB.out.trans (hb1.mono HB.out.size), hn⟩
            case measure => simp [intOf]; omega
        · obtain rfl : k = n := by omega
          have hpn : p < k := by have := HP.out; omega
          have hpe : (k : Int) - 1 = (p : Int) := by have := HP.out; omega
          obtain ⟨b0, o0, i, rfl, hbB, hi, c0, c1, c2, c3, c4⟩ := (HR.out.below HB.out).insAt (k := p) (by omega)
          have E := Lib.hid (faultP_end (HL.out.trans HP.out) (by omega) (by rw [← HP.out]; exact hall.out) hi)
          clear hi c1 c2 c3 c4
          by_cases h20 : i.op = 20
          · rw [h20] at c0 E
            clear h20
            go_wp2
            go_ret2
            exact ⟨by rw [E.out]; rfl, HB.out⟩
          · by_cases h21 : i.op = 21
            · rw [h21] at c0 E
              clear h20 h21
              go_wp2
              go_ret2
              exact ⟨by rw [E.out]; rfl, HB.out⟩
            · have e20 : (i.op != 20) = true := by simpa using h20
              have e21 : (i.op != 21) = true := by simpa using h21
              have he : endsB i.op = false := by simp [endsB, h20, h21]
              rw [he] at E
              clear h20 h21 he
              go_wp2
              go_ret2
              exact ⟨by rw [E.out]; rfl, HB.out⟩
end Go.Proofs.Ytddaeaimimdonaa
