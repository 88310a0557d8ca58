/-
  Chapter 3: contract of instr.Uses.
-/
import Derived.Test.YtddaeaimimdonaaCtrA
namespace Go.Proofs.Ytddaeaimimdonaa
open Go.RowKit

def hasL (l : List UInt8) (c : UInt8) : Bool := l.any (· == c)
def othL (l : List UInt8) : Bool := l.any fun c => !(c == 97) && !(c == 98) && !(c == 99)
theorem take_snoc (s : ByteArray) (k : Nat) (h : k < s.size) : s.data.toList.take (k + 1) = s.data.toList.take k ++ [s[k]] := by
  rw [List.take_succ_eq_append_getElem (by simpa using h)]; rfl
theorem hasL_snoc (l : List UInt8) (d c : UInt8) : hasL (l ++ [d]) c = (hasL l c || d == c) := by simp [hasL]
theorem othL_snoc (l : List UInt8) (d : UInt8) : othL (l ++ [d]) = (othL l || (!(d == 97) && !(d == 98) && !(d == 99))) := by simp [othL]
theorem byte_eq (d : UInt8) (k : Nat) (hk : k < 256) : (((d.toNat : Int)) == (k : Int)) = (d == UInt8.ofNat k) := by
  rw [Bool.eq_iff_iff]; simp only [beq_iff_eq]
  constructor
  · intro h
    have h2 : d.toNat = k := by omega
    rw [← h2]; simp
  · intro h
    rw [h]; simp; omega

theorem uses_str (n : Int) (w : World) (s : ByteArray) (hs : fieldsOf n = s) (ha : ∀ i, (h : i < s.size) → (s[i]'h).toNat < 128) :
    Calls Try.prog 76 #[.int .i64 n] w fun e w' => e = .returned (.tuple #[.bool (hasL s.data.toList 97), .bool (hasL s.data.toList 98), .bool (hasL s.data.toList 99), .bool (othL s.data.toList)]) ∧ Below w.heap.size w w' := by
  have H := form_any n w
  rw [hs] at H
  clear hs
  have H := Lib.hid H
  have HA := Lib.hid ha
  clear ha
  go_enter Try.func76, Try.ntmps76
  go_wp2_with (go_at_call 94; refine H.out.mono ?_; rintro e w' ⟨rfl, rfl⟩)
  go_loopw [2, 3, 4, 5] (fun a b c i wr => ∃ p : Nat, p ≤ s.size ∧ wr = w.iter s p ∧ a = .bool (hasL (s.data.toList.take p) 97) ∧ b = .bool (hasL (s.data.toList.take p) 98) ∧ c = .bool (hasL (s.data.toList.take p) 99) ∧ i = .bool (othL (s.data.toList.take p))) (fun _ _ _ _ wr => s.size - wr.iterPos w.heap.size)
  case atStart => exact ⟨0, Nat.zero_le _, rfl, rfl, rfl, rfl, rfl⟩
  case round =>
    obtain ⟨p, hp, rfl, rfl, rfl, rfl, rfl⟩ := hrel
    by_cases hlt : p < s.size
    · have n0 := fun ty => run_next_ascii (P := Try.prog) w s p ty hlt (HA.out p hlt)
      have T := Lib.hid (take_snoc s p hlt)
      generalize hc : s[p]'hlt = c at n0 T
      clear hc
      have e97 := byte_eq c 97 (by omega)
      have e98 := byte_eq c 98 (by omega)
      have e99 := byte_eq c 99 (by omega)
      by_cases h97 : c = 97
      · subst h97
        clear e97 e98 e99
        go_wp2
        go_roundw
        case rel => exact ⟨p + 1, by omega, rfl, by rw [T.out, hasL_snoc]; simp, by rw [T.out, hasL_snoc]; simp, by rw [T.out, hasL_snoc]; simp, by rw [T.out, othL_snoc]; simp⟩
        case measure => simp; omega
      · by_cases h98 : c = 98
        · subst h98
          clear e97 e98 e99 h97
          go_wp2
          go_roundw
          case rel => exact ⟨p + 1, by omega, rfl, by rw [T.out, hasL_snoc]; simp, by rw [T.out, hasL_snoc]; simp, by rw [T.out, hasL_snoc]; simp, by rw [T.out, othL_snoc]; simp⟩
          case measure => simp; omega
        · by_cases h99 : c = 99
          · subst h99
            clear e97 e98 e99 h97 h98
            go_wp2
            go_roundw
            case rel => exact ⟨p + 1, by omega, rfl, by rw [T.out, hasL_snoc]; simp, by rw [T.out, hasL_snoc]; simp, by rw [T.out, hasL_snoc]; simp, by rw [T.out, othL_snoc]; simp⟩
            case measure => simp; omega
          · have f97 : ((c.toNat : Int) == 97) = false := e97.trans (beq_eq_false_iff_ne.2 h97)
            have f98 : ((c.toNat : Int) == 98) = false := e98.trans (beq_eq_false_iff_ne.2 h98)
            have f99 : ((c.toNat : Int) == 99) = false := e99.trans (beq_eq_false_iff_ne.2 h99)
            clear e97 e98 e99
            have H97 := Lib.hid h97
            have H98 := Lib.hid h98
            have H99 := Lib.hid h99
            clear h97 h98 h99
            go_wp2
            go_roundw
            case rel => exact ⟨p + 1, by omega, rfl, by rw [T.out, hasL_snoc]; simp [H97.out], by rw [T.out, hasL_snoc]; simp [H98.out], by rw [T.out, hasL_snoc]; simp [H99.out], by rw [T.out, othL_snoc]; simp [H97.out, H98.out, H99.out]⟩
            case measure => simp; omega
    · have n0 := fun ty => run_next_end (P := Try.prog) w s p ty hlt
      go_wp2
      obtain rfl : p = s.size := by omega
      have ht : s.data.toList.take s.size = s.data.toList := List.take_of_length_le (by simp)
      refine bodyPost_ret (results_tmp4 rfl _ _ _) rfl ?_
      refine ⟨?_, (Below.refl _ _).alloc (Nat.le_refl _) _⟩
      simp [ht]
theorem uses_any (n : Int) (w : World) :
    Calls Try.prog 76 #[.int .i64 n] w fun e w' => e = .returned (.tuple #[.bool (decide (0 < regsOf n)), .bool (decide (1 < regsOf n)), .bool (decide (2 < regsOf n)), .bool (immOf n)]) ∧ Below w.heap.size w w' := by
  by_cases hn : 0 ≤ n ∧ n ≤ 21
  · obtain ⟨h1, h2⟩ := hn
    obtain rfl | rfl | rfl | rfl | rfl | rfl | rfl | rfl | rfl | rfl | rfl | rfl | rfl | rfl | rfl | rfl | rfl | rfl | rfl | rfl | rfl | rfl : n = 0 ∨ n = 1 ∨ n = 2 ∨ n = 3 ∨ n = 4 ∨ n = 5 ∨ n = 6 ∨ n = 7 ∨ n = 8 ∨ n = 9 ∨ n = 10 ∨ n = 11 ∨ n = 12 ∨ n = 13 ∨ n = 14 ∨ n = 15 ∨ n = 16 ∨ n = 17 ∨ n = 18 ∨ n = 19 ∨ n = 20 ∨ n = 21 := by omega
    all_goals exact uses_str _ w _ rfl (by decide)
  · have h := uses_str n w ⟨#[]⟩ (fieldsOf_out (by omega)) (by decide)
    have e1 : regsOf n = 0 := by unfold regsOf; rw [if_neg (by omega), if_neg (by omega), if_pos (by omega)]
    have e2 : immOf n = false := by unfold immOf; exact decide_eq_false (by omega)
    rw [e1, e2]
    exact h
end Go.Proofs.Ytddaeaimimdonaa
