/-
  Chapter 3: contract of tumblerref03.All: are all instructions plain?
-/
import Derived.Test.YtkkbgpfimapnoaaCtrE
namespace Go.Proofs.Ytkkbgpfimapnoaa
open Go.RowKit
set_option linter.unusedVariables false

def Ins.plain (i : Ins) : Bool := plainB i.op i.a i.b i.c i.imm

theorem all_any (l : List Ins) (A : Option Addr) (n c : Nat) (w : World) (hr : RdI w w.heap.size A n l) :
    Calls Try.prog 41 #[.slice A n c] w fun e w' => e = .returned (.bool (l.all Ins.plain)) ∧ Below w.heap.size w w' := by
  have h63 := hr.le
  have hlen := hr.insLen
  have HR := Lib.hid hr
  clear hr
  unfold maxLen at h63
  have HL := Lib.hid hlen
  clear hlen
  go_enter Try.func41, Try.ntmps41
  go_wp2
  go_loopw [3] (fun i wr => ∃ k : Nat, k ≤ n ∧ i = .int .i64 k ∧ Below w.heap.size w wr ∧ Hid (∀ j i, j < k → l[j]? = some i → i.plain = true)) (fun i wr => n - (intOf i).toNat)
  case atStart => exact ⟨0, by omega, rfl, Below.refl _ _, fun j i hj => by omega⟩
  case round =>
    obtain ⟨k, hk, rfl, hb, hall⟩ := hrel
    have HB := Lib.hid hb
    clear hb
    by_cases hlt : k < n
    · obtain ⟨b, o, i, rfl, hbB, hi, c0, c1, c2, c3, c4⟩ := (HR.out.below HB.out).insAt hlt
      have HI := Lib.hid hi
      clear hi
      cases hp : plainB i.op i.a i.b i.c i.imm
      · have E : Hid (l.all Ins.plain = false) := List.all_eq_false.2 ⟨i, List.mem_of_getElem? HI.out, by simp [Ins.plain, hp]⟩
        go_wp2_with (go_at_call 26; refine (rplain_any _ _ _ _ _ _).mono ?_; rintro e w1 ⟨rfl, hb1⟩)
        go_ret
        exact ⟨ret_bool E.out.symm, HB.out.trans (hb1.mono HB.out.size)⟩
      · have hn : Hid (∀ j i, j < k + 1 → l[j]? = some i → i.plain = true) := fun j i' hj hi => by
          rcases Nat.lt_or_ge j k with h | h
          · exact hall.out j i' h hi
          · obtain rfl : j = k := by omega
            have e := HI.out
            rw [hi] at e
            obtain rfl : i' = i := by simpa using e
            exact hp
        go_wp2_with (go_at_call 26; refine (rplain_any _ _ _ _ _ _).mono ?_; rintro e w1 ⟨rfl, hb1⟩)
        go_roundw
        case rel => exact ⟨k + 1, by omega, by go_num, HB.out.trans (hb1.mono HB.out.size), hn⟩
        case measure => simp [intOf]; omega
    · obtain rfl : k = n := by omega
      have E : Hid (l.all Ins.plain = true) := List.all_eq_true.2 fun i hi => by
        obtain ⟨j, hj, e⟩ := List.getElem_of_mem hi
        exact hall.out j i (by rw [← HL.out]; exact hj) (by rw [List.getElem?_eq_getElem hj, e])
      go_wp2
      go_ret
      exact ⟨ret_bool E.out.symm, HB.out⟩
end Go.Proofs.Ytkkbgpfimapnoaa
