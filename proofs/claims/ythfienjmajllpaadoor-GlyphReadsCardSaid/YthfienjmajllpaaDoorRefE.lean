/-
  Chapter 2: contract of tumblerlaw02.exact, on equal lists.
-/
import Derived.Test.YthfienjmajllpaaDoorRefD
import Derived.Test.YthfienjmajllpaaDoorGlyK
namespace Go.Proofs.YthfienjmajllpaaDoor
open Go.RowKit
set_option linter.unusedVariables false

set_option maxRecDepth 100000 in
set_option maxHeartbeats 4000000 in
theorem exact_any (l : List Tok) (A A' : Option Addr) (n c c' : Nat) (w : World) (hl : RdT w w.heap.size A n l) (hr : RdT w w.heap.size A' n l) (h48 : n ≤ 1000000) :
    Calls Tryd.prog 16 #[.slice A n c, .slice A' n c'] w fun e w' => e = .returned (.bool true) ∧ Below w.heap.size w w' := by
  have HL := Lib.hid hl
  have HR := Lib.hid hr
  clear hl hr
  go_enter Tryd.func16, Tryd.ntmps16
  go_wp2
  go_loopw [5, 6, 14] (fun _i _t k wr => ∃ j : Nat, (j ≤ n ∧ k = .int .i64 j) ∧ Below w.heap.size w wr) (fun _ _ k _ => n - (intOf k).toNat)
  case atStart => exact ⟨0, ⟨by omega, rfl⟩, Below.refl _ _⟩
  case round =>
    obtain ⟨j, ⟨hj, rfl⟩, hb⟩ := hrel
    have HB := Lib.hid hb
    have hsz := hb.size
    clear hb
    by_cases hlt : j < n
    · obtain ⟨b, o, x, rfl, hbB, hx, c0, c1, c2, c3, c4⟩ := (HL.out.below HB.out).tokAt hlt
      obtain ⟨kind, text, num, at_, line⟩ := x
      have HB2 := Lib.hid (HB.out.alloc hsz (.cells #[.int .i64 kind, .string text, .int .u64 num, .int .i64 at_, .int .i64 line] 37))
      obtain ⟨b', o', y, rfl, hbB', hy, d0, d1, d2, d3, d4⟩ := (HR.out.below HB2.out).tokAt hlt
      rw [hx] at hy
      obtain rfl := Option.some.inj hy
      clear hx hy
      simp only at c0 c1 c2 c3 c4 d0 d1 d2 d3 d4
      go_wp2
      go_quiet (fail)
      go_wp2
      go_roundw
      case rel => exact ⟨j + 1, ⟨by omega, by go_num⟩, below_drewN HB2.out _⟩
      case measure => simp [intOf]; omega
    · obtain rfl : j = n := by omega
      go_wp2
      go_ret
      exact ⟨rfl, HB.out⟩
end Go.Proofs.YthfienjmajllpaaDoor
