/-
  Chapter 25: a world of nothing: contracts of object.New and (*object.World).At there.
-/
import Derived.Test.YthklmcpjlpaklaaDoorRepG
import Derived.Test.YthklmcpjlpaklaaDoorRepH
namespace Go.Proofs.YthklmcpjlpaklaaDoor
open Go.RowKit
set_option linter.unusedVariables false

/-- The cells of a world of nothing: sixteen things of three pointers each. -/
def noThings : Array Value := Array.replicate 48 (.pointer none)
set_option maxRecDepth 100000 in
set_option maxHeartbeats 4000000 in
theorem new_any (w : World) : Calls Tryd.prog 17 #[] w fun e w' => e = .returned (.pointer (some ⟨w.heap.size, 0, none⟩)) ∧ w' = w.alloc (.cells noThings 98) := by
  go_enter Tryd.func17, Tryd.ntmps17
  go_wp2
  go_ret
  exact ⟨rfl, rfl⟩
set_option maxRecDepth 100000 in
set_option maxHeartbeats 4000000 in
theorem at_none (g k : Nat) (w : World) (hk : k < 16) (hg : g < w.heap.size) (hc : ∀ i, i < 48 → w.cell? ⟨g, i, none⟩ = some (.pointer none)) :
    Calls Tryd.prog 35 #[.pointer (some ⟨g, 0, none⟩), .int .i64 k] w fun e w' => e = .returned (.agg #[.pointer none, .pointer none, .pointer none]) ∧ Below w.heap.size w w' := by
  have h0 := hc (k * 3) (by omega)
  have h1 := hc (k * 3 + 1) (by omega)
  have h2 := hc (k * 3 + 2) (by omega)
  clear hc
  go_enter Tryd.func35, Tryd.ntmps35
  go_wp2
  refine ⟨rfl, .agg #[.pointer none, .pointer none, .pointer none], ?_, rfl, (Below.refl _ _).alloc (Nat.le_refl _) _⟩
  simp [results, Tryd.results35, go_sem]
end Go.Proofs.YthklmcpjlpaklaaDoor
