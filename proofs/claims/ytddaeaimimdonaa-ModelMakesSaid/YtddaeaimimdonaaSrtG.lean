/-
  slices.Sort at []uint64. Printed by gen/sortturn.py.
-/
import Derived.Test.YtddaeaimimdonaaSrtA
import Derived.Test.YtddaeaimimdonaaSrtB
import Derived.Test.YtddaeaimimdonaaSrtC
import Derived.Test.YtddaeaimimdonaaSrtC4
import Derived.Test.YtddaeaimimdonaaSrtD
import Derived.Test.YtddaeaimimdonaaSrtE
import Derived.Test.YtddaeaimimdonaaSrtF
import Derived.Sort.AssemblyPlain
import Derived.Sort.WalkA14
namespace Go.Proofs.Ytddaeaimimdonaa
open Go.Sort Go.RowKit
set_option linter.unusedVariables false

def pdqWalk_u64 : Prop := ∀ (blk off cap a b limit : Nat) (d : Array Int) (w : World), Holds (Value.int .u64) w blk off d → blk < w.heap.size → a ≤ b → b ≤ d.size → d.size < 4611686018427387904 → limit < 4611686018427387904 → Below ltInt a b d →
  Calls Try.prog 72 #[.slice (some ⟨blk, off, none⟩) d.size cap, .int .i64 a, .int .i64 b, .int .i64 limit] w fun e w' =>
    e = .returned (.tuple #[]) ∧ ∃ n os, w' = grow (putRow (Value.int .u64) (Sort.ahead w n) blk off (Sort.pdq ltInt d a b limit true true)) os
set_option maxRecDepth 100000 in
theorem srt_Sort_u64 (hpdq : pdqWalk_u64) (blk off cap : Nat) (d : Array Int) (w : World) (hH : Holds (Value.int .u64) w blk off d) (hblk : blk < w.heap.size) (hsz : d.size < 4611686018427387904) :
    Calls Try.prog 58 #[.slice (some ⟨blk, off, none⟩) d.size cap] w fun e w' => e = .returned (.tuple #[]) ∧ ∃ n os, w' = grow (putRow (Value.int .u64) (Sort.ahead w n) blk off (Sort.sort ltInt d)) os := by
  have HH : Hid (Holds (Value.int .u64) w blk off d) := hH
  clear hH
  have hLen : ∀ w, Calls Try.prog 73 #[.int .u64 (d.size : Int)] w fun e w' => e = .returned (.int .i64 (bitsLen d.size : Nat)) ∧ w' = w := fun w => by
    have h := Try.bits_Len (d.size : Int) w (by omega) (by omega)
    rwa [Int.toNat_natCast, bitLen_eq _ (by omega)] at h
  have hk : bitsLen d.size ≤ 62 := (bitsLen_le_iff d.size 62).2 (by omega)
  go_enter Try.func58, Try.ntmps58
  go_wp2_with (first
    | (go_at_call 73; refine (hLen _).mono ?_; rintro e w' ⟨rfl, rfl⟩)
    | (go_at_call 72; refine (hpdq blk off cap 0 d.size (bitsLen d.size) d _ (by exact HH.out) (by exact hblk) (Nat.zero_le _) (Nat.le_refl _) hsz (by omega) (Or.inl rfl)).mono ?_; rintro e w' ⟨rfl, n, os, rfl⟩))
  go_end0
  exact ⟨rfl, n, os, rfl⟩
theorem callees13U : Callees13U where
  ins := srt_insertionSort_u64
  brk := srt_breakPatterns_u64
  piv := srt_choosePivot_u64
  par := srt_partialInsertionSort_u64
  peq := srt_partitionEqualOrdered_u64
  prt := srt_partitionOrdered_u64
theorem plain13U : Plain13 where
  swo := swo_ltInt
  ins := insertionSort_holds
  par := partialInsertionSort_holds
  prt := partition_holds _
  peq := partitionEqual_holds _
  pdq := pdq_sorts _
theorem pdqWalkU : pdqWalk_u64 := fun blk off cap a b limit d w hH hb hab hbd hsz hl hB =>
  srt_pdqsort_u64 callees13U plain13U (b - a + 1) blk off cap a b limit d w (by omega) hH hb hab hbd hsz hl hB
/-- slices.Sort at []uint64, whatever its length: the cells then hold the sorted list; else nothing turns but draws and new blocks. -/
theorem srt_Sort (blk off cap : Nat) (zs : List Int) (w : World) (hH : Holds (Value.int .u64) w blk off zs.toArray) (hblk : blk < w.heap.size) (hsz : zs.length < 4611686018427387904) :
    Calls Try.prog 58 #[.slice (some ⟨blk, off, none⟩) zs.length cap] w fun e w' =>
      e = .returned (.tuple #[]) ∧ ∃ n os, w' = grow (putRow (Value.int .u64) (Sort.ahead w n) blk off (zs.mergeSort fun x y => decide (x ≤ y)).toArray) os := by
  have h := srt_Sort_u64 pdqWalkU blk off cap zs.toArray w hH hblk (by simpa using hsz)
  rw [← sortInt zs]
  simpa using h

end Go.Proofs.Ytddaeaimimdonaa
