/-
  Chapter 25: contract of tumblerlaw25.alive: the walk.
-/
import Derived.Test.YthklmcpjlpaklaaDoorRepJ
import Derived.Test.YthklmcpjlpaklaaDoorRepQ
namespace Go.Proofs.YthklmcpjlpaklaaDoor
open Go.RowKit
set_option linter.unusedVariables false

set_option maxRecDepth 100000 in
set_option maxHeartbeats 8000000 in
theorem alive_any (w : World) (htab : PowTab w) : Calls Tryd.prog 6 #[] w fun e w' => e = .returned (.bool true) ∧ Below w.heap.size w w' := by
  have HT := Lib.hid htab
  clear htab
  go_enter Tryd.func6, Tryd.ntmps6
  go_wp2_with fail
  refine (new_any _).mono ?_
  rintro e W1 ⟨rfl, rfl⟩
  go_wp2_with fail
  obtain ⟨X3, hX3⟩ : ∃ X3, ((w.alloc (.cells #[.int .i64 1, .int .i64 2, .int .i64 0, .int .u64 7, .int .u64 0, .int .u64 0, .int .u64 0, .int .i64 3, .int .i64 9, .int .i64 5, .bool true, .int .i64 40, .int .u64 4] 31)).alloc (.cells noThings 98)).alloc (.cells #[.string ⟨#[111, 110, 101]⟩] 9) = X3 := ⟨_, rfl⟩
  have HB3 : Hid (Below w.heap.size w X3) := by
    show Below _ _ _
    rw [← hX3]
    exact (((Below.refl _ _).alloc (Nat.le_refl _) _).alloc (by simp) _).alloc (by simp; omega) _
  have HBW : Hid (Bk X3 (w.heap.size + 1) 98 noThings) := by
    show Bk _ _ _ _
    rw [← hX3]
    have := (Bk.new (w.alloc (.cells #[.int .i64 1, .int .i64 2, .int .i64 0, .int .u64 7, .int .u64 0, .int .u64 0, .int .u64 0, .int .i64 3, .int .i64 9, .int .i64 5, .bool true, .int .i64 40, .int .u64 4] 31)) 98 noThings).alloc (.cells #[.string ⟨#[111, 110, 101]⟩] 9)
    simpa using this
  have HRs : Hid (RdS X3 X3.heap.size (some ⟨w.heap.size + 1 + 1, 0, none⟩) 1 [⟨#[111, 110, 101]⟩]) := by
    show RdS _ _ _ _ _
    rw [← hX3]
    have := Rd.newAt ((w.alloc (.cells #[.int .i64 1, .int .i64 2, .int .i64 0, .int .u64 7, .int .u64 0, .int .u64 0, .int .u64 0, .int .i64 3, .int .i64 9, .int .i64 5, .bool true, .int .i64 40, .int .u64 4] 31)).alloc (.cells noThings 98)) #[.string ⟨#[111, 110, 101]⟩] 9 (w.heap.size + 1 + 1) (by simp) (size := 1) (m := 1) rfl (by simp [maxLen])
    exact this.more (by simp)
  rw [hX3]
  clear hX3
  refine (record_any [⟨#[111, 110, 101]⟩] _ 1 1 aRec _ HRs.out ⟨by decide, by decide, by decide, by decide, by decide, by decide, by decide, by decide, by decide, by decide, by decide, by decide⟩ (by decide) (by decide) (HT.out.below HB3.out)).mono ?_
  rintro e X4 ⟨rfl, hb4⟩
  rw [aRecord]
  have HB4 := Lib.hid (HB3.out.trans (hb4.mono HB3.out.size))
  have HBW4 := Lib.hid (HBW.out.below hb4 HBW.out.lt)
  clear hb4 HBW
  go_wp2_with fail
  have HBX : Hid (Bk ((X4.alloc (.cells #[.int .u64 1, .int .u64 2] 23)).alloc (.cells #[.int .u64 5, .slice (some ⟨X4.heap.size, 0, none⟩) 2 2] 57)) (X4.heap.size + 1) 57 #[.int .u64 5, .slice (some ⟨X4.heap.size, 0, none⟩) 2 2]) := by
    show Bk _ _ _ _
    have := Bk.new (X4.alloc (.cells #[.int .u64 1, .int .u64 2] 23)) 57 #[.int .u64 5, .slice (some ⟨X4.heap.size, 0, none⟩) 2 2]
    simpa using this
  have HB5 : Hid (Below w.heap.size w ((X4.alloc (.cells #[.int .u64 1, .int .u64 2] 23)).alloc (.cells #[.int .u64 5, .slice (some ⟨X4.heap.size, 0, none⟩) 2 2] 57))) := (HB4.out.alloc HB4.out.size _).alloc (by have := HB4.out.size; simp; omega) _
  have HBW5 : Hid (Bk ((X4.alloc (.cells #[.int .u64 1, .int .u64 2] 23)).alloc (.cells #[.int .u64 5, .slice (some ⟨X4.heap.size, 0, none⟩) 2 2] 57)) (w.heap.size + 1) 98 noThings) := (HBW4.out.alloc _).alloc _
  have HRu : Hid (RdU ((X4.alloc (.cells #[.int .u64 1, .int .u64 2] 23)).alloc (.cells #[.int .u64 5, .slice (some ⟨X4.heap.size, 0, none⟩) 2 2] 57)) (X4.heap.size + 1) (some ⟨X4.heap.size, 0, none⟩) 2 [1, 2]) := by
    have := Rd.newAt X4 #[.int .u64 1, .int .u64 2] 23 X4.heap.size rfl (size := 1) (m := 2) rfl (by simp [maxLen])
    exact this.below ((Below.refl _ _).alloc (by simp) _)
  obtain ⟨X5, hX5⟩ : ∃ X5, (X4.alloc (.cells #[.int .u64 1, .int .u64 2] 23)).alloc (.cells #[.int .u64 5, .slice (some ⟨X4.heap.size, 0, none⟩) 2 2] 57) = X5 := ⟨_, rfl⟩
  rw [hX5] at HBX HB5 HBW5 HRu ⊢
  clear hX5 HBW4
  refine (thing_queue 3 5 [1, 2] (X4.heap.size + 1) _ 2 2 _ HBX.out.lt (by rw [HBX.out.cell]; rfl) (by rw [HBX.out.cell]; rfl) (HRu.out.more (Nat.le_of_lt HBX.out.lt)) (by decide) (by decide) (by decide) (by decide) (by decide) (by decide) (HT.out.below HB5.out)).mono ?_
  rintro e X6 ⟨rfl, hb6⟩
  rw [aThing]
  have HB6 := Lib.hid (HB5.out.trans (hb6.mono HB5.out.size))
  have HBW6 := Lib.hid (HBW5.out.below hb6 HBW5.out.lt)
  clear hb6 HBW5 HBX HRu
  go_wp2_with fail
  refine (things_none (w.heap.size + 1) _ HBW6.out.lt (fun i hi => by rw [HBW6.out.cell, noThings, Array.getElem?_replicate, if_pos hi])).mono ?_
  rintro e X7 ⟨rfl, hb7⟩
  have HB7 := Lib.hid (HB6.out.trans (hb7.mono HB6.out.size))
  clear hb7 HBW6
  go_wp2_with fail
  refine (fault_any 2 20 _ (by decide) (by decide) (by decide) (by decide) (HT.out.below HB7.out)).mono ?_
  rintro e X8 ⟨rfl, hb8⟩
  rw [aFault]
  have HB8 := Lib.hid (HB7.out.trans (hb8.mono HB7.out.size))
  clear hb8
  go_wp2_with fail
  refine (sums_any 1 2 3 4 _ (by decide) (HT.out.below HB8.out)).mono ?_
  rintro e X9 ⟨rfl, hb9⟩
  rw [aSums]
  have HB9 := Lib.hid (HB8.out.trans (hb9.mono HB8.out.size))
  clear hb9
  go_wp2_with fail
  refine (word_any 43 (by decide) (by decide) _ (HT.out.below HB9.out)).mono ?_
  rintro e X10 ⟨rfl, hb10⟩
  rw [aWord]
  have HB10 := Lib.hid (HB9.out.trans (hb10.mono HB9.out.size))
  clear hb10
  go_wp2_with fail
  refine (result_any 0 6 (by decide) (by decide) (by decide) (by decide) _ (HT.out.below HB10.out)).mono ?_
  rintro e X11 ⟨rfl, hb11⟩
  rw [aResult]
  have HB11 := Lib.hid (HB10.out.trans (hb11.mono HB10.out.size))
  clear hb11
  go_wp2
  go_ret
  exact ⟨rfl, HB11.out⟩
end Go.Proofs.YthklmcpjlpaklaaDoor
