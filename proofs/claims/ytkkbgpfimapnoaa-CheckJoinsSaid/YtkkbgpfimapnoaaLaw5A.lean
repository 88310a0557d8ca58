/-
  Chapter 5: the document's example: tumblerlaw05.alive is true.
-/
import Derived.Test.YtkkbgpfimapnoaaReachH
namespace Go.Proofs.Ytkkbgpfimapnoaa
open Go.RowKit
set_option linter.unusedVariables false

def live5 : List Ins := [{ op := 18, a := 1, b := 0, c := 0, imm := 2 }, { op := 20, a := 0, b := 0, c := 0, imm := 0 }, { op := 21, a := 0, b := 0, c := 0, imm := 7 }]
def live5b : List Ins := [{ op := 20, a := 0, b := 0, c := 0, imm := 0 }, { op := 8, a := 0, b := 0, c := 0, imm := 4 }]
theorem live5_right : rightP live5 = true := by decide
theorem live5_reads : readsP live5 = true := by decide
theorem live5b_fault : faultP live5b = (1, 1) := by decide
theorem live5_nil : rightP [] = false := by decide
theorem live5_ok : ∀ i ∈ live5, i.Ok := by
  intro i hi
  simp [live5] at hi
  rcases hi with rfl | rfl | rfl <;> constructor <;> decide
theorem live5b_ok : ∀ i ∈ live5b, i.Ok := by
  intro i hi
  simp [live5b] at hi
  rcases hi with rfl | rfl <;> constructor <;> decide
theorem live5_most : MostFrom live5 [2, 1, 1] 0 := by
  refine ⟨rfl, fun q i _ hi => ?_⟩
  match q, hi with
  | 0, hi =>
    obtain rfl : _ = i := by simpa [live5] using hi
    refine ⟨by decide, fun j hj hS => ?_, .inr ⟨1, by decide, by decide, by decide⟩⟩
    have : j = 1 ∨ j = 2 := by simp [nextP, endsB] at hS; omega
    rcases this with rfl | rfl <;> decide
  | 1, hi =>
    obtain rfl : _ = i := by simpa [live5] using hi
    exact ⟨by decide, fun j hj hS => by simp [nextP, endsB] at hS, .inl rfl⟩
  | 2, hi =>
    obtain rfl : _ = i := by simpa [live5] using hi
    exact ⟨by decide, fun j hj hS => by simp [nextP, endsB] at hS, .inl rfl⟩
  | q + 3, hi => simp [live5] at hi
theorem live5_longest : LongestIs live5 2 true := by
  refine .inr ⟨fun ⟨k, i, _, hi, ho⟩ => ?_, rfl, [2, 1, 1], live5_most, rfl⟩
  have := List.mem_of_getElem? hi
  simp [live5] at this
  rcases this with rfl | rfl | rfl <;> simp at ho
theorem live5_two {M : List Bool} (h : Marks live5 M) : M.length = 3 ∧ M.getD 2 false = true := by
  have h2 : Reaches live5 2 := .step .start (i := { op := 18, a := 1, b := 0, c := 0, imm := 2 }) rfl (by decide)
  have := (h.iff 2).2 h2
  refine ⟨h.len, ?_⟩
  rw [List.getD_eq_getElem?_getD, this]; rfl

set_option maxHeartbeats 4000000 in
theorem alive5_any (w : World) : Calls Try.prog 28 #[] w fun e w' => e = .returned (.bool true) ∧ Below w.heap.size w w' := by
  go_enter Try.func28, Try.ntmps28
  go_wp2_with fail
  obtain ⟨wa, ha⟩ : ∃ wa, w.alloc (.cells #[.int .i64 18, .int .i64 1, .int .i64 0, .int .i64 0, .int .u64 2, .int .i64 20, .int .i64 0, .int .i64 0, .int .i64 0, .int .u64 0, .int .i64 21, .int .i64 0, .int .i64 0, .int .i64 0, .int .u64 7] 47) = wa := ⟨_, rfl⟩
  have ra : RdI wa wa.heap.size (some ⟨w.heap.size, 0, none⟩) 3 live5 := by
    rw [← ha]; exact (Rd.new w _ _ (size := 5) (m := 3) rfl (by simp [maxLen])).more (by simp)
  have ba : Below w.heap.size w wa := by rw [← ha]; exact (Below.refl _ _).alloc (Nat.le_refl _) _
  have za : wa.heap.size = w.heap.size + 1 := by rw [← ha]; simp
  obtain ⟨wb, hb⟩ : ∃ wb, wa.alloc (.cells #[.int .i64 20, .int .i64 0, .int .i64 0, .int .i64 0, .int .u64 0, .int .i64 8, .int .i64 0, .int .i64 0, .int .i64 0, .int .u64 4] 47) = wb := ⟨_, rfl⟩
  have rb : RdI wb wb.heap.size (some ⟨wa.heap.size, 0, none⟩) 2 live5b := by
    rw [← hb]; exact (Rd.new wa _ _ (size := 5) (m := 2) rfl (by simp [maxLen])).more (by simp)
  have bb : Below wa.heap.size wa wb := by rw [← hb]; exact (Below.refl _ _).alloc (Nat.le_refl _) _
  rw [za] at rb
  rw [ha, hb]
  have RA := Lib.hid ((ra.below bb).more bb.size)
  have BA := Lib.hid (ba.trans (bb.mono ba.size))
  have RB := Lib.hid rb
  clear ra rb ba bb ha hb za
  refine (fault_any live5b _ 2 2 _ RB.out live5b_ok).mono ?_
  rintro e w1 ⟨rfl, hb1⟩
  rw [live5b_fault]
  have RA1 := Lib.hid ((RA.out.below hb1).more hb1.size)
  have B1 := Lib.hid (BA.out.trans (hb1.mono BA.out.size))
  clear hb1
  go_wp2_with fail
  refine (longest_any live5 _ 3 3 _ RA1.out live5_ok).mono ?_
  rintro e w2 ⟨x, b, rfl, hb2, hl⟩
  rw [if_pos live5_right] at hl
  obtain ⟨rfl, rfl⟩ := hl.unique (by decide) live5_longest
  have RA2 := Lib.hid ((RA1.out.below hb2).more hb2.size)
  have B2 := Lib.hid (B1.out.trans (hb2.mono B1.out.size))
  clear hb2 hl
  go_wp2_with fail
  refine (reach_any live5 _ 3 3 _ RA2.out live5_ok).mono ?_
  rintro e w3 ⟨v, M, rfl, hown, hb3, hM⟩
  rw [if_pos live5_right] at hM
  obtain ⟨hMl, hM2⟩ := live5_two hM
  rw [hMl] at hown
  obtain ⟨A3, c3, rfl, r3⟩ := Rd.of_own hown
  obtain ⟨b3, o3, rfl, hbb3⟩ := r3.addr (by omega)
  have RA3 := Lib.hid ((RA2.out.below hb3).more hb3.size)
  have B3 := Lib.hid (B2.out.trans (hb3.mono B2.out.size))
  have R3 := Lib.hid r3
  have HM2 := Lib.hid hM2
  clear hb3 hown r3 hM hMl hM2
  go_wp2_with fail
  refine (right_any live5 _ 3 3 _ RA3.out live5_ok).mono ?_
  rintro e w4 ⟨rfl, hb4⟩
  rw [live5_right]
  have RA4 := Lib.hid ((RA3.out.below hb4).more hb4.size)
  have R4 := Lib.hid ((R3.out.below hb4).more hb4.size)
  have B4 := Lib.hid (B3.out.trans (hb4.mono B3.out.size))
  clear hb4
  go_wp2_with fail
  refine (reads_any live5 _ 3 3 _ RA4.out live5_ok).mono ?_
  rintro e w5 ⟨rfl, hb5⟩
  rw [live5_reads]
  have c2 := rd_bool (R4.out.below hb5) (k := 2) (by omega)
  rw [HM2.out] at c2
  have B5 := Lib.hid (B4.out.trans (hb5.mono B4.out.size))
  clear hb5
  go_wp2_with fail
  refine (right_any [] none 0 0 _ (Rd.nil _ _ _ _) (by simp)).mono ?_
  rintro e w6 ⟨rfl, hb6⟩
  rw [live5_nil]
  have B6 := Lib.hid (B5.out.trans (hb6.mono B5.out.size))
  clear hb6
  go_wp2_with fail
  refine (costs_any _ _).mono ?_
  rintro e w7 ⟨rfl, rfl⟩
  rw [show writesOf 15 = 9 from rfl]
  go_wp2
  go_ret
  exact ⟨rfl, B6.out⟩
end Go.Proofs.Ytkkbgpfimapnoaa
