/-
  Chapter 2: what a rune is, and a run's number: contracts of glyph.letter, digit, sign, number.
-/
import Derived.Test.YthklmcpjlpaklaaDoorGlyP
import Derived.Test.YthklmcpjlpaklaaDoorChecked
import Derived.Lib.OthersKept
namespace Go.Proofs.YthklmcpjlpaklaaDoor
open Go.RowKit
set_option linter.unusedVariables false

theorem letter_any (c : Nat) (w : World) : Calls Tryd.prog 41 #[.int .i32 c] w fun e w' => e = .returned (.bool (isLetter c)) ∧ w = w' := by
  go_enter Tryd.func41, Tryd.ntmps41
  go_wp2
  all_goals go_ret
  all_goals refine ⟨ret_bool ?_, rfl⟩
  all_goals (rw [Bool.eq_iff_iff]; simp_all [isLetter]; try omega)
theorem digit_any (c : Nat) (w : World) : Calls Tryd.prog 42 #[.int .i32 c] w fun e w' => e = .returned (.bool (isDigit c)) ∧ w = w' := by
  go_enter Tryd.func42, Tryd.ntmps42
  go_wp2
  all_goals go_ret
  all_goals refine ⟨ret_bool ?_, rfl⟩
  all_goals (rw [Bool.eq_iff_iff]; simp_all [isDigit]; try omega)

/-- The constant of all signs, and where its runes stand. -/
def signText : ByteArray := ⟨#[226, 134, 144, 43, 45, 195, 151, 37, 61, 60, 91, 93, 58, 36, 44]⟩
def signAt (k : Nat) : Nat := [0, 3, 4, 5, 7, 8, 9, 10, 11, 12, 13, 14, 15].getD k 0
theorem sign_dec : ∀ k : Fin 12, signAt k.val < signText.size ∧ Utf8.decode signText (signAt k.val) = (signRunes.getD k.val 0, signAt (k.val + 1) - signAt k.val) ∧ signAt k.val < signAt (k.val + 1) := by decide +kernel
theorem isSign_mem {c : Nat} : isSign c = true ↔ ∃ k, k < 12 ∧ signRunes.getD k 0 = c := by
  unfold isSign
  rw [List.contains_iff_mem, List.mem_iff_getElem]
  constructor
  · rintro ⟨k, hk, e⟩
    exact ⟨k, hk, by rw [List.getD_eq_getElem?_getD, List.getElem?_eq_getElem hk]; exact e⟩
  · rintro ⟨k, hk, e⟩
    have hk' : k < signRunes.length := hk
    refine ⟨k, hk', ?_⟩
    rw [List.getD_eq_getElem?_getD, List.getElem?_eq_getElem hk'] at e
    exact e

set_option maxHeartbeats 4000000 in
theorem sign_any (c : Nat) (hc : c ≤ 2147483647) (w : World) : Calls Tryd.prog 44 #[.int .i32 c] w fun e w' => e = .returned (.bool (isSign c)) ∧ Below w.heap.size w w' := by
  go_enter Tryd.func44, Tryd.ntmps44
  go_wp2
  go_loopw [4] (fun _u wr => ∃ k : Nat, k ≤ 12 ∧ Hid (∀ j, j < k → signRunes.getD j 0 ≠ c) ∧ wr.heap[w.heap.size]? = some (.stringIter signText (signAt k)) ∧ Below w.heap.size w wr) (fun _ wr => 15 - wr.iterPos w.heap.size)
  case atStart => exact ⟨0, by omega, fun j hj => by omega, World.iter_heap w signText 0, (Below.refl _ _).alloc (Nat.le_refl _) _⟩
  case round =>
    obtain ⟨k, hk, HN, hit, hb⟩ := hrel
    have HB := Lib.hid hb
    have HI := Lib.hid hit
    clear hb hit
    by_cases hlt : k < 12
    · obtain ⟨h1, h2, h3⟩ : signAt k < signText.size ∧ Utf8.decode signText (signAt k) = (signRunes.getD k 0, signAt (k + 1) - signAt k) ∧ signAt k < signAt (k + 1) := sign_dec ⟨k, hlt⟩
      have hnx : ∀ ty, (Instr.next (.pointer (some ⟨w.heap.size, 0, none⟩)) true ty).run Tryd.prog wr = _ := fun ty => Lib.run_next_any_at wr w.heap.size signText (signAt k) ty HI.out h1
      rw [h2] at hnx
      simp only at hnx
      have hit2 := Lib.hid (Lib.iterAt_heap wr w.heap.size signText (signAt k) (signAt (k + 1)) HI.out)
      have hb2 := Lib.hid (Lib.below_iterAt HB.out (k := w.heap.size) (Nat.le_refl _) signText (signAt (k + 1)))
      have e : signAt k + (signAt (k + 1) - signAt k) = signAt (k + 1) := by omega
      rw [e] at hnx
      have H3 := Lib.hid h3
      have H1 : Hid (signAt (k + 1) ≤ 15) := by
        show _ ≤ _
        have : ∀ q : Fin 13, signAt q.val ≤ 15 := by decide
        exact this ⟨k + 1, by omega⟩
      clear h2 h3 e h1
      obtain ⟨r, hr⟩ : ∃ r, signRunes.getD k 0 = r := ⟨_, rfl⟩
      rw [hr] at hnx
      have HR := Lib.hid hr
      clear hr
      by_cases hcr : r = c
      · subst hcr
        have E : Hid (isSign r = true) := isSign_mem.2 ⟨k, hlt, HR.out⟩
        go_wp2
        go_ret
        exact ⟨ret_bool E.out.symm, hb2.out⟩
      · have hne : ((r : Int) == (c : Int)) = false := by simp; omega
        have HN2 : Hid (∀ j, j < k + 1 → signRunes.getD j 0 ≠ c) := fun j hj => by
          by_cases e : j = k
          · rw [e, HR.out]; exact hcr
          · exact HN.out j (by omega)
        go_wp2
        go_roundw
        case rel => exact ⟨k + 1, by omega, HN2, hit2.out, hb2.out⟩
        case measure =>
          have h3 := H3.out
          have h1 := H1.out
          simp only [World.iterPos, hit2.out, HI.out]
          omega
    · obtain rfl : k = 12 := by omega
      have E : Hid (isSign c = false) := by
        show _ = _
        rw [Bool.eq_false_iff]
        intro h
        obtain ⟨j, hj, e⟩ := isSign_mem.1 h
        exact HN.out j hj e
      have hnx : ∀ ty, (Instr.next (.pointer (some ⟨w.heap.size, 0, none⟩)) true ty).run Tryd.prog wr = _ := fun ty => Lib.run_next_end_at wr w.heap.size signText (signAt 12) ty HI.out (by decide)
      go_wp2
      go_ret
      exact ⟨ret_bool E.out.symm, HB.out⟩
end Go.Proofs.YthklmcpjlpaklaaDoor
