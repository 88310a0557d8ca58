/-
  Chapter 25, plain: the texts of the document's example.
-/
import Derived.Test.YthklmcpjlpaklaaDoorRepS
import Derived.Test.YthklmcpjlpaklaaDoorRepG
namespace Go.Proofs.YthklmcpjlpaklaaDoor
open Go.RowKit
set_option linter.unusedVariables false

def aRec : Rec := ⟨1, 2, 0, 7, 0, 0, 0, 3, 9, 5, true, 40, 4⟩
theorem aDec : dec 0 = [48] ∧ dec 1 = [49] ∧ dec 2 = [50] ∧ dec 3 = [51] ∧ dec 4 = [52] ∧ dec 5 = [53] ∧ dec 6 = [54] ∧ dec 7 = [55] ∧ dec 9 = [57] ∧ dec 20 = [50, 48] := by
  refine ⟨?_, ?_, ?_, ?_, ?_, ?_, ?_, ?_, ?_, ?_⟩
  case refine_10 => show Lib.decDigits 20 = _; rw [Lib.decDigits_two (by omega) (by omega)]; rfl
  all_goals exact dec_small (by decide)
theorem aItoa : Lib.itoa 1 = [49] ∧ Lib.itoa 2 = [50] ∧ Lib.itoa 3 = [51] ∧ Lib.itoa 4 = [52] ∧ Lib.itoa 5 = [53] ∧ Lib.itoa 9 = [57] ∧ Lib.itoa 20 = [50, 48] := by
  obtain ⟨h0, h1, h2, h3, h4, h5, h6, h7, h9, h20⟩ := aDec
  refine ⟨?_, ?_, ?_, ?_, ?_, ?_, ?_⟩ <;> (rw [itoa_pos (by decide)]; assumption)
theorem aRecord : str (recordP [⟨#[111, 110, 101]⟩] aRec) = ⟨#[98, 32, 50, 32, 111, 110, 101, 32, 55, 32, 48, 32, 48, 32, 48, 32, 58, 32, 51, 32, 57, 32, 53, 32, 61, 32, 97, 98, 111, 114, 116, 32, 52, 10]⟩ := by
  obtain ⟨h0, h1, h2, h3, h4, h5, h6, h7, h9, h20⟩ := aDec
  obtain ⟨i1, i2, i3, i4, i5, i9, i20⟩ := aItoa
  simp [str, recordP, lineP, partsP, aRec, whoP, progP, resultP, h0, h4, h7, i2, i3, i9, i5, Lib.join_cons, Lib.joinTail]
theorem aThing : str (thingP 3 #[113, 117, 101, 117, 101].toList 5 ([1, 2].map dec)) = ⟨#[51, 32, 113, 117, 101, 117, 101, 32, 53, 32, 58, 32, 49, 32, 50, 10]⟩ := by
  obtain ⟨h0, h1, h2, h3, h4, h5, h6, h7, h9, h20⟩ := aDec
  obtain ⟨i1, i2, i3, i4, i5, i9, i20⟩ := aItoa
  simp [str, thingP, lineP, h1, h2, h5, i3, Lib.join_cons, Lib.joinTail]
theorem aFault : str (faultP 2 20) = ⟨#[108, 105, 110, 101, 32, 50, 32, 101, 114, 114, 111, 114, 32, 50, 48, 10]⟩ := by
  obtain ⟨i1, i2, i3, i4, i5, i9, i20⟩ := aItoa
  simp [str, faultP, lineP, wordP, i2, i20, Lib.join_cons, Lib.joinTail]
theorem aSums : str (sumsP 1 2 3 4) = ⟨#[112, 105, 99, 107, 115, 32, 49, 32, 115, 119, 97, 112, 115, 32, 50, 32, 119, 111, 114, 100, 115, 32, 51, 32, 108, 105, 109, 98, 111, 32, 52, 10]⟩ := by
  obtain ⟨i1, i2, i3, i4, i5, i9, i20⟩ := aItoa
  simp [str, sumsP, lineP, i1, i2, i3, i4, Lib.join_cons, Lib.joinTail]
theorem aWord : str (wordP 43) = ⟨#[109, 101, 109]⟩ := by simp [str, wordP]
theorem aResult : str (resultP 0 6) = ⟨#[54]⟩ := by
  obtain ⟨h0, h1, h2, h3, h4, h5, h6, h7, h9, h20⟩ := aDec
  simp [str, resultP, h6]
end Go.Proofs.YthklmcpjlpaklaaDoor
