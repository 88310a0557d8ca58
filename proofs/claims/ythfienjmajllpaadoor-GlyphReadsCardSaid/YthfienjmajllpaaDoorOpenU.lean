/-
  Chapter 2: the five listed tables of GlyphReads: powers of ten, and the tables of UTF-8.
-/
import Derived.Test.YthfienjmajllpaaDoorOpenT
import Derived.Test.YthfienjmajllpaaDoorShelf
import Derived.Lib.LaidU8T
namespace Go.Proofs.YthfienjmajllpaaDoor
open Go.ChangeShapes Go.WideShapes Go.RowKit Go.Deep
set_option linter.unusedVariables false

abbrev tabs5 : List (String × DataW Unit) := [("math/bits.deBruijn32tab", Rows.laid_math_bits_deBruijn32tab), ("math/bits.deBruijn64tab", Rows.laid_math_bits_deBruijn64tab), ("internal/strconv.uint64pow10", Rows.laid_internal_strconv_uint64pow10), ("unicode/utf8.acceptRanges", Rows.laid_unicode_utf8_acceptRanges), ("unicode/utf8.first", Rows.laid_unicode_utf8_first)]
theorem first_laid : (Rows.laid_unicode_utf8_first : DataW Unit) = Lib.firstData := by kernel_rfl
theorem accept_laid : (Rows.laid_unicode_utf8_acceptRanges : DataW Unit) = Lib.acceptData := by kernel_rfl
theorem met_laidAll5 (os : Os) (args : Array Value) : laidMetH Tryd.prog tabs5 ((World.laidAll Tryd.prog os tabs5).forCall (fun _ _ => 0) ⟨#[], args, []⟩).memory := by
  rw [MakeChecks.laidMetH_plain _ _ _ (by kernel_rfl)]; exact laidMet_laidAll _ (by kernel_rfl) (by kernel_rfl)
theorem met5 {W : World} (h : laidMetH Tryd.prog tabs5 W) : laidMet Tryd.prog tabs5 W := by
  rw [MakeChecks.laidMetH_plain _ _ _ (by kernel_rfl)] at h; exact h
theorem pow_of_laid5 {W : World} (h : laidMetH Tryd.prog tabs5 W) : PowTab W := by
  obtain ⟨g2, t2, cs2, f2, p2, hg2, ht2, hv2, hd2⟩ := Lib.laidMet.reads (met5 h) (.tail _ (.tail _ (.head _)))
  obtain rfl := Option.some.inj (gPow.symm.trans hg2)
  obtain rfl := Option.some.inj (tPow.symm.trans ht2)
  rw [pow_laid] at hd2
  show _ = _
  rw [hv2, ← Lib.cells_of_tab Tryd.underlying91 Tryd.underlying24 (by kernel_rfl) (by kernel_rfl) hd2]
theorem utf8_of_laid5 {W : World} (h : laidMetH Tryd.prog tabs5 W) : Lib.Utf8Tabs 1 2 W :=
  utf8Tabs_of_readsT (ρ := Tryd.lays197_ren) { Tryd.lays197 with } ⟨by kernel_rfl, by kernel_rfl, by kernel_rfl, by kernel_rfl, by kernel_rfl, by kernel_rfl, by kernel_rfl⟩
    (by rw [← first_laid]; exact Lib.laidMet.reads (met5 h) (.tail _ (.tail _ (.tail _ (.tail _ (.head _))))))
    (by rw [← accept_laid]; exact Lib.laidMet.reads (met5 h) (.tail _ (.tail _ (.tail _ (.head _)))))
end Go.Proofs.YthfienjmajllpaaDoor
