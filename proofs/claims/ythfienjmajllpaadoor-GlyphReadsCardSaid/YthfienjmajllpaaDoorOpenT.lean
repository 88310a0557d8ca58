/-
  Chapter 2: what comes in, read: tokens; the listed table of powers of ten.
-/
import Derived.Test.YthfienjmajllpaaDoorRows
import Derived.Test.YthfienjmajllpaaDoorOpen
import Derived.Test.YthfienjmajllpaaDoorGlyI
import Derived.Lib.LaidTab
import Derived.Lay
import Derived.MakeChecks
namespace Go.Proofs.YthfienjmajllpaaDoor
open Go.ChangeShapes Go.WideShapes Go.RowKit Go.Deep
set_option linter.unusedVariables false

section
variable {H : Type} {enc : TypeId × Value → H} {P : Program} {w : World} {base : Nat} {spare : Nat → Bool} {held : Bool}
theorem trod_tok {n : Nat} {t : TypeId} {f0 f1 f2 f3 f4 : Field} {cs : List Value} {x : DataW H × List MemPlace} (hs : P.underlying t = some (.struct #[f0, f1, f2, f3, f4])) (hone : oneCellFields P #[f0, f1, f2, f3, f4] = true) (hC : P.cellsOf t = 5)
    (h0 : P.underlying f0.type = some (.int .i64)) (h1 : P.underlying f1.type = some .string) (h2 : P.underlying f2.type = some (.int .u64)) (h3 : P.underlying f3.type = some (.int .i64)) (h4 : P.underlying f4.type = some (.int .i64))
    (h : DataW.trod enc P w base spare held n t cs = some x) : ∃ i : Tok, cs = i.cells ∧ i.Ok := by
  obtain ⟨xs, n', _, hx, hl, hlen, hg⟩ := DataW.trod_struct hs h
  rw [hC] at hl
  obtain ⟨o0, k0⟩ := hone_of hone 0 f0 rfl
  obtain ⟨o1, k1⟩ := hone_of hone 1 f1 rfl
  obtain ⟨o2, k2⟩ := hone_of hone 2 f2 rfl
  obtain ⟨o3, k3⟩ := hone_of hone 3 f3 rfl
  obtain ⟨o4, k4⟩ := hone_of hone 4 f4 rfl
  match cs, hl, xs, hlen with
  | [c0, c1, c2, c3, c4], _, [y0, y1, y2, y3, y4], _ =>
    have g0 : DataW.trod enc P w base spare held n' f0.type [c0] = some y0 := by simpa [o0, k0] using hg 0 f0 rfl
    have g1 : DataW.trod enc P w base spare held n' f1.type [c1] = some y1 := by simpa [o1, k1] using hg 1 f1 rfl
    have g2 : DataW.trod enc P w base spare held n' f2.type [c2] = some y2 := by simpa [o2, k2] using hg 2 f2 rfl
    have g3 : DataW.trod enc P w base spare held n' f3.type [c3] = some y3 := by simpa [o3, k3] using hg 3 f3 rfl
    have g4 : DataW.trod enc P w base spare held n' f4.type [c4] = some y4 := by simpa [o4, k4] using hg 4 f4 rfl
    obtain ⟨z0, e0, _, w0⟩ := DataW.trod_int h0 g0
    obtain ⟨z1, e1, _, w1⟩ := DataW.trod_string h1 g1
    obtain ⟨z2, e2, _, w2⟩ := DataW.trod_int h2 g2
    obtain ⟨z3, e3, _, w3⟩ := DataW.trod_int h3 g3
    obtain ⟨z4, e4, _, w4⟩ := DataW.trod_int h4 g4
    simp only [List.cons.injEq, and_true] at e0 e1 e2 e3 e4
    subst e0; subst e1; subst e2; subst e3; subst e4
    exact ⟨⟨z0, z1, z2, z3, z4⟩, rfl, wf_i64 w0, w1, wf_u64 w2, wf_i64 w3, wf_i64 w4⟩
/-- A slice of tokens. -/
theorem read_toks {r : Reach} {b0 : Nat} {t e : TypeId} {f0 f1 f2 f3 f4 : Field} {v : Value} {d : DataW H} {p : List MemPlace} (ht : P.underlying t = some (.slice e)) (hs : P.underlying e = some (.struct #[f0, f1, f2, f3, f4])) (hone : oneCellFields P #[f0, f1, f2, f3, f4] = true) (hC : P.cellsOf e = 5)
    (h0 : P.underlying f0.type = some (.int .i64)) (h1 : P.underlying f1.type = some .string) (h2 : P.underlying f2.type = some (.int .u64)) (h3 : P.underlying f3.type = some (.int .i64)) (h4 : P.underlying f4.type = some (.int .i64))
    (hval : Value.okWide P w r b0 t v) (h : DataW.Trod enc P w base spare held t v d p) :
    ∃ A n c l, v = .slice A n c ∧ RdT w w.heap.size A n l ∧ (∀ i ∈ l, i.Ok) ∧ n ≤ c := by
  obtain ⟨A, n, c, l, hv, hr, _, hg, hc⟩ := read_slice Tok.cells Tok.Ok (size := 5) (fun _ => rfl) (by decide) ht hC
    (fun n cs x hx => trod_tok hs hone hC h0 h1 h2 h3 h4 hx) hval h
  exact ⟨A, n, c, l, hv, hr, hg, hc⟩
end
/-- The list of tables that the rows of this chapter list. -/
abbrev tabs3 : List (String × DataW Unit) := [("math/bits.deBruijn32tab", Rows.laid_math_bits_deBruijn32tab), ("math/bits.deBruijn64tab", Rows.laid_math_bits_deBruijn64tab), ("internal/strconv.uint64pow10", Rows.laid_internal_strconv_uint64pow10)]
theorem pow_laid : (Rows.laid_internal_strconv_uint64pow10 : DataW Unit) = Lib.tabData .u64 Lib.pow10Tab := by kernel_rfl
theorem gPow : Tryd.prog.globalNamed "internal/strconv.uint64pow10" = some 0 := by kernel_rfl
theorem tPow : (Tryd.prog.globals[0]?).map (·.type) = some 91 := by kernel_rfl
theorem pow_of_laid {W : World} (h : laidMetH Tryd.prog tabs3 W) : PowTab W := by
  rw [MakeChecks.laidMetH_plain _ _ _ (by kernel_rfl)] at h
  obtain ⟨ps, ⟨g0, t0, cs0, f0, p0, q0, hg0, ht0, hv0, hd0, ⟨g1, t1, cs1, f1, p1, q1, hg1, ht1, hv1, hd1, ⟨g2, t2, cs2, f2, p2, q2, hg2, ht2, hv2, hd2, _, _⟩, _⟩, _⟩, _, _⟩ := h
  obtain rfl := Option.some.inj (gPow.symm.trans hg2)
  obtain rfl := Option.some.inj (tPow.symm.trans ht2)
  rw [pow_laid] at hd2
  show _ = _
  rw [hv2, ← Lib.cells_of_tab Tryd.underlying91 Tryd.underlying24 (by kernel_rfl) (by kernel_rfl) hd2]
theorem met_laidAll (os : Os) (args : Array Value) : laidMetH Tryd.prog tabs3 ((World.laidAll Tryd.prog os tabs3).forCall (fun _ _ => 0) ⟨#[], args, []⟩).memory := by
  rw [MakeChecks.laidMetH_plain _ _ _ (by kernel_rfl)]; exact laidMet_laidAll _ (by kernel_rfl) (by kernel_rfl)
end Go.Proofs.YthfienjmajllpaaDoor
