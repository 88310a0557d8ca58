/-
  Chapter 25: what comes in, read: a slice of strings, a slice of uint64, a record of a call; the listed table of powers of ten.
-/
import Derived.Test.YthklmcpjlpaklaaDoorRows
import Derived.Test.YthklmcpjlpaklaaDoorOpen
import Derived.Test.YthklmcpjlpaklaaDoorRepE
import Derived.Lib.LaidTab
import Derived.Lay
import Derived.MakeChecks
import Derived.OpenShut
namespace Go.Proofs.YthklmcpjlpaklaaDoor
open Go.ChangeShapes Go.WideShapes Go.RowKit Go.Deep
set_option linter.unusedVariables false

section
variable {H : Type} {enc : TypeId × Value → H} {P : Program} {w : World} {base : Nat} {spare : Nat → Bool} {held : Bool}
theorem flat_one {α : Type} (f : α → Value) : ∀ l : List α, l.flatMap (fun x => [f x]) = l.map f
  | [] => rfl
  | x :: l => by rw [List.flatMap_cons, flat_one f l]; rfl
/-- A slice of strings. -/
theorem read_strs {r : Reach} {b0 : Nat} {t e : TypeId} {v : Value} {d : DataW H} {p : List MemPlace} (ht : P.underlying t = some (.slice e)) (he : P.underlying e = some .string) (hC : P.cellsOf e = 1)
    (hval : Value.okWide P w r b0 t v) (h : DataW.Trod enc P w base spare held t v d p) : ∃ A n c l, v = .slice A n c ∧ RdS w w.heap.size A n l ∧ n ≤ c := by
  obtain ⟨A, n, c, l, hv, hr, _, hg, hc⟩ := read_slice (fun x : ByteArray => [Value.string x]) (fun x => True) (size := 1) (fun _ => rfl) (by decide) ht hC
    (fun n cs x hx => by obtain ⟨z, hz, _, hw⟩ := DataW.trod_string he hx; exact ⟨z, hz, trivial⟩) hval h
  refine ⟨A, n, c, l, hv, ?_, hc⟩
  show Rd _ _ _ _ _ _
  rw [← flat_one]; exact hr
/-- A slice of uint64. -/
theorem read_u64s {r : Reach} {b0 : Nat} {t e : TypeId} {v : Value} {d : DataW H} {p : List MemPlace} (ht : P.underlying t = some (.slice e)) (he : P.underlying e = some (.int .u64)) (hC : P.cellsOf e = 1)
    (hval : Value.okWide P w r b0 t v) (h : DataW.Trod enc P w base spare held t v d p) : ∃ A n c l, v = .slice A n c ∧ RdU w w.heap.size A n l ∧ (∀ x ∈ l, 0 ≤ x ∧ x ≤ 18446744073709551615) ∧ n ≤ c := by
  obtain ⟨A, n, c, l, hv, hr, _, hg, hc⟩ := read_slice (fun x : Int => [Value.int .u64 x]) (fun x => 0 ≤ x ∧ x ≤ 18446744073709551615) (size := 1) (fun _ => rfl) (by decide) ht hC
    (fun n cs x hx => by obtain ⟨z, hz, _, hw⟩ := DataW.trod_int he hx; exact ⟨z, hz, wf_u64 hw⟩) hval h
  refine ⟨A, n, c, l, hv, ?_, hg, hc⟩
  show Rd _ _ _ _ _ _
  rw [← flat_one]; exact hr
end
section
variable {H : Type} {enc : TypeId × Value → H} {w : World} {base : Nat} {spare : Nat → Bool} {held : Bool}
theorem c_int : Tryd.prog.cellsOf 3 = 1 := by kernel_rfl
theorem c_u64 : Tryd.prog.cellsOf 23 = 1 := by kernel_rfl
theorem c_bool : Tryd.prog.cellsOf 4 = 1 := by kernel_rfl
theorem c_errno : Tryd.prog.cellsOf 27 = 1 := by kernel_rfl
theorem c_call : Tryd.prog.cellsOf 26 = 5 := by kernel_rfl
theorem c_args : Tryd.prog.cellsOf 24 = 4 := by kernel_rfl
theorem c_result : Tryd.prog.cellsOf 29 = 2 := by kernel_rfl
theorem c_record : Tryd.prog.cellsOf 31 = 13 := by kernel_rfl
theorem some_of {α : Type} {l : List α} {n i : Nat} (hl : l.length = n) (hi : i < n) : ∃ y, l[i]? = some y := ⟨_, List.getElem?_eq_getElem (by omega)⟩
set_option maxRecDepth 100000 in
theorem read_record {r : Reach} {b0 : Nat} {v : Value} {d : DataW H} {p : List MemPlace}
    (hval : Value.okWide Tryd.prog w r b0 31 v) (h : DataW.Trod enc Tryd.prog w base spare held 31 v d p) : ∃ r : Rec, v = r.v ∧ r.Ok := by
  obtain ⟨cs, rfl, hsz⟩ := okWide_struct Tryd.underlying31 hval
  obtain ⟨fuel, hf⟩ := h
  obtain ⟨xs, n', _, hx, hl, hlen, hg⟩ := DataW.trod_struct Tryd.underlying31 hf
  rw [c_record] at hsz
  clear hf hl
  have hlen8 : xs.length = 8 := hlen
  cases cs with | mk cs =>
  have hcs : cs.length = 13 := hsz
  match cs, hcs with
  | [c0, c1, c2, c3, c4, c5, c6, c7, c8, c9, c10, c11, c12], _ =>
    obtain ⟨y0, e0⟩ := some_of hlen8 (i := 0) (by omega)
    obtain ⟨y1, e1⟩ := some_of hlen8 (i := 1) (by omega)
    obtain ⟨y2, e2⟩ := some_of hlen8 (i := 2) (by omega)
    obtain ⟨y3, e3⟩ := some_of hlen8 (i := 3) (by omega)
    obtain ⟨y4, e4⟩ := some_of hlen8 (i := 4) (by omega)
    obtain ⟨y5, e5⟩ := some_of hlen8 (i := 5) (by omega)
    obtain ⟨y6, e6⟩ := some_of hlen8 (i := 6) (by omega)
    obtain ⟨y7, e7⟩ := some_of hlen8 (i := 7) (by omega)
    have g0 : DataW.trod enc Tryd.prog w base spare held n' 3 (([c0, c1, c2, c3, c4, c5, c6, c7, c8, c9, c10, c11, c12].drop 0).take (Tryd.prog.cellsOf 3)) = xs[0]? := hg 0 _ rfl
    have g1 : DataW.trod enc Tryd.prog w base spare held n' 3 (([c0, c1, c2, c3, c4, c5, c6, c7, c8, c9, c10, c11, c12].drop 1).take (Tryd.prog.cellsOf 3)) = xs[1]? := hg 1 _ rfl
    have g2 : DataW.trod enc Tryd.prog w base spare held n' 26 (([c0, c1, c2, c3, c4, c5, c6, c7, c8, c9, c10, c11, c12].drop 2).take (Tryd.prog.cellsOf 26)) = xs[2]? := hg 2 _ rfl
    have g3 : DataW.trod enc Tryd.prog w base spare held n' 3 (([c0, c1, c2, c3, c4, c5, c6, c7, c8, c9, c10, c11, c12].drop 7).take (Tryd.prog.cellsOf 3)) = xs[3]? := hg 3 _ rfl
    have g4 : DataW.trod enc Tryd.prog w base spare held n' 3 (([c0, c1, c2, c3, c4, c5, c6, c7, c8, c9, c10, c11, c12].drop 8).take (Tryd.prog.cellsOf 3)) = xs[4]? := hg 4 _ rfl
    have g5 : DataW.trod enc Tryd.prog w base spare held n' 3 (([c0, c1, c2, c3, c4, c5, c6, c7, c8, c9, c10, c11, c12].drop 9).take (Tryd.prog.cellsOf 3)) = xs[5]? := hg 5 _ rfl
    have g6 : DataW.trod enc Tryd.prog w base spare held n' 4 (([c0, c1, c2, c3, c4, c5, c6, c7, c8, c9, c10, c11, c12].drop 10).take (Tryd.prog.cellsOf 4)) = xs[6]? := hg 6 _ rfl
    have g7 : DataW.trod enc Tryd.prog w base spare held n' 29 (([c0, c1, c2, c3, c4, c5, c6, c7, c8, c9, c10, c11, c12].drop 11).take (Tryd.prog.cellsOf 29)) = xs[7]? := hg 7 _ rfl
    rw [c_int, e0] at g0
    rw [c_int, e1] at g1
    rw [c_call, e2] at g2
    rw [c_int, e3] at g3
    rw [c_int, e4] at g4
    rw [c_int, e5] at g5
    rw [c_bool, e6] at g6
    rw [c_result, e7] at g7
    simp at g0 g1 g2 g3 g4 g5 g6 g7
    obtain ⟨who, q0, _, w0⟩ := DataW.trod_int Tryd.underlying3 g0
    obtain ⟨tag, q1, _, w1⟩ := DataW.trod_int Tryd.underlying3 g1
    obtain ⟨from_, q3, _, w3⟩ := DataW.trod_int Tryd.underlying3 g3
    obtain ⟨till, q4, _, w4⟩ := DataW.trod_int Tryd.underlying3 g4
    obtain ⟨steps, q5, _, w5⟩ := DataW.trod_int Tryd.underlying3 g5
    obtain ⟨done, q6, _⟩ := DataW.trod_bool Tryd.underlying4 g6
    obtain ⟨ys, m', _, _, _, hy2, hgc⟩ := DataW.trod_struct Tryd.underlying26 g2
    have hy2' : ys.length = 2 := hy2
    obtain ⟨z0, b0⟩ := some_of hy2' (i := 0) (by omega)
    obtain ⟨z1, b1⟩ := some_of hy2' (i := 1) (by omega)
    have k0 : DataW.trod enc Tryd.prog w base spare held m' 3 (([c2, c3, c4, c5, c6].drop 0).take (Tryd.prog.cellsOf 3)) = ys[0]? := hgc 0 _ rfl
    have k1 : DataW.trod enc Tryd.prog w base spare held m' 24 (([c2, c3, c4, c5, c6].drop 1).take (Tryd.prog.cellsOf 24)) = ys[1]? := hgc 1 _ rfl
    rw [c_int, b0] at k0
    rw [c_args, b1] at k1
    simp at k0 k1
    obtain ⟨prog, q2, _, w2⟩ := DataW.trod_int Tryd.underlying3 k0
    obtain ⟨us, m2, _, _, _, hu, hga⟩ := DataW.trod_array Tryd.underlying24 k1
    obtain ⟨x0, f0⟩ := some_of hu (i := 0) (by omega)
    obtain ⟨x1, f1⟩ := some_of hu (i := 1) (by omega)
    obtain ⟨x2, f2⟩ := some_of hu (i := 2) (by omega)
    obtain ⟨x3, f3⟩ := some_of hu (i := 3) (by omega)
    have a0 := hga 0 (by omega)
    have a1 := hga 1 (by omega)
    have a2 := hga 2 (by omega)
    have a3 := hga 3 (by omega)
    rw [c_u64, f0] at a0
    rw [c_u64, f1] at a1
    rw [c_u64, f2] at a2
    rw [c_u64, f3] at a3
    simp at a0 a1 a2 a3
    obtain ⟨n0, p0, _, v0⟩ := DataW.trod_int Tryd.underlying23 a0
    obtain ⟨n1, p1, _, v1⟩ := DataW.trod_int Tryd.underlying23 a1
    obtain ⟨n2, p2, _, v2⟩ := DataW.trod_int Tryd.underlying23 a2
    obtain ⟨n3, p3, _, v3⟩ := DataW.trod_int Tryd.underlying23 a3
    obtain ⟨rs, m3, _, _, _, hr2, hgr⟩ := DataW.trod_struct Tryd.underlying29 g7
    have hr2' : rs.length = 2 := hr2
    obtain ⟨s0, d0⟩ := some_of hr2' (i := 0) (by omega)
    obtain ⟨s1, d1⟩ := some_of hr2' (i := 1) (by omega)
    have l0 : DataW.trod enc Tryd.prog w base spare held m3 27 (([c11, c12].drop 0).take (Tryd.prog.cellsOf 27)) = rs[0]? := hgr 0 _ rfl
    have l1 : DataW.trod enc Tryd.prog w base spare held m3 23 (([c11, c12].drop 1).take (Tryd.prog.cellsOf 23)) = rs[1]? := hgr 1 _ rfl
    rw [c_errno, d0] at l0
    rw [c_u64, d1] at l1
    simp at l0 l1
    obtain ⟨code, q11, _, w11⟩ := DataW.trod_int Tryd.underlying27 l0
    obtain ⟨val, q12, _, w12⟩ := DataW.trod_int Tryd.underlying23 l1
    simp only [List.cons.injEq, and_true] at q0 q1 q2 q3 q4 q5 q6 q11 q12 p0 p1 p2 p3
    subst q0 q1 q2 q3 q4 q5 q6 q11 q12 p0 p1 p2 p3
    exact ⟨⟨who, tag, prog, n0, n1, n2, n3, from_, till, steps, done, code, val⟩, rfl, wf_i64 w0, wf_i64 w1, wf_i64 w2, wf_u64 v0, wf_u64 v1, wf_u64 v2, wf_u64 v3, wf_i64 w3, wf_i64 w4, wf_i64 w5, wf_i64 w11, wf_u64 w12⟩
end
/-- The list of tables that the rows of this chapter list. -/
abbrev tabs3 : List (String × DataW Unit) := [("math/bits.deBruijn32tab", Rows.laid_math_bits_deBruijn32tab), ("math/bits.deBruijn64tab", Rows.laid_math_bits_deBruijn64tab), ("internal/strconv.uint64pow10", Rows.laid_internal_strconv_uint64pow10)]
theorem pow_laid : (Rows.laid_internal_strconv_uint64pow10 : DataW Unit) = Lib.tabData .u64 Lib.pow10Tab := by kernel_rfl
theorem gPow : Tryd.prog.globalNamed "internal/strconv.uint64pow10" = some 0 := by kernel_rfl
theorem tPow : (Tryd.prog.globals[0]?).map (·.type) = some 127 := by kernel_rfl
theorem pow_of_laid {W : World} (h : laidMetH Tryd.prog tabs3 W) : PowTab W := by
  rw [MakeChecks.laidMetH_plain _ _ _ (by kernel_rfl)] at h
  obtain ⟨ps, ⟨g0, t0, cs0, f0, p0, q0, hg0, ht0, hv0, hd0, ⟨g1, t1, cs1, f1, p1, q1, hg1, ht1, hv1, hd1, ⟨g2, t2, cs2, f2, p2, q2, hg2, ht2, hv2, hd2, _, _⟩, _⟩, _⟩, _, _⟩ := h
  obtain rfl := Option.some.inj (gPow.symm.trans hg2)
  obtain rfl := Option.some.inj (tPow.symm.trans ht2)
  rw [pow_laid] at hd2
  show _ = _
  rw [hv2, ← Lib.cells_of_tab Tryd.underlying127 Tryd.underlying23 (by kernel_rfl) (by kernel_rfl) hd2]
theorem met_laidAll (os : Os) (args : Array Value) : laidMetH Tryd.prog tabs3 ((World.laidAll Tryd.prog os tabs3).forCall (fun _ _ => 0) ⟨#[], args, []⟩).memory := by
  rw [MakeChecks.laidMetH_plain _ _ _ (by kernel_rfl)]; exact laidMet_laidAll _ (by kernel_rfl) (by kernel_rfl)
end Go.Proofs.YthklmcpjlpaklaaDoor
