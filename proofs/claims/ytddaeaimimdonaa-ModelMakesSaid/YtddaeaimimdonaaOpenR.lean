/-
  Chapter 6: what comes in, read: [16]uint64, a slice of tumblerref06.Box. Printed by gen/openr.py.
-/
import Derived.Test.YtddaeaimimdonaaOpenJ
import Derived.Test.YtddaeaimimdonaaModU
namespace Go.Proofs.Ytddaeaimimdonaa
open Go.ChangeShapes Go.WideShapes Go.RowKit Go.Deep
set_option linter.unusedVariables false

section
variable {H : Type} {enc : TypeId × Value → H} {w : World} {base : Nat} {spare : Nat → Bool} {held : Bool}
theorem c_u16 : Try.prog.cellsOf 52 = 16 := by kernel_rfl
theorem c_u8w : Try.prog.cellsOf 47 = 8 := by kernel_rfl
theorem c_box : Try.prog.cellsOf 58 = 9 := by kernel_rfl
set_option maxRecDepth 100000 in
theorem arr16 {fuel : Nat} {c0 c1 c2 c3 c4 c5 c6 c7 c8 c9 c10 c11 c12 c13 c14 c15 : Value} {x : DataW H × List MemPlace} (hf : DataW.trod enc Try.prog w base spare held fuel 52 [c0, c1, c2, c3, c4, c5, c6, c7, c8, c9, c10, c11, c12, c13, c14, c15] = some x) :
    ∃ l : List Int, [c0, c1, c2, c3, c4, c5, c6, c7, c8, c9, c10, c11, c12, c13, c14, c15] = u64s l ∧ l.length = 16 ∧ ∀ a ∈ l, U64 a := by
  obtain ⟨us, m2, _, _, _, hu, hga⟩ := DataW.trod_array Try.underlying52 hf
  obtain ⟨x0, f0⟩ := some_of hu (i := 0) (by omega)
  obtain ⟨x1, f1⟩ := some_of hu (i := 1) (by omega)
  obtain ⟨x2, f2⟩ := some_of hu (i := 2) (by omega)
  obtain ⟨x3, f3⟩ := some_of hu (i := 3) (by omega)
  obtain ⟨x4, f4⟩ := some_of hu (i := 4) (by omega)
  obtain ⟨x5, f5⟩ := some_of hu (i := 5) (by omega)
  obtain ⟨x6, f6⟩ := some_of hu (i := 6) (by omega)
  obtain ⟨x7, f7⟩ := some_of hu (i := 7) (by omega)
  obtain ⟨x8, f8⟩ := some_of hu (i := 8) (by omega)
  obtain ⟨x9, f9⟩ := some_of hu (i := 9) (by omega)
  obtain ⟨x10, f10⟩ := some_of hu (i := 10) (by omega)
  obtain ⟨x11, f11⟩ := some_of hu (i := 11) (by omega)
  obtain ⟨x12, f12⟩ := some_of hu (i := 12) (by omega)
  obtain ⟨x13, f13⟩ := some_of hu (i := 13) (by omega)
  obtain ⟨x14, f14⟩ := some_of hu (i := 14) (by omega)
  obtain ⟨x15, f15⟩ := some_of hu (i := 15) (by omega)
  have a0 := hga 0 (by omega)
  have a1 := hga 1 (by omega)
  have a2 := hga 2 (by omega)
  have a3 := hga 3 (by omega)
  have a4 := hga 4 (by omega)
  have a5 := hga 5 (by omega)
  have a6 := hga 6 (by omega)
  have a7 := hga 7 (by omega)
  have a8 := hga 8 (by omega)
  have a9 := hga 9 (by omega)
  have a10 := hga 10 (by omega)
  have a11 := hga 11 (by omega)
  have a12 := hga 12 (by omega)
  have a13 := hga 13 (by omega)
  have a14 := hga 14 (by omega)
  have a15 := hga 15 (by omega)
  rw [c_u64, f0] at a0
  rw [c_u64, f1] at a1
  rw [c_u64, f2] at a2
  rw [c_u64, f3] at a3
  rw [c_u64, f4] at a4
  rw [c_u64, f5] at a5
  rw [c_u64, f6] at a6
  rw [c_u64, f7] at a7
  rw [c_u64, f8] at a8
  rw [c_u64, f9] at a9
  rw [c_u64, f10] at a10
  rw [c_u64, f11] at a11
  rw [c_u64, f12] at a12
  rw [c_u64, f13] at a13
  rw [c_u64, f14] at a14
  rw [c_u64, f15] at a15
  simp at a0 a1 a2 a3 a4 a5 a6 a7 a8 a9 a10 a11 a12 a13 a14 a15
  obtain ⟨y0, q0, _, w0⟩ := DataW.trod_int Try.underlying24 a0
  obtain ⟨y1, q1, _, w1⟩ := DataW.trod_int Try.underlying24 a1
  obtain ⟨y2, q2, _, w2⟩ := DataW.trod_int Try.underlying24 a2
  obtain ⟨y3, q3, _, w3⟩ := DataW.trod_int Try.underlying24 a3
  obtain ⟨y4, q4, _, w4⟩ := DataW.trod_int Try.underlying24 a4
  obtain ⟨y5, q5, _, w5⟩ := DataW.trod_int Try.underlying24 a5
  obtain ⟨y6, q6, _, w6⟩ := DataW.trod_int Try.underlying24 a6
  obtain ⟨y7, q7, _, w7⟩ := DataW.trod_int Try.underlying24 a7
  obtain ⟨y8, q8, _, w8⟩ := DataW.trod_int Try.underlying24 a8
  obtain ⟨y9, q9, _, w9⟩ := DataW.trod_int Try.underlying24 a9
  obtain ⟨y10, q10, _, w10⟩ := DataW.trod_int Try.underlying24 a10
  obtain ⟨y11, q11, _, w11⟩ := DataW.trod_int Try.underlying24 a11
  obtain ⟨y12, q12, _, w12⟩ := DataW.trod_int Try.underlying24 a12
  obtain ⟨y13, q13, _, w13⟩ := DataW.trod_int Try.underlying24 a13
  obtain ⟨y14, q14, _, w14⟩ := DataW.trod_int Try.underlying24 a14
  obtain ⟨y15, q15, _, w15⟩ := DataW.trod_int Try.underlying24 a15
  simp only [List.cons.injEq, and_true] at q0 q1 q2 q3 q4 q5 q6 q7 q8 q9 q10 q11 q12 q13 q14 q15
  subst q0 q1 q2 q3 q4 q5 q6 q7 q8 q9 q10 q11 q12 q13 q14 q15
  refine ⟨[y0, y1, y2, y3, y4, y5, y6, y7, y8, y9, y10, y11, y12, y13, y14, y15], rfl, rfl, fun a ha => ?_⟩
  simp at ha
  rcases ha with rfl | rfl | rfl | rfl | rfl | rfl | rfl | rfl | rfl | rfl | rfl | rfl | rfl | rfl | rfl | rfl
  · exact wf_u64 w0
  · exact wf_u64 w1
  · exact wf_u64 w2
  · exact wf_u64 w3
  · exact wf_u64 w4
  · exact wf_u64 w5
  · exact wf_u64 w6
  · exact wf_u64 w7
  · exact wf_u64 w8
  · exact wf_u64 w9
  · exact wf_u64 w10
  · exact wf_u64 w11
  · exact wf_u64 w12
  · exact wf_u64 w13
  · exact wf_u64 w14
  · exact wf_u64 w15
set_option maxRecDepth 100000 in
theorem arr8 {fuel : Nat} {c0 c1 c2 c3 c4 c5 c6 c7 : Value} {x : DataW H × List MemPlace} (hf : DataW.trod enc Try.prog w base spare held fuel 47 [c0, c1, c2, c3, c4, c5, c6, c7] = some x) :
    ∃ l : List Int, [c0, c1, c2, c3, c4, c5, c6, c7] = u64s l ∧ l.length = 8 ∧ ∀ a ∈ l, U64 a := by
  obtain ⟨us, m2, _, _, _, hu, hga⟩ := DataW.trod_array Try.underlying47 hf
  obtain ⟨x0, f0⟩ := some_of hu (i := 0) (by omega)
  obtain ⟨x1, f1⟩ := some_of hu (i := 1) (by omega)
  obtain ⟨x2, f2⟩ := some_of hu (i := 2) (by omega)
  obtain ⟨x3, f3⟩ := some_of hu (i := 3) (by omega)
  obtain ⟨x4, f4⟩ := some_of hu (i := 4) (by omega)
  obtain ⟨x5, f5⟩ := some_of hu (i := 5) (by omega)
  obtain ⟨x6, f6⟩ := some_of hu (i := 6) (by omega)
  obtain ⟨x7, f7⟩ := some_of hu (i := 7) (by omega)
  have a0 := hga 0 (by omega)
  have a1 := hga 1 (by omega)
  have a2 := hga 2 (by omega)
  have a3 := hga 3 (by omega)
  have a4 := hga 4 (by omega)
  have a5 := hga 5 (by omega)
  have a6 := hga 6 (by omega)
  have a7 := hga 7 (by omega)
  rw [c_u64, f0] at a0
  rw [c_u64, f1] at a1
  rw [c_u64, f2] at a2
  rw [c_u64, f3] at a3
  rw [c_u64, f4] at a4
  rw [c_u64, f5] at a5
  rw [c_u64, f6] at a6
  rw [c_u64, f7] at a7
  simp at a0 a1 a2 a3 a4 a5 a6 a7
  obtain ⟨y0, q0, _, w0⟩ := DataW.trod_int Try.underlying24 a0
  obtain ⟨y1, q1, _, w1⟩ := DataW.trod_int Try.underlying24 a1
  obtain ⟨y2, q2, _, w2⟩ := DataW.trod_int Try.underlying24 a2
  obtain ⟨y3, q3, _, w3⟩ := DataW.trod_int Try.underlying24 a3
  obtain ⟨y4, q4, _, w4⟩ := DataW.trod_int Try.underlying24 a4
  obtain ⟨y5, q5, _, w5⟩ := DataW.trod_int Try.underlying24 a5
  obtain ⟨y6, q6, _, w6⟩ := DataW.trod_int Try.underlying24 a6
  obtain ⟨y7, q7, _, w7⟩ := DataW.trod_int Try.underlying24 a7
  simp only [List.cons.injEq, and_true] at q0 q1 q2 q3 q4 q5 q6 q7
  subst q0 q1 q2 q3 q4 q5 q6 q7
  refine ⟨[y0, y1, y2, y3, y4, y5, y6, y7], rfl, rfl, fun a ha => ?_⟩
  simp at ha
  rcases ha with rfl | rfl | rfl | rfl | rfl | rfl | rfl | rfl
  · exact wf_u64 w0
  · exact wf_u64 w1
  · exact wf_u64 w2
  · exact wf_u64 w3
  · exact wf_u64 w4
  · exact wf_u64 w5
  · exact wf_u64 w6
  · exact wf_u64 w7
set_option maxRecDepth 100000 in
theorem read_roots {r : Reach} {b0 : Nat} {v : Value} {d : DataW H} {p : List MemPlace} (hval : Value.okWide Try.prog w r b0 52 v) (h : DataW.Trod enc Try.prog w base spare held 52 v d p) :
    ∃ l : List Int, v = .agg (u64s l).toArray ∧ l.length = 16 ∧ ∀ x ∈ l, U64 x := by
  obtain ⟨cs, rfl, hsz⟩ : ∃ cs, v = .agg cs ∧ cs.size = Try.prog.cellsOf 52 := by
    unfold Value.okWide at hval
    rw [Try.underlying52] at hval
    cases v <;> simp at hval <;> first | (exact ⟨_, rfl, by simpa using hval⟩) | (exact ⟨_, rfl, hval.1⟩) | contradiction
  obtain ⟨fuel, hf⟩ := h
  rw [c_u16] at hsz
  obtain ⟨cs⟩ := cs
  have hsz : cs.length = 16 := by simpa using hsz
  match cs, hsz with
  | [c0, c1, c2, c3, c4, c5, c6, c7, c8, c9, c10, c11, c12, c13, c14, c15], _ =>
    have hf : DataW.trod enc Try.prog w base spare held fuel 52 [c0, c1, c2, c3, c4, c5, c6, c7, c8, c9, c10, c11, c12, c13, c14, c15] = some (d, p) := by simpa [Value.cells] using hf
    obtain ⟨l, h1, h2, h3⟩ := arr16 hf
    exact ⟨l, by rw [← h1], h2, h3⟩
set_option maxRecDepth 100000 in
theorem trod_box {n : Nat} {cs : List Value} {x : DataW H × List MemPlace} (hf : DataW.trod enc Try.prog w base spare held n 58 cs = some x) : ∃ b : PBox, cs = b.cells ∧ U64 b.h ∧ b.words.length = 8 := by
  obtain ⟨xs, n', _, hx, hl, hlen, hg⟩ := DataW.trod_struct Try.underlying58 hf
  rw [c_box] at hl
  clear hf
  have hlen2 : xs.length = 2 := hlen
  match cs, hl with
  | [c0, c1, c2, c3, c4, c5, c6, c7, c8], _ =>
    obtain ⟨y0, e0⟩ := some_of hlen2 (i := 0) (by omega)
    obtain ⟨y1, e1⟩ := some_of hlen2 (i := 1) (by omega)
    have g0 : DataW.trod enc Try.prog w base spare held n' 24 (([c0, c1, c2, c3, c4, c5, c6, c7, c8].drop 0).take (Try.prog.cellsOf 24)) = xs[0]? := hg 0 _ rfl
    have g1 : DataW.trod enc Try.prog w base spare held n' 47 (([c0, c1, c2, c3, c4, c5, c6, c7, c8].drop 1).take (Try.prog.cellsOf 47)) = xs[1]? := hg 1 _ rfl
    rw [c_u64, e0] at g0
    rw [c_u8w, e1] at g1
    simp at g0 g1
    obtain ⟨z0, q0, _, w0⟩ := DataW.trod_int Try.underlying24 g0
    simp only [List.cons.injEq, and_true] at q0
    subst q0
    obtain ⟨ws, ha, ha8, _⟩ := arr8 g1
    refine ⟨⟨z0, ws⟩, ?_, wf_u64 w0, ha8⟩
    unfold PBox.cells
    rw [← ha]
set_option maxRecDepth 100000 in
theorem read_boxes {r : Reach} {b0 : Nat} {v : Value} {d : DataW H} {p : List MemPlace} (hval : Value.okWide Try.prog w r b0 53 v) (h : DataW.Trod enc Try.prog w base spare held 53 v d p) :
    ∃ A n c, ∃ l : List PBox, v = .slice A n c ∧ RdX w w.heap.size A n l ∧ n ≤ c := by
  obtain ⟨A, n, c, l, hv, hr, hl, hg, hc⟩ := read_slice (fun j : { j : PBox // j.cells.length = 9 } => j.1.cells) (fun j => U64 j.1.h ∧ j.1.words.length = 8) (size := 9) (fun j => j.2) (by decide) Try.underlying53 c_box
    (fun n cs x hx => by obtain ⟨j, rfl, hu, h8⟩ := trod_box hx; exact ⟨⟨j, PBox.cells_len h8⟩, rfl, hu, h8⟩) hval h
  refine ⟨A, n, c, l.map (·.1), hv, ⟨?_, by simpa using hl, ?_⟩, hc⟩
  · rw [List.flatMap_map]; exact hr
  · intro j hj
    obtain ⟨y, hy, rfl⟩ := List.mem_map.1 hj
    exact hg y hy
end
end Go.Proofs.Ytddaeaimimdonaa
