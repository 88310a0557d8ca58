/-
  Chapter 19: what comes in, read: a part (link.Part), and a slice of such.
-/
import Derived.Test.YtddaeaimimdonaaOpenJ
namespace Go.Proofs.Ytddaeaimimdonaa
open Go.ChangeShapes Go.WideShapes Go.RowKit Go.Deep
set_option linter.unusedVariables false

/-- What a part is handed: kind, value. -/
structure PArg where
  kind : Int
  val : Int
def PArg.cells (a : PArg) : List Value := [.int .i64 a.kind, .int .u64 a.val]
structure PArg.Ok (a : PArg) : Prop where
  kind : -9223372036854775808 ≤ a.kind ∧ a.kind ≤ 9223372036854775807
  val : U64 a.val
/-- A part, as it lies in memory. -/
structure Prt where
  A : Option Addr
  n : Nat
  c : Nat
  code : List Ins
  args : List PArg
def Prt.cells (p : Prt) : List Value := .slice p.A p.n p.c :: p.args.flatMap PArg.cells
structure Prt.In (w : World) (B : Nat) (p : Prt) : Prop where
  code : RdI w B p.A p.n p.code
  ok : ∀ i ∈ p.code, i.Ok
  cap : p.n ≤ p.c
  args4 : p.args.length = 4
  argsOk : ∀ a ∈ p.args, a.Ok
theorem four_of {α : Type} {l : List α} (h : l.length = 4) : ∃ a b c d, l = [a, b, c, d] := by
  match l, h with
  | [a, b, c, d], _ => exact ⟨a, b, c, d, rfl⟩
theorem Prt.In.four {w : World} {B : Nat} {p : Prt} (h : p.In w B) : ∃ a b c d, p.args = [a, b, c, d] := four_of h.args4
theorem Prt.In.cells_len {w : World} {B : Nat} {p : Prt} (h : p.In w B) : p.cells.length = 9 := by
  obtain ⟨a, b, c, d, e⟩ := h.four
  simp [Prt.cells, e, PArg.cells]
theorem Prt.In.below {w w' : World} {B : Nat} {p : Prt} (h : p.In w B) (hb : Below B w w') : p.In w' B := ⟨h.code.below hb, h.ok, h.cap, h.args4, h.argsOk⟩
theorem Prt.In.more {w : World} {B B' : Nat} {p : Prt} (h : p.In w B) (hB : B ≤ B') : p.In w B' := ⟨h.code.more hB, h.ok, h.cap, h.args4, h.argsOk⟩
theorem Prt.In.grown {w w' : World} {B : Nat} {p : Prt} (h : p.In w B) {row : Option Nat} (hg : w.grownBy w' row) (hB : B ≤ w.heap.size) (hr : ∀ g, row = some g → B ≤ g) : p.In w' B :=
  ⟨h.code.grown hg hB hr, h.ok, h.cap, h.args4, h.argsOk⟩
section
variable {H : Type} {enc : TypeId × Value → H} {w : World} {base : Nat} {spare : Nat → Bool} {held : Bool}
theorem c_larg : Try.prog.cellsOf 77 = 2 := by kernel_rfl
theorem c_largs : Try.prog.cellsOf 78 = 8 := by kernel_rfl
theorem c_part : Try.prog.cellsOf 80 = 9 := by kernel_rfl
set_option maxRecDepth 100000 in
theorem trod_larg {n : Nat} {cs : List Value} {x : DataW H × List MemPlace} (hf : DataW.trod enc Try.prog w base spare held n 77 cs = some x) : ∃ a : PArg, cs = a.cells ∧ a.Ok := by
  obtain ⟨xs, n', _, hx, hl, hlen, hg⟩ := DataW.trod_struct Try.underlying77 hf
  rw [c_larg] at hl
  clear hf
  have hlen2 : xs.length = 2 := hlen
  match cs, hl with
  | [c0, c1], _ =>
    obtain ⟨y0, e0⟩ := some_of hlen2 (i := 0) (by omega)
    obtain ⟨y1, e1⟩ := some_of hlen2 (i := 1) (by omega)
    have g0 : DataW.trod enc Try.prog w base spare held n' 3 (([c0, c1].drop 0).take (Try.prog.cellsOf 3)) = xs[0]? := hg 0 _ rfl
    have g1 : DataW.trod enc Try.prog w base spare held n' 24 (([c0, c1].drop 1).take (Try.prog.cellsOf 24)) = xs[1]? := hg 1 _ rfl
    rw [c_int, e0] at g0
    rw [c_u64, e1] at g1
    simp at g0 g1
    obtain ⟨z0, q0, _, w0⟩ := DataW.trod_int Try.underlying3 g0
    obtain ⟨z1, q1, _, w1⟩ := DataW.trod_int Try.underlying24 g1
    simp only [List.cons.injEq, and_true] at q0 q1
    subst q0 q1
    exact ⟨⟨z0, z1⟩, rfl, wf_i64 w0, wf_u64 w1⟩
set_option maxRecDepth 100000 in
theorem four_larg {fuel : Nat} {c0 c1 c2 c3 c4 c5 c6 c7 : Value} {x : DataW H × List MemPlace} (hf : DataW.trod enc Try.prog w base spare held fuel 78 [c0, c1, c2, c3, c4, c5, c6, c7] = some x) :
    ∃ l : List PArg, [c0, c1, c2, c3, c4, c5, c6, c7] = l.flatMap PArg.cells ∧ l.length = 4 ∧ ∀ a ∈ l, a.Ok := by
  obtain ⟨us, m2, _, _, _, hu, hga⟩ := DataW.trod_array Try.underlying78 hf
  obtain ⟨x0, f0⟩ := some_of hu (i := 0) (by omega)
  obtain ⟨x1, f1⟩ := some_of hu (i := 1) (by omega)
  obtain ⟨x2, f2⟩ := some_of hu (i := 2) (by omega)
  obtain ⟨x3, f3⟩ := some_of hu (i := 3) (by omega)
  have a0 := hga 0 (by omega)
  have a1 := hga 1 (by omega)
  have a2 := hga 2 (by omega)
  have a3 := hga 3 (by omega)
  rw [c_larg, f0] at a0
  rw [c_larg, f1] at a1
  rw [c_larg, f2] at a2
  rw [c_larg, f3] at a3
  simp at a0 a1 a2 a3
  obtain ⟨y0, p0, v0⟩ := trod_larg a0
  obtain ⟨y1, p1, v1⟩ := trod_larg a1
  obtain ⟨y2, p2, v2⟩ := trod_larg a2
  obtain ⟨y3, p3, v3⟩ := trod_larg a3
  simp only [PArg.cells, List.cons.injEq, and_true] at p0 p1 p2 p3
  obtain ⟨rfl, rfl⟩ := p0
  obtain ⟨rfl, rfl⟩ := p1
  obtain ⟨rfl, rfl⟩ := p2
  obtain ⟨rfl, rfl⟩ := p3
  refine ⟨[y0, y1, y2, y3], rfl, rfl, fun x hx => ?_⟩
  simp at hx
  rcases hx with rfl | rfl | rfl | rfl
  · exact v0
  · exact v1
  · exact v2
  · exact v3
set_option maxRecDepth 100000 in
theorem trod_part {n : Nat} {cs : List Value} {x : DataW H × List MemPlace} (hf : DataW.trod enc Try.prog w base spare held n 80 cs = some x) : ∃ p : Prt, cs = p.cells ∧ p.In w w.heap.size := by
  obtain ⟨xs, n', _, hx, hl, hlen, hg⟩ := DataW.trod_struct Try.underlying80 hf
  rw [c_part] at hl
  clear hf
  have hlen2 : xs.length = 2 := hlen
  match cs, hl with
  | [c0, c1, c2, c3, c4, c5, c6, c7, c8], _ =>
    obtain ⟨y0, e0⟩ := some_of hlen2 (i := 0) (by omega)
    obtain ⟨y1, e1⟩ := some_of hlen2 (i := 1) (by omega)
    have g0 : DataW.trod enc Try.prog w base spare held n' 23 (([c0, c1, c2, c3, c4, c5, c6, c7, c8].drop 0).take (Try.prog.cellsOf 23)) = xs[0]? := hg 0 _ rfl
    have g1 : DataW.trod enc Try.prog w base spare held n' 78 (([c0, c1, c2, c3, c4, c5, c6, c7, c8].drop 1).take (Try.prog.cellsOf 78)) = xs[1]? := hg 1 _ rfl
    rw [c_inss, e0] at g0
    rw [c_largs, e1] at g1
    simp at g0 g1
    obtain ⟨A, n, c, l, rfl, hr, hok, hc⟩ := cell_inss g0
    obtain ⟨as_, ha, ha4, hau⟩ := four_larg g1
    refine ⟨⟨A, n, c, l, as_⟩, ?_, hr, hok, hc, ha4, hau⟩
    unfold Prt.cells
    rw [← ha]
set_option maxRecDepth 100000 in
/-- A slice of parts. -/
theorem read_parts {r : Reach} {b0 : Nat} {v : Value} {d : DataW H} {p : List MemPlace} (hval : Value.okWide Try.prog w r b0 66 v) (h : DataW.Trod enc Try.prog w base spare held 66 v d p) :
    ∃ A n c, ∃ l : List Prt, v = .slice A n c ∧ Rd w w.heap.size 9 A n (l.flatMap Prt.cells) ∧ l.length = n ∧ (∀ j ∈ l, j.In w w.heap.size) ∧ n ≤ c := by
  obtain ⟨A, n, c, l, hv, hr, hl, hg, hc⟩ := read_slice (fun j : { j : Prt // j.cells.length = 9 } => j.1.cells) (fun j => j.1.In w w.heap.size) (size := 9) (fun j => j.2) (by decide) Try.underlying66 c_part
    (fun n cs x hx => by obtain ⟨j, rfl, hin⟩ := trod_part hx; exact ⟨⟨j, hin.cells_len⟩, rfl, hin⟩) hval h
  refine ⟨A, n, c, l.map (·.1), hv, ?_, by simpa using hl, ?_, hc⟩
  · rw [List.flatMap_map]; exact hr
  · intro j hj
    obtain ⟨y, hy, rfl⟩ := List.mem_map.1 hj
    exact hg y hy
end
end Go.Proofs.Ytddaeaimimdonaa
