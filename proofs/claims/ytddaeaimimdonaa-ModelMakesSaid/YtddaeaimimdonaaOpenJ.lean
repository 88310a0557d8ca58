/-
  Chapter 6: what comes in, read: a program that runs, by bounds (tumblerlaw06.Job), and a slice of such.
-/
import Derived.Test.YtddaeaimimdonaaRows
import Derived.Test.YtddaeaimimdonaaOpen
import Derived.Test.YtddaeaimimdonaaModB
namespace Go.Proofs.Ytddaeaimimdonaa
open Go.ChangeShapes Go.WideShapes Go.RowKit Go.Deep
set_option linter.unusedVariables false

section
variable {H : Type} {enc : TypeId × Value → H} {P : Program} {w : World} {base : Nat} {spare : Nat → Bool} {held : Bool}
/-- A slice of whatever elements, in a cell. -/
theorem cell_slice {α : Type} (cells : α → List Value) (good : α → Prop) {size : Nat} (hcs : ∀ y, (cells y).length = size) (hs : 0 < size) {t e : TypeId} {fuel : Nat} {c0 : Value} {x : DataW H × List MemPlace}
    (ht : P.underlying t = some (.slice e)) (hC : P.cellsOf e = size) (hel : ∀ n cs x, DataW.trod enc P w base spare held n e cs = some x → ∃ y, cs = cells y ∧ good y)
    (hf : DataW.trod enc P w base spare held fuel t [c0] = some x) :
    ∃ A n c, ∃ l : List α, c0 = .slice A n c ∧ Rd w w.heap.size size A n (l.flatMap cells) ∧ l.length = n ∧ (∀ y ∈ l, good y) ∧ n ≤ c := by
  rcases Deep.open_slice ht hf with ⟨hv, _⟩ | ⟨a, n, c, m, q, D, Pl, hv, hb, hl, hm, hmm, hx, hi⟩
  · obtain rfl : c0 = .slice none 0 0 := by simpa using hv
    exact ⟨none, 0, 0, [], rfl, Rd.nil _ _ _ _, rfl, fun y hy => by simp at hy, Nat.le_refl _⟩
  · obtain rfl : c0 = .slice (some a) n c := by simpa using hv
    have hle : n ≤ m := by rw [hmm]; split <;> omega
    have hQ : ∀ i, i < n → ∃ y : α, good y ∧ ∀ j u, (cells y)[j]? = some u → w.cell? (a.add (i * size + j)) = some u := by
      intro i hin
      obtain ⟨cs', hc, htr⟩ := hi i (by omega)
      obtain ⟨y, rfl, hg⟩ := hel _ _ _ htr
      rw [hC] at hc
      obtain ⟨_, hcl, hat⟩ := World.cells?_some hc
      refine ⟨y, hg, fun j u hu => ?_⟩
      have hj : j < size := by rw [← hcs y]; exact (List.getElem?_eq_some_iff.1 hu).1
      have := hat j hj
      rw [hu] at this
      rw [← Deep.add_add]
      exact this
    obtain ⟨l, hll, hlq⟩ := list_of _ n hQ
    refine ⟨_, n, c, l, rfl, ⟨by rw [flat_len cells hcs, hll], by omega, fun hn => ?_⟩, hll, fun y hy => ?_, hl⟩
    · obtain ⟨y0, hy0⟩ : ∃ y, l[0]? = some y := ⟨l[0]'(by omega), List.getElem?_eq_getElem _⟩
      obtain ⟨u0, hu0⟩ : ∃ u, (cells y0)[0]? = some u := ⟨(cells y0)[0]'(by rw [hcs]; omega), List.getElem?_eq_getElem _⟩
      have h0 := (hlq 0 y0 hy0).2 0 u0 hu0
      have hsp : a.spot = none := by simpa [Addr.add] using World.cell?_spot h0
      obtain ⟨b, o, sp⟩ := a
      subst hsp
      have hblk := World.block_lt_of_cell? w _ h0
      refine ⟨b, o, rfl, by simpa [Addr.add] using hblk, fun j u hu => ?_⟩
      obtain ⟨i, y, hy, hj, hu'⟩ := flat_at cells hcs hs l j u hu
      have := (hlq i y hy).2 (j % size) u hu'
      rw [← hj] at this
      unfold Addr.add at this
      split at this
      · rename_i h0; rw [h0]; exact this
      · exact this
    · obtain ⟨i, hi', he⟩ := List.getElem_of_mem hy
      exact (hlq i y (by rw [List.getElem?_eq_getElem hi', he])).1
theorem flat_one {α : Type} (f : α → Value) : ∀ l : List α, l.flatMap (fun x => [f x]) = l.map f
  | [] => rfl
  | x :: l => by rw [List.flatMap_cons, flat_one f l]; rfl
theorem cell_u64s {t e : TypeId} {fuel : Nat} {c0 : Value} {x : DataW H × List MemPlace} (ht : P.underlying t = some (.slice e)) (he : P.underlying e = some (.int .u64)) (hC : P.cellsOf e = 1)
    (hf : DataW.trod enc P w base spare held fuel t [c0] = some x) : ∃ A n c l, c0 = .slice A n c ∧ RdU w w.heap.size A n l ∧ (∀ x ∈ l, U64 x) ∧ n ≤ c := by
  obtain ⟨A, n, c, l, hv, hr, _, hg, hc⟩ := cell_slice (fun x : Int => [Value.int .u64 x]) U64 (size := 1) (fun _ => rfl) (by decide) ht hC
    (fun n cs x hx => by obtain ⟨z, hz, _, hw⟩ := DataW.trod_int he hx; exact ⟨z, hz, wf_u64 hw⟩) hf
  refine ⟨A, n, c, l, hv, ?_, hg, hc⟩
  show Rd _ _ _ _ _ _
  unfold u64s
  rw [← flat_one]; exact hr
end

/-- A program that runs, by bounds, as it lies in memory. -/
structure Job where
  A : Option Addr
  n : Nat
  c : Nat
  code : List Ins
  args : List Int
  fuel : Int
  maxw : Int
  pA : Option Addr
  pn : Nat
  pc : Nat
  pick : List Int
def Job.cells (j : Job) : List Value := .slice j.A j.n j.c :: (u64s j.args ++ [.int .i64 j.fuel, .int .i64 j.maxw, .slice j.pA j.pn j.pc])
structure Job.In (w : World) (B : Nat) (j : Job) : Prop where
  code : RdI w B j.A j.n j.code
  ok : ∀ i ∈ j.code, i.Ok
  cap : j.n ≤ j.c
  args4 : j.args.length = 4
  argsOk : ∀ x ∈ j.args, U64 x
  fuel : -9223372036854775808 ≤ j.fuel ∧ j.fuel ≤ 9223372036854775807
  maxw : -9223372036854775808 ≤ j.maxw ∧ j.maxw ≤ 9223372036854775807
  pick : RdU w B j.pA j.pn j.pick
  pickOk : ∀ x ∈ j.pick, U64 x
  pcap : j.pn ≤ j.pc
theorem Job.In.cells_len {w : World} {B : Nat} {j : Job} (h : j.In w B) : j.cells.length = 8 := by simp [Job.cells, h.args4]
theorem Job.In.grown {w w' : World} {B : Nat} {j : Job} (h : j.In w B) {row : Option Nat} (hg : w.grownBy w' row) (hB : B ≤ w.heap.size) (hr : ∀ g, row = some g → B ≤ g) : j.In w' B :=
  ⟨h.code.grown hg hB hr, h.ok, h.cap, h.args4, h.argsOk, h.fuel, h.maxw, h.pick.grown hg hB hr, h.pickOk, h.pcap⟩
theorem Job.In.below {w w' : World} {B : Nat} {j : Job} (h : j.In w B) (hb : Below B w w') : j.In w' B :=
  ⟨h.code.below hb, h.ok, h.cap, h.args4, h.argsOk, h.fuel, h.maxw, h.pick.below hb, h.pickOk, h.pcap⟩
section
variable {H : Type} {enc : TypeId × Value → H} {w : World} {base : Nat} {spare : Nat → Bool} {held : Bool}
theorem c_int : Try.prog.cellsOf 3 = 1 := by kernel_rfl
theorem c_u64 : Try.prog.cellsOf 24 = 1 := by kernel_rfl
theorem c_args : Try.prog.cellsOf 25 = 4 := by kernel_rfl
theorem c_ins : Try.prog.cellsOf 43 = 5 := by kernel_rfl
theorem c_inss : Try.prog.cellsOf 23 = 1 := by kernel_rfl
theorem c_u64s : Try.prog.cellsOf 26 = 1 := by kernel_rfl
theorem c_job : Try.prog.cellsOf 28 = 8 := by kernel_rfl
theorem some_of {α : Type} {l : List α} {n i : Nat} (hl : l.length = n) (hi : i < n) : ∃ y, l[i]? = some y := ⟨_, List.getElem?_eq_getElem (by omega)⟩
set_option maxRecDepth 100000 in
theorem cell_inss {fuel : Nat} {c0 : Value} {x : DataW H × List MemPlace} (hf : DataW.trod enc Try.prog w base spare held fuel 23 [c0] = some x) :
    ∃ A n c l, c0 = .slice A n c ∧ RdI w w.heap.size A n l ∧ (∀ i ∈ l, i.Ok) ∧ n ≤ c := by
  obtain ⟨A, n, c, l, hv, hr, _, hg, hc⟩ := cell_slice Ins.cells Ins.Ok (size := 5) (fun _ => rfl) (by decide) Try.underlying23 c_ins
    (fun n cs x hx => trod_ins (t0 := 0) (t1 := 0) (t2 := 0) (t3 := 0) (t4 := 0) Try.underlying43 (by kernel_rfl) c_ins Try.underlying3 Try.underlying3 Try.underlying3 Try.underlying3 Try.underlying24 hx) hf
  exact ⟨A, n, c, l, hv, hr, hg, hc⟩
set_option maxRecDepth 100000 in
theorem four_u64 {fuel : Nat} {c0 c1 c2 c3 : Value} {x : DataW H × List MemPlace} (hf : DataW.trod enc Try.prog w base spare held fuel 25 [c0, c1, c2, c3] = some x) :
    ∃ l : List Int, [c0, c1, c2, c3] = u64s l ∧ l.length = 4 ∧ ∀ x ∈ l, U64 x := by
  obtain ⟨us, m2, _, _, _, hu, hga⟩ := DataW.trod_array Try.underlying25 hf
  obtain ⟨x0, f0⟩ := some_of hu (i := 0) (by omega)
  obtain ⟨x1, f1⟩ := some_of hu (i := 1) (by omega)
  obtain ⟨x2, f2⟩ := some_of hu (i := 2) (by omega)
  obtain ⟨x3, f3⟩ := some_of hu (i := 3) (by omega)
  have a0 := hga 0 (by omega)
  have a1 := hga 1 (by omega)
  have a2 := hga 2 (by omega)
  have a3 := hga 3 (by omega)
  rw [c_u64, f0] at a0
  rw [c_u64, f1] at a1
  rw [c_u64, f2] at a2
  rw [c_u64, f3] at a3
  simp at a0 a1 a2 a3
  obtain ⟨n0, p0, _, v0⟩ := DataW.trod_int Try.underlying24 a0
  obtain ⟨n1, p1, _, v1⟩ := DataW.trod_int Try.underlying24 a1
  obtain ⟨n2, p2, _, v2⟩ := DataW.trod_int Try.underlying24 a2
  obtain ⟨n3, p3, _, v3⟩ := DataW.trod_int Try.underlying24 a3
  simp only [List.cons.injEq, and_true] at p0 p1 p2 p3
  subst p0 p1 p2 p3
  refine ⟨[n0, n1, n2, n3], rfl, rfl, fun x hx => ?_⟩
  simp at hx
  rcases hx with rfl | rfl | rfl | rfl
  · exact wf_u64 v0
  · exact wf_u64 v1
  · exact wf_u64 v2
  · exact wf_u64 v3
set_option maxRecDepth 100000 in
theorem trod_job {n : Nat} {cs : List Value} {x : DataW H × List MemPlace} (hf : DataW.trod enc Try.prog w base spare held n 28 cs = some x) : ∃ j : Job, cs = j.cells ∧ j.In w w.heap.size := by
  obtain ⟨xs, n', _, hx, hl, hlen, hg⟩ := DataW.trod_struct Try.underlying28 hf
  rw [c_job] at hl
  clear hf
  have hlen5 : xs.length = 5 := hlen
  match cs, hl with
  | [c0, c1, c2, c3, c4, c5, c6, c7], _ =>
    obtain ⟨y0, e0⟩ := some_of hlen5 (i := 0) (by omega)
    obtain ⟨y1, e1⟩ := some_of hlen5 (i := 1) (by omega)
    obtain ⟨y2, e2⟩ := some_of hlen5 (i := 2) (by omega)
    obtain ⟨y3, e3⟩ := some_of hlen5 (i := 3) (by omega)
    obtain ⟨y4, e4⟩ := some_of hlen5 (i := 4) (by omega)
    have g0 : DataW.trod enc Try.prog w base spare held n' 23 (([c0, c1, c2, c3, c4, c5, c6, c7].drop 0).take (Try.prog.cellsOf 23)) = xs[0]? := hg 0 _ rfl
    have g1 : DataW.trod enc Try.prog w base spare held n' 25 (([c0, c1, c2, c3, c4, c5, c6, c7].drop 1).take (Try.prog.cellsOf 25)) = xs[1]? := hg 1 _ rfl
    have g2 : DataW.trod enc Try.prog w base spare held n' 3 (([c0, c1, c2, c3, c4, c5, c6, c7].drop 5).take (Try.prog.cellsOf 3)) = xs[2]? := hg 2 _ rfl
    have g3 : DataW.trod enc Try.prog w base spare held n' 3 (([c0, c1, c2, c3, c4, c5, c6, c7].drop 6).take (Try.prog.cellsOf 3)) = xs[3]? := hg 3 _ rfl
    have g4 : DataW.trod enc Try.prog w base spare held n' 26 (([c0, c1, c2, c3, c4, c5, c6, c7].drop 7).take (Try.prog.cellsOf 26)) = xs[4]? := hg 4 _ rfl
    rw [c_inss, e0] at g0
    rw [c_args, e1] at g1
    rw [c_int, e2] at g2
    rw [c_int, e3] at g3
    rw [c_u64s, e4] at g4
    simp at g0 g1 g2 g3 g4
    obtain ⟨A, n, c, l, rfl, hr, hok, hc⟩ := cell_inss g0
    obtain ⟨as_, ha, ha4, hau⟩ := four_u64 g1
    obtain ⟨fu, q2, _, w2⟩ := DataW.trod_int Try.underlying3 g2
    obtain ⟨mw, q3, _, w3⟩ := DataW.trod_int Try.underlying3 g3
    obtain ⟨pA, pn, pc, pl, rfl, hpr, hpu, hpc⟩ := cell_u64s Try.underlying26 Try.underlying24 c_u64 g4
    simp only [List.cons.injEq, and_true] at q2 q3
    subst q2 q3
    refine ⟨⟨A, n, c, l, as_, fu, mw, pA, pn, pc, pl⟩, ?_, hr, hok, hc, ha4, hau, wf_i64 w2, wf_i64 w3, hpr, hpu, hpc⟩
    unfold Job.cells
    rw [← ha]; rfl
set_option maxRecDepth 100000 in
/-- A job by value. -/
theorem read_job {r : Reach} {b0 : Nat} {v : Value} {d : DataW H} {p : List MemPlace} (hval : Value.okWide Try.prog w r b0 28 v) (h : DataW.Trod enc Try.prog w base spare held 28 v d p) :
    ∃ j : Job, v = .agg j.cells.toArray ∧ j.In w w.heap.size := by
  obtain ⟨cs, rfl, hsz⟩ := okWide_struct Try.underlying28 hval
  obtain ⟨fuel, hf⟩ := h
  obtain ⟨j, hj, hin⟩ := trod_job hf
  refine ⟨j, ?_, hin⟩
  have : cs.toList = j.cells := by simpa [Value.cells] using hj
  rw [← this]
set_option maxRecDepth 100000 in
/-- A slice of jobs. -/
theorem read_jobs {r : Reach} {b0 : Nat} {v : Value} {d : DataW H} {p : List MemPlace} (hval : Value.okWide Try.prog w r b0 22 v) (h : DataW.Trod enc Try.prog w base spare held 22 v d p) :
    ∃ A n c, ∃ l : List Job, v = .slice A n c ∧ Rd w w.heap.size 8 A n (l.flatMap Job.cells) ∧ l.length = n ∧ (∀ j ∈ l, j.In w w.heap.size) ∧ n ≤ c := by
  obtain ⟨A, n, c, l, hv, hr, hl, hg, hc⟩ := read_slice (fun j : { j : Job // j.cells.length = 8 } => j.1.cells) (fun j => j.1.In w w.heap.size) (size := 8) (fun j => j.2) (by decide) Try.underlying22 c_job
    (fun n cs x hx => by obtain ⟨j, rfl, hin⟩ := trod_job hx; exact ⟨⟨j, hin.cells_len⟩, rfl, hin⟩) hval h
  refine ⟨A, n, c, l.map (·.1), hv, ?_, by simpa using hl, ?_, hc⟩
  · rw [List.flatMap_map]; exact hr
  · intro j hj
    obtain ⟨y, hy, rfl⟩ := List.mem_map.1 hj
    exact hg y hy
end
end Go.Proofs.Ytddaeaimimdonaa
