import Derived.Test.YtjggmimaolddkaaRows
import Derived.Test.YtjggmimaolddkaaOrAZ
import Derived.Test.YtjggmimaolddkaaOrAF
import Derived.Test.YtjggmimaolddkaaOrAT
import Derived.Test.YtjggmimaolddkaaOrAQ
import Derived.BigQuiet
import Derived.Deep.RegionLaw
namespace Go.Proofs.Ytjggmimaolddkaa
open Go.ChangeShapes Go.WideShapes Go.RowKit Go.Deep
set_option linter.unusedVariables false
section
variable {H : Type} {enc : TypeId × Value → H} {P : Program} {w : World} {base : Nat} {spare : Nat → Bool} {held : Bool}
theorem cell_slice {α : Type} (cells : α → List Value) (good : α → Prop) {size : Nat} (hcs : ∀ y, (cells y).length = size) (hs : 0 < size) {t e : TypeId} {fuel : Nat} {c0 : Value} {x : DataW H × List MemPlace}
 (ht : P.underlying t = some (.slice e)) (hC : P.cellsOf e = size) (hel : ∀ n cs x, DataW.trod enc P w base spare held n e cs = some x → ∃ y, cs = cells y ∧ good y)
 (hf : DataW.trod enc P w base spare held fuel t [c0] = some x) :
 ∃ A n c, ∃ l : List α, c0 = .slice A n c ∧ Rd w w.heap.size size A n (l.flatMap cells) ∧ l.length = n ∧ (∀ y ∈ l, good y) ∧ n ≤ c := by
 rcases Deep.open_slice ht hf with ⟨hv, _⟩ | ⟨a, n, c, m, q, D, Pl, hv, hb, hl, hm, hmm, hx, hi⟩
 ·obtain rfl : c0 = .slice none 0 0 := by simpa using hv
  exact ⟨none, 0, 0, [], rfl, Rd.nil _ _ _ _, rfl, fun y hy => by simp at hy, Nat.le_refl _⟩
 ·obtain rfl : c0 = .slice (some a) n c := by simpa using hv
  have hle : n ≤ m := by rw [hmm]; split <;> omega
  have hQ : ∀ i, i < n → ∃ y : α, good y ∧ ∀ j u, (cells y)[j]? = some u → w.cell? (a.add (i * size + j)) = some u := by
   intro i hin
   obtain ⟨cs', hc, htr⟩ := hi i (by omega)
   obtain ⟨y, rfl, hg⟩ := hel _ _ _ htr
   rw [hC] at hc
   obtain ⟨_, hcl, hat⟩ := World.cells?_some hc
   refine ⟨y, hg, fun j u hu => ?_⟩
   have hj : j < size := by rw [← hcs y]; exact (List.getElem?_eq_some_iff.1 hu).1
   have := hat j hj
   rw [hu] at this
   rw [← Deep.add_add]
   exact this
  obtain ⟨l, hll, hlq⟩ := list_of _ n hQ
  refine ⟨_, n, c, l, rfl, ⟨by rw [flat_len cells hcs, hll], by omega, fun hn => ?_⟩, hll, fun y hy => ?_, hl⟩
  ·obtain ⟨y0, hy0⟩ : ∃ y, l[0]? = some y := ⟨l[0]'(by omega), List.getElem?_eq_getElem _⟩
   obtain ⟨u0, hu0⟩ : ∃ u, (cells y0)[0]? = some u := ⟨(cells y0)[0]'(by rw [hcs]; omega), List.getElem?_eq_getElem _⟩
   have h0 := (hlq 0 y0 hy0).2 0 u0 hu0
   have hsp : a.spot = none := by simpa [Addr.add] using World.cell?_spot h0
   obtain ⟨b, o, sp⟩ := a
   subst hsp
   have hblk := World.block_lt_of_cell? w _ h0
   refine ⟨b, o, rfl, by simpa [Addr.add] using hblk, fun j u hu => ?_⟩
   obtain ⟨i, y, hy, hj, hu'⟩ := flat_at cells hcs hs l j u hu
   have := (hlq i y hy).2 (j % size) u hu'
   rw [← hj] at this
   unfold Addr.add at this
   split at this
   ·rename_i h0; rw [h0]; exact this
   ·exact this
  ·obtain ⟨i, hi', he⟩ := List.getElem_of_mem hy
   exact (hlq i y (by rw [List.getElem?_eq_getElem hi', he])).1
theorem flat_one {α : Type} (f : α → Value) : ∀ l : List α, l.flatMap (fun x => [f x]) = l.map f
 | [] => rfl
 | x :: l => by rw [List.flatMap_cons, flat_one f l]; rfl
theorem cell_u64s {t e : TypeId} {fuel : Nat} {c0 : Value} {x : DataW H × List MemPlace} (ht : P.underlying t = some (.slice e)) (he : P.underlying e = some (.int .u64)) (hC : P.cellsOf e = 1)
 (hf : DataW.trod enc P w base spare held fuel t [c0] = some x) : ∃ A n c l, c0 = .slice A n c ∧ RdU w w.heap.size A n l ∧ (∀ x ∈ l, U64 x) ∧ n ≤ c := by
 obtain ⟨A, n, c, l, hv, hr, _, hg, hc⟩ := cell_slice (fun x : Int => [Value.int .u64 x]) U64 (size := 1) (fun _ => rfl) (by decide) ht hC
  (fun n cs x hx => by obtain ⟨z, hz, _, hw⟩ := DataW.trod_int he hx; exact ⟨z, hz, wf_u64 hw⟩) hf
 refine ⟨A, n, c, l, hv, ?_, hg, hc⟩
 show Rd _ _ _ _ _ _
 unfold u64s
 rw [← flat_one]; exact hr
end
structure Job where
 A : Option Addr
 n : Nat
 c : Nat
 code : List Ins
 args : List Int
 fuel : Int
 maxw : Int
 pA : Option Addr
 pn : Nat
 pc : Nat
 pick : List Int
def Job.cells (j : Job) : List Value := .slice j.A j.n j.c :: (u64s j.args ++ [.int .i64 j.fuel, .int .i64 j.maxw, .slice j.pA j.pn j.pc])
structure Job.In (w : World) (B : Nat) (j : Job) : Prop where
 code : RdI w B j.A j.n j.code
 ok : ∀ i ∈ j.code, i.Ok
 cap : j.n ≤ j.c
 args4 : j.args.length = 4
 argsOk : ∀ x ∈ j.args, U64 x
 fuel : -9223372036854775808 ≤ j.fuel ∧ j.fuel ≤ 9223372036854775807
 maxw : -9223372036854775808 ≤ j.maxw ∧ j.maxw ≤ 9223372036854775807
 pick : RdU w B j.pA j.pn j.pick
 pickOk : ∀ x ∈ j.pick, U64 x
 pcap : j.pn ≤ j.pc
theorem Job.In.cells_len {w : World} {B : Nat} {j : Job} (h : j.In w B) : j.cells.length = 8 := by simp [Job.cells, h.args4]
theorem Job.In.grown {w w' : World} {B : Nat} {j : Job} (h : j.In w B) {row : Option Nat} (hg : w.grownBy w' row) (hB : B ≤ w.heap.size) (hr : ∀ g, row = some g → B ≤ g) : j.In w' B :=
 ⟨h.code.grown hg hB hr, h.ok, h.cap, h.args4, h.argsOk, h.fuel, h.maxw, h.pick.grown hg hB hr, h.pickOk, h.pcap⟩
theorem Job.In.below {w w' : World} {B : Nat} {j : Job} (h : j.In w B) (hb : Below B w w') : j.In w' B :=
 ⟨h.code.below hb, h.ok, h.cap, h.args4, h.argsOk, h.fuel, h.maxw, h.pick.below hb, h.pickOk, h.pcap⟩
section
variable {H : Type} {enc : TypeId × Value → H} {w : World} {base : Nat} {spare : Nat → Bool} {held : Bool}
theorem c_int : Try.prog.cellsOf 3 = 1 := by kernel_rfl
theorem c_u64 : Try.prog.cellsOf 31 = 1 := by kernel_rfl
theorem c_args : Try.prog.cellsOf 37 = 4 := by kernel_rfl
theorem c_ins : Try.prog.cellsOf 62 = 5 := by kernel_rfl
theorem c_inss : Try.prog.cellsOf 63 = 1 := by kernel_rfl
theorem c_u64s : Try.prog.cellsOf 34 = 1 := by kernel_rfl
theorem some_of {α : Type} {l : List α} {n i : Nat} (hl : l.length = n) (hi : i < n) : ∃ y, l[i]? = some y := ⟨_, List.getElem?_eq_getElem (by omega)⟩
set_option maxRecDepth 100000 in
theorem cell_inss {fuel : Nat} {c0 : Value} {x : DataW H × List MemPlace} (hf : DataW.trod enc Try.prog w base spare held fuel 63 [c0] = some x) :
 ∃ A n c l, c0 = .slice A n c ∧ RdI w w.heap.size A n l ∧ (∀ i ∈ l, i.Ok) ∧ n ≤ c := by
 obtain ⟨A, n, c, l, hv, hr, _, hg, hc⟩ := cell_slice Ins.cells Ins.Ok (size := 5) (fun _ => rfl) (by decide) Try.underlying63 c_ins
  (fun n cs x hx => trod_ins (t0 := 0) (t1 := 0) (t2 := 0) (t3 := 0) (t4 := 0) Try.underlying62 (by kernel_rfl) c_ins Try.underlying3 Try.underlying3 Try.underlying3 Try.underlying3 Try.underlying31 hx) hf
 exact ⟨A, n, c, l, hv, hr, hg, hc⟩
set_option maxRecDepth 100000 in
theorem four_u64 {fuel : Nat} {c0 c1 c2 c3 : Value} {x : DataW H × List MemPlace} (hf : DataW.trod enc Try.prog w base spare held fuel 37 [c0, c1, c2, c3] = some x) :
 ∃ l : List Int, [c0, c1, c2, c3] = u64s l ∧ l.length = 4 ∧ ∀ x ∈ l, U64 x := by
 obtain ⟨us, m2, _, _, _, hu, hga⟩ := DataW.trod_array Try.underlying37 hf
 obtain ⟨x0, f0⟩ := some_of hu (i := 0) (by omega)
 obtain ⟨x1, f1⟩ := some_of hu (i := 1) (by omega)
 obtain ⟨x2, f2⟩ := some_of hu (i := 2) (by omega)
 obtain ⟨x3, f3⟩ := some_of hu (i := 3) (by omega)
 have a0 := hga 0 (by omega)
 have a1 := hga 1 (by omega)
 have a2 := hga 2 (by omega)
 have a3 := hga 3 (by omega)
 rw [c_u64, f0] at a0
 rw [c_u64, f1] at a1
 rw [c_u64, f2] at a2
 rw [c_u64, f3] at a3
 simp at a0 a1 a2 a3
 obtain ⟨n0, p0, _, v0⟩ := DataW.trod_int Try.underlying31 a0
 obtain ⟨n1, p1, _, v1⟩ := DataW.trod_int Try.underlying31 a1
 obtain ⟨n2, p2, _, v2⟩ := DataW.trod_int Try.underlying31 a2
 obtain ⟨n3, p3, _, v3⟩ := DataW.trod_int Try.underlying31 a3
 simp only [List.cons.injEq, and_true] at p0 p1 p2 p3
 subst p0 p1 p2 p3
 refine ⟨[n0, n1, n2, n3], rfl, rfl, fun x hx => ?_⟩
 simp at hx
 rcases hx with rfl | rfl | rfl | rfl
 ·exact wf_u64 v0
 ·exact wf_u64 v1
 ·exact wf_u64 v2
 ·exact wf_u64 v3
end
end Go.Proofs.Ytjggmimaolddkaa
namespace Go.Proofs.Ytjggmimaolddkaa
open Go.ChangeShapes Go.WideShapes Go.RowKit Go.Deep
set_option linter.unusedVariables false
structure Rc7.Wf (q : Rc7) : Prop where
 ok : q.Ok
 from_ : -9223372036854775808 ≤ q.from_ ∧ q.from_ ≤ 9223372036854775807
 till : -9223372036854775808 ≤ q.till ∧ q.till ≤ 9223372036854775807
structure Rx.Wf (w : World) (B : Nat) (x : Rx) : Prop where
 row : x.r.Ok
 news : ∀ h ∈ x.news, U64 h
 in_ : x.In w B
section
variable {H : Type} {enc : TypeId × Value → H} {w : World} {base : Nat} {spare : Nat → Bool} {held : Bool}
theorem c_bool : Try.prog.cellsOf 4 = 1 := by kernel_rfl
theorem c_errno : Try.prog.cellsOf 25 = 1 := by kernel_rfl
theorem c_res : Try.prog.cellsOf 33 = 2 := by kernel_rfl
theorem c_call : Try.prog.cellsOf 39 = 5 := by kernel_rfl
theorem c_rec : Try.prog.cellsOf 41 = 13 := by kernel_rfl
theorem c_row : Try.prog.cellsOf 36 = 6 := by kernel_rfl
theorem c_cfg : Try.prog.cellsOf 44 = 6 := by kernel_rfl
set_option maxRecDepth 100000 in
theorem trod_res {n : Nat} {cs : List Value} {x : DataW H × List MemPlace} (hf : DataW.trod enc Try.prog w base spare held n 33 cs = some x) : ∃ a b, cs = [.int .i64 a, .int .u64 b] := by
 obtain ⟨xs, n', _, hx, hl, hlen, hg⟩ := DataW.trod_struct Try.underlying33 hf
 rw [c_res] at hl
 clear hf
 have hlenk : xs.length = 2 := hlen
 match cs, hl with
 | [c0, c1], _ =>
   obtain ⟨y0, e0⟩ := some_of hlenk (i := 0) (by omega)
   obtain ⟨y1, e1⟩ := some_of hlenk (i := 1) (by omega)
   have g0 : DataW.trod enc Try.prog w base spare held n' 25 (([c0, c1].drop 0).take (Try.prog.cellsOf 25)) = xs[0]? := hg 0 _ rfl
   have g1 : DataW.trod enc Try.prog w base spare held n' 31 (([c0, c1].drop 1).take (Try.prog.cellsOf 31)) = xs[1]? := hg 1 _ rfl
   rw [c_errno, e0] at g0
   rw [c_u64, e1] at g1
   simp at g0 g1
   obtain ⟨a, q0, _, w0⟩ := DataW.trod_int Try.underlying25 g0
   obtain ⟨b, q1, _, w1⟩ := DataW.trod_int Try.underlying31 g1
   simp only [List.cons.injEq, and_true] at q0 q1
   subst q0 q1
   exact ⟨a, b, rfl⟩
set_option maxRecDepth 100000 in
theorem trod_call {n : Nat} {cs : List Value} {x : DataW H × List MemPlace} (hf : DataW.trod enc Try.prog w base spare held n 39 cs = some x) : ∃ a l, cs = .int .i64 a :: u64s l ∧ l.length = 4 ∧ ∀ z ∈ l, U64 z := by
 obtain ⟨xs, n', _, hx, hl, hlen, hg⟩ := DataW.trod_struct Try.underlying39 hf
 rw [c_call] at hl
 clear hf
 have hlenk : xs.length = 2 := hlen
 match cs, hl with
 | [c0, c1, c2, c3, c4], _ =>
   obtain ⟨y0, e0⟩ := some_of hlenk (i := 0) (by omega)
   obtain ⟨y1, e1⟩ := some_of hlenk (i := 1) (by omega)
   have g0 : DataW.trod enc Try.prog w base spare held n' 3 (([c0, c1, c2, c3, c4].drop 0).take (Try.prog.cellsOf 3)) = xs[0]? := hg 0 _ rfl
   have g1 : DataW.trod enc Try.prog w base spare held n' 37 (([c0, c1, c2, c3, c4].drop 1).take (Try.prog.cellsOf 37)) = xs[1]? := hg 1 _ rfl
   rw [c_int, e0] at g0
   rw [c_args, e1] at g1
   simp at g0 g1
   obtain ⟨a, q0, _, w0⟩ := DataW.trod_int Try.underlying3 g0
   obtain ⟨l, hl2, h4, hu⟩ := four_u64 g1
   simp only [List.cons.injEq, and_true] at q0
   subst q0
   exact ⟨a, l, by rw [← hl2], h4, hu⟩
set_option maxRecDepth 100000 in
set_option maxHeartbeats 1000000 in
theorem trod_rec {n : Nat} {cs : List Value} {x : DataW H × List MemPlace} (hf : DataW.trod enc Try.prog w base spare held n 41 cs = some x) : ∃ q : Rc7, cs = q.cells ∧ q.Wf := by
 obtain ⟨xs, n', _, hx, hl, hlen, hg⟩ := DataW.trod_struct Try.underlying41 hf
 rw [c_rec] at hl
 clear hf
 have hlenk : xs.length = 8 := hlen
 match cs, hl with
 | [c0, c1, c2, c3, c4, c5, c6, c7, c8, c9, c10, c11, c12], _ =>
   obtain ⟨y0, e0⟩ := some_of hlenk (i := 0) (by omega)
   obtain ⟨y1, e1⟩ := some_of hlenk (i := 1) (by omega)
   obtain ⟨y2, e2⟩ := some_of hlenk (i := 2) (by omega)
   obtain ⟨y3, e3⟩ := some_of hlenk (i := 3) (by omega)
   obtain ⟨y4, e4⟩ := some_of hlenk (i := 4) (by omega)
   obtain ⟨y5, e5⟩ := some_of hlenk (i := 5) (by omega)
   obtain ⟨y6, e6⟩ := some_of hlenk (i := 6) (by omega)
   obtain ⟨y7, e7⟩ := some_of hlenk (i := 7) (by omega)
   have g0 : DataW.trod enc Try.prog w base spare held n' 3 (([c0, c1, c2, c3, c4, c5, c6, c7, c8, c9, c10, c11, c12].drop 0).take (Try.prog.cellsOf 3)) = xs[0]? := hg 0 _ rfl
   have g1 : DataW.trod enc Try.prog w base spare held n' 3 (([c0, c1, c2, c3, c4, c5, c6, c7, c8, c9, c10, c11, c12].drop 1).take (Try.prog.cellsOf 3)) = xs[1]? := hg 1 _ rfl
   have g2 : DataW.trod enc Try.prog w base spare held n' 39 (([c0, c1, c2, c3, c4, c5, c6, c7, c8, c9, c10, c11, c12].drop 2).take (Try.prog.cellsOf 39)) = xs[2]? := hg 2 _ rfl
   have g3 : DataW.trod enc Try.prog w base spare held n' 3 (([c0, c1, c2, c3, c4, c5, c6, c7, c8, c9, c10, c11, c12].drop 7).take (Try.prog.cellsOf 3)) = xs[3]? := hg 3 _ rfl
   have g4 : DataW.trod enc Try.prog w base spare held n' 3 (([c0, c1, c2, c3, c4, c5, c6, c7, c8, c9, c10, c11, c12].drop 8).take (Try.prog.cellsOf 3)) = xs[4]? := hg 4 _ rfl
   have g5 : DataW.trod enc Try.prog w base spare held n' 3 (([c0, c1, c2, c3, c4, c5, c6, c7, c8, c9, c10, c11, c12].drop 9).take (Try.prog.cellsOf 3)) = xs[5]? := hg 5 _ rfl
   have g6 : DataW.trod enc Try.prog w base spare held n' 4 (([c0, c1, c2, c3, c4, c5, c6, c7, c8, c9, c10, c11, c12].drop 10).take (Try.prog.cellsOf 4)) = xs[6]? := hg 6 _ rfl
   have g7 : DataW.trod enc Try.prog w base spare held n' 33 (([c0, c1, c2, c3, c4, c5, c6, c7, c8, c9, c10, c11, c12].drop 11).take (Try.prog.cellsOf 33)) = xs[7]? := hg 7 _ rfl
   rw [c_int, e0] at g0
   rw [c_int, e1] at g1
   rw [c_call, e2] at g2
   rw [c_int, e3] at g3
   rw [c_int, e4] at g4
   rw [c_int, e5] at g5
   rw [c_bool, e6] at g6
   rw [c_res, e7] at g7
   simp at g0 g1 g2 g3 g4 g5 g6 g7
   obtain ⟨z0, q0, _, w0⟩ := DataW.trod_int Try.underlying3 g0
   obtain ⟨z1, q1, _, w1⟩ := DataW.trod_int Try.underlying3 g1
   obtain ⟨z2, l, q2, h4, hu⟩ := trod_call g2
   obtain ⟨a0, a1, a2, a3, rfl⟩ := four h4
   obtain ⟨z3, q3, _, w3⟩ := DataW.trod_int Try.underlying3 g3
   obtain ⟨z4, q4, _, w4⟩ := DataW.trod_int Try.underlying3 g4
   obtain ⟨z5, q5, _, w5⟩ := DataW.trod_int Try.underlying3 g5
   obtain ⟨z6, q6, _⟩ := DataW.trod_bool Try.underlying4 g6
   obtain ⟨z7, z8, q7⟩ := trod_res g7
   simp only [u64s, List.map_cons, List.map_nil, List.cons.injEq, and_true] at q0 q1 q2 q3 q4 q5 q6 q7
   obtain ⟨r0, r1, r2, r3, r4⟩ := q2
   obtain ⟨r5, r6⟩ := q7
   subst q0 q1 r0 r1 r2 r3 r4 q3 q4 q5 q6 r5 r6
   exact ⟨⟨z0, z1, z2, a0, a1, a2, a3, z3, z4, z5, z6, z7, z8⟩, rfl, ⟨⟨wf_i64 w0, wf_i64 w1⟩, hu⟩, wf_i64 w3, wf_i64 w4⟩
set_option maxRecDepth 100000 in
set_option maxHeartbeats 1000000 in
theorem trod_row {n : Nat} {cs : List Value} {x : DataW H × List MemPlace} (hf : DataW.trod enc Try.prog w base spare held n 36 cs = some x) : ∃ q : Rx, cs = q.r.cells ∧ q.Wf w w.heap.size := by
 obtain ⟨xs, n', _, hx, hl, hlen, hg⟩ := DataW.trod_struct Try.underlying36 hf
 rw [c_row] at hl
 clear hf
 have hlenk : xs.length = 5 := hlen
 match cs, hl with
 | [c0, c1, c2, c3, c4, c5], _ =>
   obtain ⟨y0, e0⟩ := some_of hlenk (i := 0) (by omega)
   obtain ⟨y1, e1⟩ := some_of hlenk (i := 1) (by omega)
   obtain ⟨y2, e2⟩ := some_of hlenk (i := 2) (by omega)
   obtain ⟨y3, e3⟩ := some_of hlenk (i := 3) (by omega)
   obtain ⟨y4, e4⟩ := some_of hlenk (i := 4) (by omega)
   have g0 : DataW.trod enc Try.prog w base spare held n' 3 (([c0, c1, c2, c3, c4, c5].drop 0).take (Try.prog.cellsOf 3)) = xs[0]? := hg 0 _ rfl
   have g1 : DataW.trod enc Try.prog w base spare held n' 3 (([c0, c1, c2, c3, c4, c5].drop 1).take (Try.prog.cellsOf 3)) = xs[1]? := hg 1 _ rfl
   have g2 : DataW.trod enc Try.prog w base spare held n' 3 (([c0, c1, c2, c3, c4, c5].drop 2).take (Try.prog.cellsOf 3)) = xs[2]? := hg 2 _ rfl
   have g3 : DataW.trod enc Try.prog w base spare held n' 33 (([c0, c1, c2, c3, c4, c5].drop 3).take (Try.prog.cellsOf 33)) = xs[3]? := hg 3 _ rfl
   have g4 : DataW.trod enc Try.prog w base spare held n' 34 (([c0, c1, c2, c3, c4, c5].drop 5).take (Try.prog.cellsOf 34)) = xs[4]? := hg 4 _ rfl
   rw [c_int, e0] at g0
   rw [c_int, e1] at g1
   rw [c_int, e2] at g2
   rw [c_res, e3] at g3
   rw [c_u64s, e4] at g4
   simp at g0 g1 g2 g3 g4
   obtain ⟨z0, q0, _, w0⟩ := DataW.trod_int Try.underlying3 g0
   obtain ⟨z1, q1, _, w1⟩ := DataW.trod_int Try.underlying3 g1
   obtain ⟨z2, q2, _, w2⟩ := DataW.trod_int Try.underlying3 g2
   obtain ⟨z3, z4, q3⟩ := trod_res g3
   obtain ⟨pA, pn, pc, pl, rfl, hpr, hpu, hpc⟩ := cell_u64s Try.underlying34 Try.underlying31 c_u64 g4
   simp only [List.cons.injEq, and_true] at q0 q1 q2 q3
   obtain ⟨r5, r6⟩ := q3
   subst q0 q1 q2 r5 r6
   obtain rfl : pl.length = pn := hpr.u64Len
   exact ⟨⟨⟨z0, z1, z2, z3, z4, .slice pA pl.length pc⟩, pl⟩, rfl, ⟨⟨wf_i64 w1, wf_i64 w2⟩, wf_i64 w0, _, _, _, rfl⟩, hpu, pA, pc, rfl, hpr, hpc⟩
set_option maxRecDepth 100000 in
theorem read_cfg {r : Reach} {b0 : Nat} {v : Value} {d : DataW H} {p : List MemPlace} (hval : Value.okWide Try.prog w r b0 44 v) (h : DataW.Trod enc Try.prog w base spare held 44 v d p) :
 ∃ c : Cfg, v = c.v := by
 obtain ⟨cv, rfl, hsz⟩ := okWide_struct Try.underlying44 hval
 obtain ⟨fuel, hf⟩ := h
 have hmain : ∃ c : Cfg, cv.toList = c.cells := by
  have hf : DataW.trod enc Try.prog w base spare held fuel 44 cv.toList = some _ := hf
  generalize cv.toList = cs at hf
  obtain ⟨xs, n', _, hx, hl, hlen, hg⟩ := DataW.trod_struct Try.underlying44 hf
  rw [c_cfg] at hl
  clear hf
  have hlenk : xs.length = 6 := hlen
  match cs, hl with
  | [c0, c1, c2, c3, c4, c5], _ =>
    obtain ⟨y0, e0⟩ := some_of hlenk (i := 0) (by omega)
    obtain ⟨y1, e1⟩ := some_of hlenk (i := 1) (by omega)
    obtain ⟨y2, e2⟩ := some_of hlenk (i := 2) (by omega)
    obtain ⟨y3, e3⟩ := some_of hlenk (i := 3) (by omega)
    obtain ⟨y4, e4⟩ := some_of hlenk (i := 4) (by omega)
    obtain ⟨y5, e5⟩ := some_of hlenk (i := 5) (by omega)
    have g0 : DataW.trod enc Try.prog w base spare held n' 3 (([c0, c1, c2, c3, c4, c5].drop 0).take (Try.prog.cellsOf 3)) = xs[0]? := hg 0 _ rfl
    have g1 : DataW.trod enc Try.prog w base spare held n' 3 (([c0, c1, c2, c3, c4, c5].drop 1).take (Try.prog.cellsOf 3)) = xs[1]? := hg 1 _ rfl
    have g2 : DataW.trod enc Try.prog w base spare held n' 3 (([c0, c1, c2, c3, c4, c5].drop 2).take (Try.prog.cellsOf 3)) = xs[2]? := hg 2 _ rfl
    have g3 : DataW.trod enc Try.prog w base spare held n' 3 (([c0, c1, c2, c3, c4, c5].drop 3).take (Try.prog.cellsOf 3)) = xs[3]? := hg 3 _ rfl
    have g4 : DataW.trod enc Try.prog w base spare held n' 31 (([c0, c1, c2, c3, c4, c5].drop 4).take (Try.prog.cellsOf 31)) = xs[4]? := hg 4 _ rfl
    have g5 : DataW.trod enc Try.prog w base spare held n' 31 (([c0, c1, c2, c3, c4, c5].drop 5).take (Try.prog.cellsOf 31)) = xs[5]? := hg 5 _ rfl
    rw [c_int, e0] at g0
    rw [c_int, e1] at g1
    rw [c_int, e2] at g2
    rw [c_int, e3] at g3
    rw [c_u64, e4] at g4
    rw [c_u64, e5] at g5
    simp at g0 g1 g2 g3 g4 g5
    obtain ⟨z0, q0, _, w0⟩ := DataW.trod_int Try.underlying3 g0
    obtain ⟨z1, q1, _, w1⟩ := DataW.trod_int Try.underlying3 g1
    obtain ⟨z2, q2, _, w2⟩ := DataW.trod_int Try.underlying3 g2
    obtain ⟨z3, q3, _, w3⟩ := DataW.trod_int Try.underlying3 g3
    obtain ⟨z4, q4, _, w4⟩ := DataW.trod_int Try.underlying31 g4
    obtain ⟨z5, q5, _, w5⟩ := DataW.trod_int Try.underlying31 g5
    simp only [List.cons.injEq, and_true] at q0 q1 q2 q3 q4 q5
    subst q0 q1 q2 q3 q4 q5
    exact ⟨⟨z0, z1, z2, z3, z4, z5⟩, rfl⟩
 obtain ⟨c, hc⟩ := hmain
 refine ⟨c, ?_⟩
 have : cv = c.cells.toArray := by rw [← hc]
 rw [this]; rfl
set_option maxRecDepth 100000 in
theorem read_recs {r : Reach} {b0 : Nat} {v : Value} {d : DataW H} {p : List MemPlace} (hval : Value.okWide Try.prog w r b0 22 v) (h : DataW.Trod enc Try.prog w base spare held 22 v d p) :
 ∃ A n c, ∃ l : List Rc7, v = .slice A n c ∧ RdR w w.heap.size A n l ∧ (∀ q ∈ l, q.Wf) ∧ n ≤ c := by
 obtain ⟨A, n, c, l, hv, hr, hl, hg, hc⟩ := read_slice Rc7.cells Rc7.Wf (size := 13) (fun _ => rfl) (by decide) Try.underlying22 c_rec (fun n cs x hx => trod_rec hx) hval h
 exact ⟨A, n, c, l, hv, hr, hg, hc⟩
set_option maxRecDepth 100000 in
theorem read_rows {r : Reach} {b0 : Nat} {v : Value} {d : DataW H} {p : List MemPlace} (hval : Value.okWide Try.prog w r b0 23 v) (h : DataW.Trod enc Try.prog w base spare held 23 v d p) :
 ∃ A n c, ∃ l : List Rx, v = .slice A n c ∧ RowsIn w w.heap.size A n l ∧ (∀ x ∈ l, x.Wf w w.heap.size) ∧ n ≤ c := by
 obtain ⟨A, n, c, l, hv, hr, hl, hg, hc⟩ := read_slice (fun x : Rx => x.r.cells) (fun x => x.Wf w w.heap.size) (size := 6) (fun _ => rfl) (by decide) Try.underlying23 c_row (fun n cs x hx => trod_row hx) hval h
 refine ⟨A, n, c, l, hv, ⟨?_, fun x hx => (hg x hx).in_⟩, hg, hc⟩
 show Rd _ _ _ _ _ _
 unfold rwCells
 rw [List.flatMap_map]
 exact hr
set_option maxRecDepth 100000 in
theorem read_progs {r : Reach} {b0 : Nat} {v : Value} {d : DataW H} {p : List MemPlace} (hval : Value.okWide Try.prog w r b0 45 v) (h : DataW.Trod enc Try.prog w base spare held 45 v d p) :
 ∃ A n c, ∃ l : List (List Ins), v = .slice A n c ∧ ProgsIn w w.heap.size A n l ∧ (∀ q ∈ l, ∀ i ∈ q, i.Ok) ∧ n ≤ c := by
 obtain ⟨A, n, c, l, hv, hr, hl, hg, hc⟩ := read_slice (fun y : Value × List Ins => [y.1]) (fun y => (∃ A' c', y.1 = .slice A' y.2.length c' ∧ RdI w w.heap.size A' y.2.length y.2 ∧ y.2.length ≤ c') ∧ ∀ i ∈ y.2, i.Ok) (size := 1) (fun _ => rfl) (by decide) Try.underlying45 c_inss
  (fun n cs x hx => by
    have hlen : ∃ c0, cs = [c0] := by
     rcases Deep.open_slice Try.underlying63 hx with ⟨hv, _⟩ | ⟨_, _, _, _, _, _, _, hv, _⟩
     ·exact ⟨_, hv⟩
     ·exact ⟨_, hv⟩
    obtain ⟨c0, rfl⟩ := hlen
    obtain ⟨A', n', c', l', rfl, hr', hok', hc'⟩ := cell_inss hx
    obtain rfl : l'.length = n' := hr'.insLen
    exact ⟨(.slice A' l'.length c', l'), rfl, ⟨A', c', rfl, hr', hc'⟩, hok'⟩) hval h
 refine ⟨A, n, c, l.map (·.2), hv, ⟨by simpa using hl, hr.le, fun k q hq => ?_⟩, fun q hq => ?_, hc⟩
 ·obtain ⟨hk, he⟩ := List.getElem?_eq_some_iff.1 hq
  rw [List.length_map] at hk
  obtain ⟨b, o, hA, hb, hcell⟩ := hr.at_ (by omega)
  have hy : l[k]? = some (l[k]'hk) := List.getElem?_eq_getElem hk
  have hq2 : (l[k]'hk).2 = q := by simpa using he
  obtain ⟨⟨A', c', hv', hr', hc'⟩, _⟩ := hg _ (List.getElem_mem hk)
  rw [hq2] at hv' hr' hc'
  refine ⟨b, o, A', c', hA, hb, ?_, hr', hc'⟩
  rw [← hv']
  exact hcell k _ (by rw [flat_one]; simp [hy])
 ·obtain ⟨y, hy, rfl⟩ := List.mem_map.1 hq
  exact (hg y hy).2
end
end Go.Proofs.Ytjggmimaolddkaa
namespace Go.Proofs.Ytjggmimaolddkaa
open Go.RowKit Go.Maps
set_option linter.unusedVariables false
structure PBox where
 h : Int
 words : List Int
def PBox.cells (b : PBox) : List Value := .int .u64 b.h :: u64s b.words
structure RdX (w : World) (B : Nat) (A : Option Addr) (n : Nat) (l : List PBox) : Prop where
 rd : Rd w B 9 A n (l.flatMap PBox.cells)
 len : l.length = n
 ok : ∀ b ∈ l, U64 b.h ∧ b.words.length = 8
theorem PBox.cells_len {b : PBox} (h : b.words.length = 8) : b.cells.length = 9 := by simp [PBox.cells, h]
theorem RdX.below {w w' : World} {B n : Nat} {A : Option Addr} {l : List PBox} (h : RdX w B A n l) (hb : Below B w w') : RdX w' B A n l := ⟨h.rd.below hb, h.len, h.ok⟩
theorem RdX.more {w : World} {B B' n : Nat} {A : Option Addr} {l : List PBox} (h : RdX w B A n l) (hB : B ≤ B') : RdX w B' A n l := ⟨h.rd.more hB, h.len, h.ok⟩
theorem flat_nine {l : List PBox} (hl : ∀ b ∈ l, b.words.length = 8) : ∀ {k : Nat} {b : PBox}, l[k]? = some b → ∀ i, i < 9 → (l.flatMap PBox.cells)[k * 9 + i]? = b.cells[i]? := by
 induction l with
 | nil => intro k b h; simp at h
 | cons y l ih =>
   intro k b hk i hi
   have hy := PBox.cells_len (hl y (by simp))
   rw [List.flatMap_cons]
   rcases k with _ | k
   ·simp at hk
    subst hk
    rw [Nat.zero_mul, Nat.zero_add, List.getElem?_append_left (by omega)]
   ·rw [List.getElem?_append_right (by omega), show (k + 1) * 9 + i - y.cells.length = k * 9 + i by omega]
    exact ih (fun b hb => hl b (by simp [hb])) (by simpa using hk) i hi
theorem RdX.at_ {w : World} {B n : Nat} {A : Option Addr} {l : List PBox} (h : RdX w B A n l) {k : Nat} (hk : k < n) :
 ∃ b o x x0 x1 x2 x3 x4 x5 x6 x7, A = some ⟨b, o, none⟩ ∧ b < B ∧ l[k]? = some ⟨x, [x0, x1, x2, x3, x4, x5, x6, x7]⟩ ∧ w.cell? ⟨b, o + k * 9, none⟩ = some (.int .u64 x) ∧
  w.cell? ⟨b, o + k * 9 + 1, none⟩ = some (.int .u64 x0) ∧ w.cell? ⟨b, o + k * 9 + 2, none⟩ = some (.int .u64 x1) ∧ w.cell? ⟨b, o + k * 9 + 3, none⟩ = some (.int .u64 x2) ∧ w.cell? ⟨b, o + k * 9 + 4, none⟩ = some (.int .u64 x3) ∧ w.cell? ⟨b, o + k * 9 + 5, none⟩ = some (.int .u64 x4) ∧ w.cell? ⟨b, o + k * 9 + 6, none⟩ = some (.int .u64 x5) ∧ w.cell? ⟨b, o + k * 9 + 7, none⟩ = some (.int .u64 x6) ∧ w.cell? ⟨b, o + k * 9 + 8, none⟩ = some (.int .u64 x7) := by
 obtain ⟨b, o, e, hb, hc⟩ := h.rd.at_ (by omega)
 have hkl : k < l.length := by rw [h.len]; exact hk
 have hl := List.getElem?_eq_getElem hkl
 obtain ⟨P, hP⟩ : ∃ P, l[k] = P := ⟨_, rfl⟩
 rw [hP] at hl
 obtain ⟨x, ws⟩ := P
 have h8 := (h.ok _ (List.mem_of_getElem? hl)).2
 obtain ⟨x0, x1, x2, x3, x4, x5, x6, x7, rfl⟩ := eight h8
 have hcell := flat_nine (fun b hb => (h.ok b hb).2) hl
 refine ⟨b, o, x, x0, x1, x2, x3, x4, x5, x6, x7, e, hb, hl, ?_, ?_, ?_, ?_, ?_, ?_, ?_, ?_, ?_⟩
 ·exact hc (k * 9) _ (by rw [← Nat.add_zero (k * 9), hcell 0 (by omega)]; rfl)
 all_goals
  rw [Nat.add_assoc]
  refine hc _ _ ?_
  rw [hcell _ (by omega)]
  rfl
structure Boxed6 (s : MSt) (xs : List PBox) : Prop where
 rise : (xs.map PBox.h).Pairwise (· < ·)
 all : ∀ x, x ∈ xs.map PBox.h ↔ (U64 x ∧ (s.blocks x).isSome = true)
 word : ∀ b ∈ xs, s.blocks b.h = some b.words
end Go.Proofs.Ytjggmimaolddkaa
