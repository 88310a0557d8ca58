/-
  What comes in, read: slices of any elements, bytes, instructions. No program in sight.
-/
import Derived.Test.YtddaeaimimdonaaOwn
import Derived.ProofKit
import Derived.OpenShut
import Derived.ShutString
import Derived.ChangeOld
import Derived.Carry
import Derived.Deep.Slices
import Derived.Deep.Fields
namespace Go.Proofs.Ytddaeaimimdonaa
open Go.ChangeShapes Go.WideShapes Go.RowKit Go.Deep
set_option linter.unusedVariables false

section
variable {H : Type} {enc : TypeId × Value → H} {P : Program} {w : World} {base : Nat} {spare : Nat → Bool} {held : Bool}

theorem flat_at {α : Type} (cells : α → List Value) {size : Nat} (hc : ∀ y, (cells y).length = size) (hs : 0 < size) : ∀ (l : List α) (j : Nat) (u : Value), (l.flatMap cells)[j]? = some u → ∃ i y, l[i]? = some y ∧ j = i * size + j % size ∧ (cells y)[j % size]? = some u
  | [], j, u, h => by simp at h
  | y :: l, j, u, h => by
    rw [List.flatMap_cons] at h
    by_cases hj : j < size
    · rw [List.getElem?_append_left (by rw [hc]; exact hj)] at h
      exact ⟨0, y, rfl, by rw [Nat.mod_eq_of_lt hj]; omega, by rw [Nat.mod_eq_of_lt hj]; exact h⟩
    · rw [List.getElem?_append_right (by rw [hc]; omega), hc] at h
      obtain ⟨i, z, hz, he, hu⟩ := flat_at cells hc hs l (j - size) u h
      have hm : (j - size) % size = j % size := by rw [← Nat.add_mod_right, Nat.sub_add_cancel (by omega)]
      rw [hm] at he hu
      exact ⟨i + 1, z, by simpa using hz, by rw [Nat.add_mul]; omega, hu⟩
theorem flat_len {α : Type} (cells : α → List Value) {size : Nat} (hc : ∀ y, (cells y).length = size) (l : List α) : (l.flatMap cells).length = l.length * size := by
  induction l with
  | nil => simp
  | cons y l ih => rw [List.flatMap_cons, List.length_append, hc, ih, List.length_cons, Nat.add_mul]; omega

theorem list_of {α : Type} (Q : Nat → α → Prop) : ∀ n : Nat, (∀ i, i < n → ∃ y, Q i y) → ∃ l : List α, l.length = n ∧ ∀ i y, l[i]? = some y → Q i y
  | 0, _ => ⟨[], rfl, fun i y h => by simp at h⟩
  | n + 1, h => by
    obtain ⟨l, hl, hq⟩ := list_of Q n (fun i hi => h i (by omega))
    obtain ⟨y, hy⟩ := h n (by omega)
    refine ⟨l ++ [y], by simp [hl], fun i z hz => ?_⟩
    by_cases hi : i < n
    · rw [List.getElem?_append_left (by omega)] at hz
      exact hq i z hz
    · rw [List.getElem?_append_right (by omega)] at hz
      have h0 : i - l.length = 0 := by
        rcases Nat.eq_zero_or_pos (i - l.length) with h | h
        · exact h
        · rw [List.getElem?_eq_none (by simp; omega)] at hz; cases hz
      rw [h0] at hz
      obtain rfl : y = z := by simpa using hz
      obtain rfl : i = n := by omega
      exact hy

/-- A slice of whatever elements: it reads as their cells. -/
theorem read_slice {α : Type} (cells : α → List Value) (good : α → Prop) {size : Nat} (hcs : ∀ y, (cells y).length = size) (hs : 0 < size) {r : Reach} {b0 : Nat} {t e : TypeId} {v : Value} {d : DataW H} {p : List MemPlace}
    (ht : P.underlying t = some (.slice e)) (hC : P.cellsOf e = size) (hel : ∀ n cs x, DataW.trod enc P w base spare held n e cs = some x → ∃ y, cs = cells y ∧ good y)
    (hval : Value.okWide P w r b0 t v) (h : DataW.Trod enc P w base spare held t v d p) :
    ∃ A n c, ∃ l : List α, v = .slice A n c ∧ Rd w w.heap.size size A n (l.flatMap cells) ∧ l.length = n ∧ (∀ y ∈ l, good y) ∧ n ≤ c := by
  obtain ⟨A, n, c, rfl⟩ := okWide_slice ht hval
  obtain ⟨fuel, hf⟩ := h
  rcases Deep.open_slice ht hf with ⟨hv, _⟩ | ⟨a, len, cap, m, q, D, Pl, hv, hb, hl, hm, hmm, hx, hi⟩
  · simp [Value.cells] at hv
    obtain ⟨rfl, rfl, rfl⟩ := hv
    exact ⟨none, 0, 0, [], rfl, Rd.nil _ _ _ _, rfl, fun y hy => by simp at hy, Nat.le_refl _⟩
  · simp [Value.cells] at hv
    obtain ⟨rfl, rfl, rfl⟩ := hv
    have hle : n ≤ m := by rw [hmm]; split <;> omega
    have hQ : ∀ i, i < n → ∃ y : α, good y ∧ ∀ j u, (cells y)[j]? = some u → w.cell? (a.add (i * size + j)) = some u := by
      intro i hin
      obtain ⟨cs', hc, htr⟩ := hi i (by omega)
      obtain ⟨y, rfl, hg⟩ := hel _ _ _ htr
      rw [hC] at hc
      obtain ⟨_, hcl, hat⟩ := World.cells?_some hc
      refine ⟨y, hg, fun j u hu => ?_⟩
      have hj : j < size := by rw [← hcs y]; exact (List.getElem?_eq_some_iff.1 hu).1
      have := hat j hj
      rw [hu] at this
      rw [← Deep.add_add]
      exact this
    obtain ⟨l, hll, hlq⟩ := list_of _ n hQ
    refine ⟨_, n, c, l, rfl, ⟨by rw [flat_len cells hcs, hll], by omega, fun hn => ?_⟩, hll, fun y hy => ?_, hl⟩
    · obtain ⟨y0, hy0⟩ : ∃ y, l[0]? = some y := ⟨l[0]'(by omega), List.getElem?_eq_getElem _⟩
      obtain ⟨u0, hu0⟩ : ∃ u, (cells y0)[0]? = some u := ⟨(cells y0)[0]'(by rw [hcs]; omega), List.getElem?_eq_getElem _⟩
      have h0 := (hlq 0 y0 hy0).2 0 u0 hu0
      have hsp : a.spot = none := by simpa [Addr.add] using World.cell?_spot h0
      obtain ⟨b, o, sp⟩ := a
      subst hsp
      have hblk := World.block_lt_of_cell? w _ h0
      refine ⟨b, o, rfl, by simpa [Addr.add] using hblk, fun j u hu => ?_⟩
      obtain ⟨i, y, hy, hj, hu'⟩ := flat_at cells hcs hs l j u hu
      have := (hlq i y hy).2 (j % size) u hu'
      rw [← hj] at this
      unfold Addr.add at this
      split at this
      · rename_i h0; rw [h0]; exact this
      · exact this
    · obtain ⟨i, hi', he⟩ := List.getElem_of_mem hy
      exact (hlq i y (by rw [List.getElem?_eq_getElem hi', he])).1

theorem wf_i64 {n : Int} (h : (Lit.int .i64 n).wf = true) : -9223372036854775808 ≤ n ∧ n ≤ 9223372036854775807 := by
  simpa [Lit.wf, IntKind.min, IntKind.max, IntKind.signed, IntKind.bits] using h
theorem wf_u64 {n : Int} (h : (Lit.int .u64 n).wf = true) : 0 ≤ n ∧ n ≤ 18446744073709551615 := by
  simpa [Lit.wf, IntKind.min, IntKind.max, IntKind.signed, IntKind.bits] using h
theorem wf_u8 {n : Int} (h : (Lit.int .u8 n).wf = true) : 0 ≤ n ∧ n ≤ 255 := by
  simpa [Lit.wf, IntKind.min, IntKind.max, IntKind.signed, IntKind.bits] using h

/-- A slice of bytes. -/
theorem read_bytes {r : Reach} {b0 : Nat} {t e : TypeId} {v : Value} {d : DataW H} {p : List MemPlace} (ht : P.underlying t = some (.slice e)) (he : P.underlying e = some (.int .u8)) (hC : P.cellsOf e = 1)
    (hval : Value.okWide P w r b0 t v) (h : DataW.Trod enc P w base spare held t v d p) : ∃ A n c bs, v = .slice A n c ∧ RdB w w.heap.size A n bs ∧ Byts bs ∧ n ≤ c := by
  obtain ⟨A, n, c, l, hv, hr, _, hg, hc⟩ := read_slice (fun x : Int => [Value.int .u8 x]) (fun x => 0 ≤ x ∧ x ≤ 255) (size := 1) (fun _ => rfl) (by decide) ht hC
    (fun n cs x hx => by obtain ⟨z, hz, _, hw⟩ := DataW.trod_int he hx; exact ⟨z, hz, wf_u8 hw⟩) hval h
  refine ⟨A, n, c, l, hv, ?_, hg, hc⟩
  have e : ∀ l : List Int, byt l = l.flatMap fun x : Int => [Value.int .u8 x] := fun l => by
    induction l with
    | nil => rfl
    | cons x l ih => rw [List.flatMap_cons, ← ih]; rfl
  show Rd _ _ _ _ _ _
  rw [e]; exact hr

theorem trod_ins {n : Nat} {t t0 t1 t2 t3 t4 : TypeId} {f0 f1 f2 f3 f4 : Field} {cs : List Value} {x : DataW H × List MemPlace} (hs : P.underlying t = some (.struct #[f0, f1, f2, f3, f4])) (hone : oneCellFields P #[f0, f1, f2, f3, f4] = true) (hC : P.cellsOf t = 5)
    (h0 : P.underlying f0.type = some (.int .i64)) (h1 : P.underlying f1.type = some (.int .i64)) (h2 : P.underlying f2.type = some (.int .i64)) (h3 : P.underlying f3.type = some (.int .i64)) (h4 : P.underlying f4.type = some (.int .u64))
    (h : DataW.trod enc P w base spare held n t cs = some x) : ∃ i : Ins, cs = i.cells ∧ i.Ok := by
  obtain ⟨xs, n', _, hx, hl, hlen, hg⟩ := DataW.trod_struct hs h
  rw [hC] at hl
  obtain ⟨o0, k0⟩ := hone_of hone 0 f0 rfl
  obtain ⟨o1, k1⟩ := hone_of hone 1 f1 rfl
  obtain ⟨o2, k2⟩ := hone_of hone 2 f2 rfl
  obtain ⟨o3, k3⟩ := hone_of hone 3 f3 rfl
  obtain ⟨o4, k4⟩ := hone_of hone 4 f4 rfl
  match cs, hl, xs, hlen with
  | [c0, c1, c2, c3, c4], _, [y0, y1, y2, y3, y4], _ =>
    have g0 : DataW.trod enc P w base spare held n' f0.type [c0] = some y0 := by simpa [o0, k0] using hg 0 f0 rfl
    have g1 : DataW.trod enc P w base spare held n' f1.type [c1] = some y1 := by simpa [o1, k1] using hg 1 f1 rfl
    have g2 : DataW.trod enc P w base spare held n' f2.type [c2] = some y2 := by simpa [o2, k2] using hg 2 f2 rfl
    have g3 : DataW.trod enc P w base spare held n' f3.type [c3] = some y3 := by simpa [o3, k3] using hg 3 f3 rfl
    have g4 : DataW.trod enc P w base spare held n' f4.type [c4] = some y4 := by simpa [o4, k4] using hg 4 f4 rfl
    obtain ⟨z0, e0, _, w0⟩ := DataW.trod_int h0 g0
    obtain ⟨z1, e1, _, w1⟩ := DataW.trod_int h1 g1
    obtain ⟨z2, e2, _, w2⟩ := DataW.trod_int h2 g2
    obtain ⟨z3, e3, _, w3⟩ := DataW.trod_int h3 g3
    obtain ⟨z4, e4, _, w4⟩ := DataW.trod_int h4 g4
    simp only [List.cons.injEq, and_true] at e0 e1 e2 e3 e4
    subst e0; subst e1; subst e2; subst e3; subst e4
    exact ⟨⟨z0, z1, z2, z3, z4⟩, rfl, wf_i64 w0, wf_i64 w1, wf_i64 w2, wf_i64 w3, wf_u64 w4⟩

/-- An instruction by value. -/
theorem read_ins {r : Reach} {b0 : Nat} {t : TypeId} {f0 f1 f2 f3 f4 : Field} {v : Value} {d : DataW H} {p : List MemPlace} (hs : P.underlying t = some (.struct #[f0, f1, f2, f3, f4])) (hone : oneCellFields P #[f0, f1, f2, f3, f4] = true) (hC : P.cellsOf t = 5)
    (h0 : P.underlying f0.type = some (.int .i64)) (h1 : P.underlying f1.type = some (.int .i64)) (h2 : P.underlying f2.type = some (.int .i64)) (h3 : P.underlying f3.type = some (.int .i64)) (h4 : P.underlying f4.type = some (.int .u64))
    (hval : Value.okWide P w r b0 t v) (h : DataW.Trod enc P w base spare held t v d p) :
    ∃ i : Ins, v = .agg #[.int .i64 i.op, .int .i64 i.a, .int .i64 i.b, .int .i64 i.c, .int .u64 i.imm] ∧ i.Ok := by
  obtain ⟨cs, rfl, hsz⟩ := okWide_struct hs hval
  obtain ⟨fuel, hf⟩ := h
  obtain ⟨i, hi, hok⟩ := trod_ins (t0 := 0) (t1 := 0) (t2 := 0) (t3 := 0) (t4 := 0) hs hone hC h0 h1 h2 h3 h4 hf
  refine ⟨i, ?_, hok⟩
  have : cs.toList = i.cells := by simpa [Value.cells] using hi
  cases cs
  simp only at this
  subst this
  rfl
/-- A slice of instructions. -/
theorem read_inss {r : Reach} {b0 : Nat} {t e : TypeId} {f0 f1 f2 f3 f4 : Field} {v : Value} {d : DataW H} {p : List MemPlace} (ht : P.underlying t = some (.slice e)) (hs : P.underlying e = some (.struct #[f0, f1, f2, f3, f4])) (hone : oneCellFields P #[f0, f1, f2, f3, f4] = true) (hC : P.cellsOf e = 5)
    (h0 : P.underlying f0.type = some (.int .i64)) (h1 : P.underlying f1.type = some (.int .i64)) (h2 : P.underlying f2.type = some (.int .i64)) (h3 : P.underlying f3.type = some (.int .i64)) (h4 : P.underlying f4.type = some (.int .u64))
    (hval : Value.okWide P w r b0 t v) (h : DataW.Trod enc P w base spare held t v d p) :
    ∃ A n c l, v = .slice A n c ∧ RdI w w.heap.size A n l ∧ (∀ i ∈ l, i.Ok) ∧ n ≤ c := by
  obtain ⟨A, n, c, l, hv, hr, _, hg, hc⟩ := read_slice Ins.cells Ins.Ok (size := 5) (fun _ => rfl) (by decide) ht hC
    (fun n cs x hx => trod_ins (t0 := 0) (t1 := 0) (t2 := 0) (t3 := 0) (t4 := 0) hs hone hC h0 h1 h2 h3 h4 hx) hval h
  exact ⟨A, n, c, l, hv, hr, hg, hc⟩
end
end Go.Proofs.Ytddaeaimimdonaa
