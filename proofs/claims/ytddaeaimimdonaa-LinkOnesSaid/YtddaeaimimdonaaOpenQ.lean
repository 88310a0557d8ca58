/-
  Chapter 19: what comes in, read: [4]uint64, []uint64.
-/
import Derived.Test.YtddaeaimimdonaaOpenJ
namespace Go.Proofs.Ytddaeaimimdonaa
open Go.ChangeShapes Go.WideShapes Go.RowKit Go.Deep
set_option linter.unusedVariables false

section
variable {H : Type} {enc : TypeId × Value → H} {w : World} {base : Nat} {spare : Nat → Bool} {held : Bool}
set_option maxRecDepth 100000 in
theorem read_u64q {r : Reach} {b0 : Nat} {v : Value} {d : DataW H} {p : List MemPlace} (hval : Value.okWide Try.prog w r b0 26 v) (h : DataW.Trod enc Try.prog w base spare held 26 v d p) :
    ∃ A n c l, v = .slice A n c ∧ RdU w w.heap.size A n l ∧ (∀ x ∈ l, U64 x) ∧ n ≤ c := by
  obtain ⟨A, n, c, l, hv, hr, _, hg, hc⟩ := read_slice (fun x : Int => [Value.int .u64 x]) U64 (size := 1) (fun _ => rfl) (by decide) Try.underlying26 c_u64
    (fun n cs x hx => by obtain ⟨z, hz, _, hw⟩ := DataW.trod_int Try.underlying24 hx; exact ⟨z, hz, wf_u64 hw⟩) hval h
  refine ⟨A, n, c, l, hv, ?_, hg, hc⟩
  show Rd _ _ _ _ _ _
  unfold u64s
  rw [← flat_one]; exact hr
set_option maxRecDepth 100000 in
theorem read_args {r : Reach} {b0 : Nat} {v : Value} {d : DataW H} {p : List MemPlace} (hval : Value.okWide Try.prog w r b0 25 v) (h : DataW.Trod enc Try.prog w base spare held 25 v d p) :
    ∃ l : List Int, v = .agg (u64s l).toArray ∧ l.length = 4 ∧ ∀ x ∈ l, U64 x := by
  obtain ⟨cs, rfl, hsz⟩ : ∃ cs, v = .agg cs ∧ cs.size = Try.prog.cellsOf 25 := by
    unfold Value.okWide at hval
    rw [Try.underlying25] at hval
    cases v <;> simp at hval <;> first | (exact ⟨_, rfl, by simpa using hval⟩) | (exact ⟨_, rfl, hval.1⟩) | contradiction
  obtain ⟨fuel, hf⟩ := h
  rw [c_args] at hsz
  obtain ⟨cs⟩ := cs
  have hsz : cs.length = 4 := by simpa using hsz
  match cs, hsz with
  | [c0, c1, c2, c3], _ =>
    have hf : DataW.trod enc Try.prog w base spare held fuel 25 [c0, c1, c2, c3] = some (d, p) := by simpa [Value.cells] using hf
    obtain ⟨l, h1, h2, h3⟩ := four_u64 hf
    exact ⟨l, by rw [← h1], h2, h3⟩
end
end Go.Proofs.Ytddaeaimimdonaa
