/-
  What comes in, read: slices of bools. No program in sight.
-/
import Derived.Test.YtkkbgpfimapnoaaOpen
import Derived.Test.YtkkbgpfimapnoaaReachB
namespace Go.Proofs.Ytkkbgpfimapnoaa
open Go.ChangeShapes Go.WideShapes Go.RowKit Go.Deep
set_option linter.unusedVariables false

/-- A slice of bools. -/
theorem read_bools {H : Type} {enc : TypeId × Value → H} {P : Program} {w : World} {base : Nat} {spare : Nat → Bool} {held : Bool} {r : Reach} {b0 : Nat} {t e : TypeId} {v : Value} {d : DataW H} {p : List MemPlace} (ht : P.underlying t = some (.slice e)) (he : P.underlying e = some .bool) (hC : P.cellsOf e = 1)
    (hval : Value.okWide P w r b0 t v) (h : DataW.Trod enc P w base spare held t v d p) : ∃ A n c bs, v = .slice A n c ∧ Rd w w.heap.size 1 A n (bools bs) ∧ n ≤ c := by
  obtain ⟨A, n, c, l, hv, hr, _, _, hc⟩ := read_slice (fun x : Bool => [Value.bool x]) (fun _ => True) (size := 1) (fun _ => rfl) (by decide) ht hC
    (fun n cs x hx => by obtain ⟨z, hz, _⟩ := DataW.trod_bool he hx; exact ⟨z, hz, trivial⟩) hval h
  refine ⟨A, n, c, l, hv, ?_, hc⟩
  have e : ∀ l : List Bool, bools l = l.flatMap fun x : Bool => [Value.bool x] := fun l => by
    induction l with
    | nil => rfl
    | cons x l ih => rw [List.flatMap_cons, ← ih]; rfl
  rw [e]; exact hr
end Go.Proofs.Ytkkbgpfimapnoaa
