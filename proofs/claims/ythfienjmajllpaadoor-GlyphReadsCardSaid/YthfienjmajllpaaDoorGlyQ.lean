/-
  Chapter 2: contract of tumblerlaw02.alive.
-/
import Derived.Test.YthfienjmajllpaaDoorGlyF
import Derived.Test.YthfienjmajllpaaDoorGlyI
import Derived.Test.YthfienjmajllpaaDoorGlyM
namespace Go.Proofs.YthfienjmajllpaaDoor
open Go.RowKit
set_option linter.unusedVariables false

/-- Lex, its answer named. -/
theorem lex_to {s : ByteArray} {l : List Tok} {p ec : Int} (h : lexP s = (l, p, ec)) (w : World) (hs63 : s.size ≤ maxLen) :
    Calls Tryd.prog 13 #[.string s] w fun e w' => ∃ A c, e = .returned (.tuple #[.slice A l.length c, .int .i64 p, .int .i64 ec]) ∧ w'.ownsRow w.heap.size 26 5 (.slice A l.length c) l.length (tokCells l) ∧ RdT w' w'.heap.size A l.length l ∧ Below w.heap.size w w' := by
  refine (lex_any s w hs63).mono ?_
  rintro e w' ⟨v, rfl, ho, hb⟩
  rw [h] at ho ⊢
  obtain ⟨A, c, rfl, _, hr⟩ := Rd.of_own_cap ho
  exact ⟨A, c, rfl, ho, hr, hb⟩
theorem Rd.tokIs {w : World} {B n : Nat} {A : Option Addr} {l : List Tok} (h : RdT w B A n l) {k : Nat} {t : Tok} (ht : l[k]? = some t) (b o : Nat) (hA : A = some ⟨b, o, none⟩) :
    w.cell? ⟨b, o + k * 5, none⟩ = some (.int .i64 t.kind) ∧ w.cell? ⟨b, o + k * 5 + 1, none⟩ = some (.string t.text) ∧
      w.cell? ⟨b, o + k * 5 + 2, none⟩ = some (.int .u64 t.num) ∧ w.cell? ⟨b, o + k * 5 + 3, none⟩ = some (.int .i64 t.at_) ∧ w.cell? ⟨b, o + k * 5 + 4, none⟩ = some (.int .i64 t.line) := by
  have hk : k < n := by rw [← h.tokLen]; exact (List.getElem?_eq_some_iff.1 ht).1
  obtain ⟨b', o', t', hA', _, ht', c⟩ := h.tokAt hk
  rw [hA] at hA'
  cases hA'
  rw [ht] at ht'
  cases ht'
  exact c
def aText : ByteArray := ⟨#[114, 49, 32, 226, 134, 144, 32, 114, 50, 32, 43, 32, 49, 48, 32, 35, 32, 115, 117, 109, 10]⟩
def aText2 : ByteArray := ⟨#[97, 32, 48, 49]⟩
def aToks : List Tok := [⟨0, ⟨#[114, 49]⟩, 0, 0, 0⟩, ⟨2, ⟨#[226, 134, 144]⟩, 0, 3, 0⟩, ⟨0, ⟨#[114, 50]⟩, 0, 7, 0⟩, ⟨2, ⟨#[43]⟩, 0, 10, 0⟩, ⟨1, ⟨#[]⟩, 10, 12, 0⟩, ⟨3, ⟨#[]⟩, 0, 20, 0⟩]
theorem aLex : lexP aText = (aToks, 0, 0) := by decide +kernel
theorem aLex2 : lexP aText2 = ([], 2, 22) := by decide +kernel
theorem aLines : (linesP aToks).length = 1 := by decide +kernel
theorem aPrint : printP aToks = [114, 49, 32, 226, 134, 144, 32, 114, 50, 32, 43, 32, 49, 48, 10] := by
  have h : Lib.decDigits 10 = [49, 48] := by rw [Lib.decDigits_two (by omega) (by omega)]; rfl
  simp [printP, aToks, printGo, tokText, h]
theorem aOk : ∀ t ∈ aToks, t.Ok := by
  intro t ht
  simp only [aToks, List.mem_cons, List.mem_nil_iff, or_false] at ht
  rcases ht with rfl | rfl | rfl | rfl | rfl | rfl <;> exact ⟨by decide, by decide, by decide, by decide, by decide⟩
end Go.Proofs.YthfienjmajllpaaDoor
