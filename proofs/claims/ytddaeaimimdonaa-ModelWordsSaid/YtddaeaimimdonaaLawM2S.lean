/-
  Chapter 6: small lemmas of LawM2 (a claim has at most 60 files).
-/
import Derived.Test.YtddaeaimimdonaaLawM1
namespace Go.Proofs.Ytddaeaimimdonaa
open Go.RowKit Go.Maps
set_option linter.unusedVariables false

theorem bk_job {w : World} {g : Nat} {j : Job} (h : Bk w g 28 j.cells.toArray) {a0 a1 a2 a3 : Int} (ha : j.args = [a0, a1, a2, a3]) :
    w.cell? ⟨g, 0, none⟩ = some (.slice j.A j.n j.c) ∧ w.cell? ⟨g, 1, none⟩ = some (.int .u64 a0) ∧ w.cell? ⟨g, 2, none⟩ = some (.int .u64 a1) ∧ w.cell? ⟨g, 3, none⟩ = some (.int .u64 a2) ∧ w.cell? ⟨g, 4, none⟩ = some (.int .u64 a3) ∧
      w.cell? ⟨g, 5, none⟩ = some (.int .i64 j.fuel) ∧ w.cell? ⟨g, 6, none⟩ = some (.int .i64 j.maxw) ∧ w.cell? ⟨g, 7, none⟩ = some (.slice j.pA j.pn j.pc) := by
  have hc : j.cells = [.slice j.A j.n j.c, .int .u64 a0, .int .u64 a1, .int .u64 a2, .int .u64 a3, .int .i64 j.fuel, .int .i64 j.maxw, .slice j.pA j.pn j.pc] := by
    unfold Job.cells; rw [ha]; rfl
  rw [hc] at h
  exact ⟨(h.cell 0).trans rfl, (h.cell 1).trans rfl, (h.cell 2).trans rfl, (h.cell 3).trans rfl, (h.cell 4).trans rfl, (h.cell 5).trans rfl, (h.cell 6).trans rfl, (h.cell 7).trans rfl⟩
theorem one_job {w : World} {j : Job} {B : Nat} (h : j.In w B) (hB : B ≤ w.heap.size) : RdJ (w.alloc (.cells j.cells.toArray 28)) (w.heap.size + 1) (some ⟨w.heap.size, 0, none⟩) 1 [j] := by
  refine ⟨?_, rfl, fun x hx => ?_⟩
  · have := Rd.new w j.cells.toArray 28 (size := 8) (m := 1) (by simp [h.cells_len]) (by simp [maxLen])
    simpa using this
  · simp at hx
    subst hx
    exact (h.below ((Below.refl _ _).alloc hB _)).more (by omega)
theorem Bk.ty {w : World} {g : Nat} {t t' : TypeId} {cs cs' : Array Value} (h : Bk w g t cs) (h' : Bk w g t' cs') : t = t' := by
  unfold Bk at h h'
  rw [h] at h'
  injection h' with h'
  injection h' with _ h'
theorem Bk.grown_new {w w' : World} {t : TypeId} {cs : Array Value} {row : Option Nat} (hb : (w.alloc (.cells cs t)).grownBy w' row) (hne : row ≠ some w.heap.size) : Bk w' w.heap.size t cs :=
  (Bk.new w t cs).grown hb hne
theorem BkS.ne_job {w : World} {sb mb g : Nat} {roots : List Int} {cs : Array Value} (h : BkS w sb roots mb) (hg : Bk w g 28 cs) : sb ≠ g := by
  rintro rfl
  exact absurd (Bk.ty h hg) (by decide)
theorem BkS.ne_done {w : World} {sb mb g : Nat} {roots : List Int} {cs : Array Value} (h : BkS w sb roots mb) (hg : Bk w g 38 cs) : sb ≠ g := by
  rintro rfl
  exact absurd (Bk.ty h hg) (by decide)
theorem bk_done {w : World} {g : Nat} {a0 a1 a2 a3 a4 : Value} (h : Bk w g 38 #[a0, a1, a2, a3, a4]) :
    w.cell? ⟨g, 0, none⟩ = some a0 ∧ w.cell? ⟨g, 1, none⟩ = some a1 ∧ w.cell? ⟨g, 2, none⟩ = some a2 ∧ w.cell? ⟨g, 3, none⟩ = some a3 ∧ w.cell? ⟨g, 4, none⟩ = some a4 ∧
      w.frozen? ⟨g, 0, none⟩ = false ∧ w.frozen? ⟨g, 1, none⟩ = false ∧ w.frozen? ⟨g, 2, none⟩ = false ∧ w.frozen? ⟨g, 3, none⟩ = false ∧ w.frozen? ⟨g, 4, none⟩ = false :=
  ⟨(h.cell 0).trans rfl, (h.cell 1).trans rfl, (h.cell 2).trans rfl, (h.cell 3).trans rfl, (h.cell 4).trans rfl, h.frozen 0, h.frozen 1, h.frozen 2, h.frozen 3, h.frozen 4⟩
end Go.Proofs.Ytddaeaimimdonaa
