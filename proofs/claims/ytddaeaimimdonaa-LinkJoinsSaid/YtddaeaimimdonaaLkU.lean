/-
  Small things that the texts of chapter 19 share (lines of LawM1, LawM2, ModO, ReachC, ReachF, under the same names: import one or the other).
-/
import Derived.Test.YtddaeaimimdonaaModF
import Derived.Test.YtddaeaimimdonaaChkG
namespace Go.Proofs.Ytddaeaimimdonaa
open Go.RowKit Go.Maps
set_option linter.unusedVariables false

theorem flat_nth {α : Type} (cells : α → List Value) {size : Nat} : ∀ {l : List α}, (∀ y ∈ l, (cells y).length = size) → ∀ {k : Nat} (h : k < l.length) {i : Nat}, i < size → (l.flatMap cells)[k * size + i]? = (cells (l[k]'h))[i]?
  | [], _, k, h, i, hi => by simp at h
  | y :: l, hc, k, h, i, hi => by
    rcases k with _ | k
    · simp only [List.flatMap_cons, Nat.zero_mul, Nat.zero_add, List.getElem_cons_zero]
      rw [List.getElem?_append_left (by rw [hc y (by simp)]; exact hi)]
    · simp only [List.flatMap_cons, List.getElem_cons_succ]
      rw [List.getElem?_append_right (by rw [hc y (by simp), Nat.add_mul]; omega)]
      have e : (k + 1) * size + i - (cells y).length = k * size + i := by rw [hc y (by simp), Nat.add_mul]; omega
      rw [e]
      exact flat_nth cells (fun z hz => hc z (List.mem_cons_of_mem _ hz)) (by simpa using h) hi
theorem emptyS_ok : SOk emptyS := ⟨fun x hx => by simp [emptyS, zero16] at hx; subst hx; exact ⟨by decide, by decide⟩, fun h ws e => by cases e⟩
theorem u64_lits {l : List Int} (h : l.all (fun x => decide (0 ≤ x ∧ x ≤ 18446744073709551615)) = true) : ∀ x ∈ l, U64 x := fun x hx => by
  have := List.all_eq_true.1 h x hx
  exact (of_decide_eq_true this : 0 ≤ x ∧ x ≤ 18446744073709551615)
theorem Rd.but {w w' : World} {B size n b o g : Nat} {xs : List Value} (h : Rd w B size (some ⟨b, o, none⟩) n xs) (hg : w.grownBy w' (some g)) (hne : b ≠ g) : Rd w' B size (some ⟨b, o, none⟩) n xs :=
  ⟨h.len, h.le, fun hn => by
    obtain ⟨b', o', e, hb, hc⟩ := h.at_ hn
    cases e
    exact ⟨b, o, rfl, hb, fun j u hu => hg.cell (a := ⟨b, o + j, none⟩) (hc j u hu) (fun e => hne (Option.some.inj e))⟩⟩
theorem Bk.ty {w : World} {g : Nat} {t t' : TypeId} {cs cs' : Array Value} (h : Bk w g t cs) (h' : Bk w g t' cs') : t = t' := by
  unfold Bk at h h'
  rw [h] at h'
  injection h' with h'
  injection h' with _ h'
theorem BkS.ne_done {w : World} {sb mb g : Nat} {roots : List Int} {cs : Array Value} (h : BkS w sb roots mb) (hg : Bk w g 38 cs) : sb ≠ g := by
  rintro rfl
  exact absurd (Bk.ty h hg) (by decide)
theorem bk_done {w : World} {g : Nat} {a0 a1 a2 a3 a4 : Value} (h : Bk w g 38 #[a0, a1, a2, a3, a4]) :
    w.cell? ⟨g, 0, none⟩ = some a0 ∧ w.cell? ⟨g, 1, none⟩ = some a1 ∧ w.cell? ⟨g, 2, none⟩ = some a2 ∧ w.cell? ⟨g, 3, none⟩ = some a3 ∧ w.cell? ⟨g, 4, none⟩ = some a4 ∧
      w.frozen? ⟨g, 0, none⟩ = false ∧ w.frozen? ⟨g, 1, none⟩ = false ∧ w.frozen? ⟨g, 2, none⟩ = false ∧ w.frozen? ⟨g, 3, none⟩ = false ∧ w.frozen? ⟨g, 4, none⟩ = false :=
  ⟨(h.cell 0).trans rfl, (h.cell 1).trans rfl, (h.cell 2).trans rfl, (h.cell 3).trans rfl, (h.cell 4).trans rfl, h.frozen 0, h.frozen 1, h.frozen 2, h.frozen 3, h.frozen 4⟩
theorem info_int : (Try.prog.info? 3).map (fun i => (i.zero, i.size, i.bytes)) = some (some (.int .i64 0), 1, 8) := by kernel_rfl
theorem ints_at {vs : List Int} {k : Nat} (h : k < vs.length) : (ints vs)[k]? = some (.int .i64 (vs.getD k 0)) := by
  simp [ints, List.getElem?_map, List.getElem?_eq_getElem h]
end Go.Proofs.Ytddaeaimimdonaa
