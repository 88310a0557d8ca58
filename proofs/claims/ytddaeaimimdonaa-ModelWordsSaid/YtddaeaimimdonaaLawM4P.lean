/-
  Chapter 6, plain: a program that only reads leaves the state as it was.
-/
import Derived.Test.YtddaeaimimdonaaLawM1
namespace Go.Proofs.Ytddaeaimimdonaa
open Go.RowKit
set_option linter.unusedVariables false

theorem do_reads {args : List Int} {maxw : Int} {i : Ins} {r : MRun} (h : writesOf i.op = 0) : (doP args maxw i r).2.st = r.st := by
  unfold doP
  by_cases h17 : i.op = 17
  · simp only [if_pos h17]
  by_cases h18 : i.op = 18
  · simp only [if_neg h17, if_pos h18]; split <;> rfl
  by_cases h19 : i.op = 19
  · simp only [if_neg h17, if_neg h18, if_pos h19]; split <;> rfl
  by_cases h20 : i.op = 20
  · simp only [if_neg h17, if_neg h18, if_neg h19, if_pos h20]
  by_cases h21 : i.op = 21
  · simp only [if_neg h17, if_neg h18, if_neg h19, if_neg h20, if_pos h21]
  simp only [if_neg h17, if_neg h18, if_neg h19, if_neg h20, if_neg h21]
  by_cases h9 : i.op = 9 ∨ i.op = 10
  · simp only [if_pos h9]
    have h9 : i.op = 9 := by
      rcases h9 with e | e
      · exact e
      · rw [e] at h; exact absurd h (by decide)
    unfold rootP
    split
    · rfl
    · rfl
  by_cases h11 : i.op = 11 ∨ i.op = 12 ∨ i.op = 13 ∨ i.op = 14
  · simp only [if_neg h9, if_pos h11]
    have h11 : i.op = 11 ∨ i.op = 12 := by
      rcases h11 with e | e | e | e
      · exact .inl e
      · exact .inr e
      · rw [e] at h; exact absurd h (by decide)
      · rw [e] at h; exact absurd h (by decide)
    unfold wordP
    split
    · rfl
    · split
      · rfl
      · rfl
  by_cases h15 : i.op = 15
  · rw [h15] at h; exact absurd h (by decide)
  by_cases h16 : i.op = 16
  · rw [h16] at h; exact absurd h (by decide)
  simp only [if_neg h9, if_neg h11, if_neg h15, if_neg h16]
  rfl
theorem go_reads {l : List Ins} (hl : ∀ i ∈ l, writesOf i.op = 0) (args : List Int) (maxw : Int) : ∀ (n : Nat) (r : MRun), (goP l args maxw n r).st = r.st
  | 0, r => rfl
  | n + 1, r => by
    have hg : writesOf (l.getD r.pc.toNat noIns).op = 0 := by
      rw [List.getD_eq_getElem?_getD]
      cases hi : l[r.pc.toNat]? with
      | none => decide
      | some i => exact hl i (List.mem_of_getElem? hi)
    have hd : (atP l args maxw r).2.st = r.st := by
      unfold atP stepP
      exact do_reads hg
    rcases at_cases l args maxw r with h1 | ⟨h1, h2⟩ | ⟨h1, h2⟩
    · rw [goP_err h1]; exact hd
    · rw [goP_end h1 h2]; exact hd
    · rw [goP_on h1 h2, go_reads hl args maxw n]; exact hd
theorem reads_keeps {l : List Ins} (h : readsP l = true) (s : MSt) (args : List Int) (fuel maxw : Int) (pick : List Int) : afterP s (runP s l args fuel maxw pick) = s := by
  unfold readsP at h
  rw [Bool.and_eq_true] at h
  have hl : ∀ i ∈ l, writesOf i.op = 0 := fun i hi => by
    have := List.all_eq_true.1 h.1 i hi
    simpa using this
  have hr : runP s l args fuel maxw pick = goP l args maxw fuel.toNat (startP s pick) := by unfold runP; rw [if_pos h.2]
  unfold afterP
  split
  · rw [hr, go_reads hl]; rfl
  · rfl
theorem same_refl (s : MSt) : SameSt s s := ⟨rfl, fun _ _ => rfl⟩
theorem same_symm {s o : MSt} (h : SameSt s o) : SameSt o s := ⟨h.1.symm, fun x hx => (h.2 x hx).symm⟩
theorem StIn.but {w w' : World} {B n sb mb k : Nat} {s : MSt} (h : StIn w B n sb mb s) (hg : w.grownBy w' (some k)) (h1 : k ≠ sb) (h2 : mb ≠ k) : StIn w' B n sb mb s :=
  ⟨Bk.grown h.st hg (by simpa using h1), h.map.kept hg (by simpa using h2), h.roots, h.bs, h.bm⟩
end Go.Proofs.Ytddaeaimimdonaa
