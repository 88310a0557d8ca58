/-
  Chapter 6, plain: with more fuel, and more words, a program that ended ends the same.
-/
import Derived.Test.YtddaeaimimdonaaLawM1
namespace Go.Proofs.Ytddaeaimimdonaa
open Go.RowKit
set_option linter.unusedVariables false

theorem runP_right {s : MSt} {l : List Ins} {args : List Int} {fuel maxw : Int} {pick : List Int} (h : rightP l = true) : runP s l args fuel maxw pick = goP l args maxw fuel.toNat (startP s pick) := by
  unfold runP; rw [if_pos h]
theorem go_nine (l : List Ins) (args : List Int) (maxw : Int) : ∀ (n : Nat) (r : MRun), (goP l args maxw n r).writes ≤ r.writes + 9 * n
  | 0, r => by show r.writes ≤ _; omega
  | n + 1, r => by
    have hd := (step_doing args maxw (l.getD r.pc.toNat noIns) { r with steps := r.steps + 1 }).nine
    have hd : (atP l args maxw r).2.writes ≤ r.writes + 9 := hd
    rcases at_cases l args maxw r with h1 | ⟨h1, h2⟩ | ⟨h1, h2⟩
    · rw [goP_err h1]
      show (atP l args maxw r).2.writes ≤ _
      omega
    · rw [goP_end h1 h2]; omega
    · rw [goP_on h1 h2]
      have := go_nine l args maxw n (atP l args maxw r).2
      omega
structure FuelOk (s : MSt) (l : List Ins) (args : List Int) (fuel maxw : Int) (pick : List Int) (a : MRun) : Prop where
  short : a.code = 41 → a.steps = max fuel 0
  one : a.code ≠ 41 → 1 ≤ a.steps ∧ a.steps ≤ fuel ∧ a.writes ≤ max maxw 0
  more : a.code ≠ 41 → ∀ m, 0 ≤ m → runP s l args (a.steps + m) maxw pick = a
  less : a.code ≠ 41 → (runP s l args (a.steps - 1) maxw pick).code = 41
  nine : 0 ≤ a.writes ∧ a.writes ≤ 9 * fuel.toNat
  words : a.code ≠ 41 → a.code ≠ 42 → ∀ m, 0 ≤ m → runP s l args fuel (a.writes + m) pick = a
theorem fuel_ok {s : MSt} {l : List Ins} {args : List Int} {fuel maxw : Int} {pick : List Int} (h : rightP l = true) : FuelOk s l args fuel maxw pick (runP s l args fuel maxw pick) := by
  rw [runP_right h]
  have h9 : 0 ≤ (goP l args maxw fuel.toNat (startP s pick)).writes ∧ (goP l args maxw fuel.toNat (startP s pick)).writes ≤ 9 * fuel.toNat := by
    have h1 := go_nine l args maxw fuel.toNat (startP s pick)
    have h2 := go_writes_mono l args maxw fuel.toNat (startP s pick)
    have h0 : (startP s pick).writes = 0 := rfl
    omega
  rcases go_fuel l args maxw fuel.toNat (startP s pick) rfl with ⟨h1, h2⟩ | ⟨k, h1, h2, h3, h4, h5, h6⟩
  · exact ⟨fun _ => by rw [h2]; show (0 : Int) + _ = _; omega, fun h => absurd h1 h, fun h => absurd h1 h, fun h => absurd h1 h, h9, fun h => absurd h1 h⟩
  · have h4 : (goP l args maxw fuel.toNat (startP s pick)).steps = k := by rw [h4]; show (0 : Int) + _ = _; omega
    refine ⟨fun h => absurd h h3, fun _ => ⟨by omega, by omega, ?_⟩, fun _ m hm => ?_, fun _ => ?_, h9, fun _ hc m hm => ?_⟩
    · rcases go_cap l args maxw fuel.toNat (startP s pick) with h | h
      · rw [h]; show (0 : Int) ≤ _; omega
      · omega
    · rw [runP_right h, h4, h5 _ (by omega)]
    · rw [runP_right h, h4]
      exact h6 _ (by omega)
    · rw [runP_right h]
      exact go_words l args maxw _ _ _ hc (by omega)
/-- 'x & 63'. -/
theorem and_63 (x : Int) : 0 ≤ x % 64 ∧ x % 64 ≤ 63 := by omega
end Go.Proofs.Ytddaeaimimdonaa
