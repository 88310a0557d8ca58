/-
  Chapter 5: contract of tumblerref05.Leads.
-/
import Derived.Test.YtkkbgpfimapnoaaChkG
namespace Go.Proofs.Ytkkbgpfimapnoaa
open Go.RowKit
set_option linter.unusedVariables false

set_option maxHeartbeats 4000000 in
theorem leads_any (l : List Ins) (A : Option Addr) (n c : Nat) (w : World) (hr : RdI w w.heap.size A n l) (k j : Nat) (hk : k < n) (hj : j < n) (i : Ins) (hi : l[k]? = some i) :
    Calls Try.prog 50 #[.slice A n c, .int .i64 k, .int .i64 j] w fun e w' => e = .returned (.bool (decide ((j : Int) ∈ nextP i k))) ∧ w = w' := by
  have h63 := hr.le
  unfold maxLen at h63
  obtain ⟨b0, o0, i', rfl, hbB, hi', c0, c1, c2, c3, c4⟩ := hr.insAt hk
  rw [hi] at hi'
  obtain rfl : i = i' := by simpa using hi'
  obtain ⟨op, a, b, cc, m⟩ := i
  simp only at c0 c1 c2 c3 c4
  clear hr hi hi' c1 c2 c3
  have hsplit : op = 20 ∨ op = 21 ∨ op = 17 ∨ op = 18 ∨ op = 19 ∨ (((op == 20) = false ∧ (op == 21) = false ∧ (op == 17) = false ∧ (op != 17) = true) ∧ ¬ (17 ≤ op ∧ op ≤ 19) ∧ Hid (nextP ⟨op, a, b, cc, m⟩ k = [(k : Int) + 1])) := by
    by_cases h1 : op = 20
    · exact .inl h1
    by_cases h2 : op = 21
    · exact .inr (.inl h2)
    by_cases h3 : op = 17
    · exact .inr (.inr (.inl h3))
    by_cases h4 : op = 18
    · exact .inr (.inr (.inr (.inl h4)))
    by_cases h5 : op = 19
    · exact .inr (.inr (.inr (.inr (.inl h5))))
    refine .inr (.inr (.inr (.inr (.inr ⟨by simp [h1, h2, h3], by omega, ?_⟩))))
    show _ = _
    simp [h1, h2, h3, h4, h5, endsB, nextP]
  have hjk : (((j : Int) == (k : Int) + 1) = true ∧ (j : Int) = (k : Int) + 1) ∨ (((j : Int) == (k : Int) + 1) = false ∧ ¬ (j : Int) = (k : Int) + 1) := by
    by_cases h : (j : Int) = (k : Int) + 1
    · exact .inl ⟨by simpa using h, h⟩
    · exact .inr ⟨by simpa using h, h⟩
  have hjm : (((j : Int) == m) = true ∧ (j : Int) = m) ∨ (((j : Int) == m) = false ∧ ¬ (j : Int) = m) := by
    by_cases h : (j : Int) = m
    · exact .inl ⟨by simpa using h, h⟩
    · exact .inr ⟨by simpa using h, h⟩
  rcases hsplit with rfl | rfl | rfl | rfl | rfl | ⟨⟨g0, g1, g2, g2'⟩, g3, g4⟩
  rotate_right
  · rcases hjk with ⟨q1, q2⟩ | ⟨q1, q2⟩
    all_goals
      have Q := Lib.hid q2
      have G3 := Lib.hid g3
      clear q2 hjm g3
      go_enter Try.func50, Try.ntmps50
      go_wp2_with (go_at_call 52; refine (goes_any _ _).mono ?_; rintro e w1 ⟨rfl, rfl⟩; rw [decide_eq_false G3.out])
      go_ret
      refine ⟨ret_bool ?_, rfl⟩
      rw [g4.out, Bool.eq_iff_iff]
      have := Q.out
      simp
      try omega
  all_goals
    rcases hjk with ⟨q1, q2⟩ | ⟨q1, q2⟩
  all_goals
    rcases hjm with ⟨q3, q4⟩ | ⟨q3, q4⟩
  all_goals
    have Q := Lib.hid q2
    have Q' := Lib.hid q4
    clear q2 q4
    go_enter Try.func50, Try.ntmps50
    go_wp2_with (go_at_call 52; refine (goes_any _ _).mono ?_; rintro e w1 ⟨rfl, rfl⟩)
    go_ret
    refine ⟨ret_bool ?_, rfl⟩
    rw [Bool.eq_iff_iff]
    have := Q.out
    have := Q'.out
    simp [nextP, endsB]
    try omega
end Go.Proofs.Ytkkbgpfimapnoaa
