/-
  Chapter 5: where an instruction may go on: contracts of check.next, tumblerref05.Leads.
-/
import Derived.Test.YtddaeaimimdonaaChkF
namespace Go.Proofs.Ytddaeaimimdonaa
open Go.RowKit
set_option linter.unusedVariables false

theorem own_newAt (w : World) (cs : Array Value) (t : TypeId) (g : Nat) (hg : g = w.heap.size) {size m base : Nat} (hs : cs.size = m * size) (hm : m ≤ maxLen) (hb : base ≤ w.heap.size) :
    (w.alloc (.cells cs t)).ownsRow base t size (.slice (some ⟨g, 0, none⟩) m m) m cs.toList := by
  subst hg; exact own_new w cs t hs hm hb

/-- Where an instruction may go on. -/
def nextP (i : Ins) (k : Nat) : List Int := if endsB i.op then [] else if i.op = 17 then [i.imm] else if i.op = 18 ∨ i.op = 19 then [(k : Int) + 1, i.imm] else [(k : Int) + 1]
def ints (l : List Int) : List Value := l.map (Value.int .i64)
theorem ints_one (l : List Int) : ∀ u ∈ ints l, u.oneCell' = true := by
  intro u hu
  obtain ⟨x, _, rfl⟩ := List.mem_map.1 hu
  rfl
theorem ints_append (l r : List Int) : ints (l ++ r) = ints l ++ ints r := by simp [ints]
theorem ints_length (l : List Int) : (ints l).length = l.length := by simp [ints]

set_option maxHeartbeats 4000000 in
theorem next_any (l : List Ins) (A : Option Addr) (n c : Nat) (w : World) (hr : RdI w w.heap.size A n l) (k : Nat) (hk : k < n) (hk2 : k ≤ 1000) (i : Ins) (hi : l[k]? = some i) (h0 : 0 ≤ i.imm)
    (hm : 17 ≤ i.op ∧ i.op ≤ 19 → i.imm ≤ 9223372036854775807) :
    Calls Try.prog 43 #[.slice A n c, .int .i64 k] w fun e w' => ∃ v, e = .returned v ∧ w'.ownsRow w.heap.size 3 1 v (nextP i k).length (ints (nextP i k)) ∧ Below w.heap.size w w' := by
  have h63 := hr.le
  unfold maxLen at h63
  obtain ⟨b0, o0, i', rfl, hbB, hi', c0, c1, c2, c3, c4⟩ := hr.insAt hk
  rw [hi] at hi'
  obtain rfl : i = i' := by simpa using hi'
  obtain ⟨op, a, b, cc, m⟩ := i
  simp only at c0 c1 c2 c3 c4 h0 hm
  clear hr hi hi'
  have hsplit : op = 20 ∨ op = 21 ∨ op = 17 ∨ op = 18 ∨ op = 19 ∨ (endsB op = false ∧ (op == 17) = false ∧ (op == 18) = false ∧ (op == 19) = false ∧ nextP ⟨op, a, b, cc, m⟩ k = [(k : Int) + 1]) := by
    by_cases h1 : op = 20
    · exact .inl h1
    by_cases h2 : op = 21
    · exact .inr (.inl h2)
    by_cases h3 : op = 17
    · exact .inr (.inr (.inl h3))
    by_cases h4 : op = 18
    · exact .inr (.inr (.inr (.inl h4)))
    by_cases h5 : op = 19
    · exact .inr (.inr (.inr (.inr (.inl h5))))
    exact .inr (.inr (.inr (.inr (.inr (by simp [h1, h2, h3, h4, h5, endsB, nextP])))))
  rcases hsplit with rfl | rfl | rfl | rfl | rfl | ⟨g0, g1, g2, g3, g4⟩
  · clear hm
    go_enter Try.func43, Try.ntmps43
    go_wp2_with (go_at_call 50; refine (ends_any _ _).mono ?_; rintro e w1 ⟨rfl, rfl⟩; rw [show endsB 20 = true from rfl])
    go_ret
    exact ⟨_, rfl, World.ownsRow_nil _ _ _ _, (Below.refl _ _).alloc (Nat.le_refl _) _⟩
  · clear hm
    go_enter Try.func43, Try.ntmps43
    go_wp2_with (go_at_call 50; refine (ends_any _ _).mono ?_; rintro e w1 ⟨rfl, rfl⟩; rw [show endsB 21 = true from rfl])
    go_ret
    exact ⟨_, rfl, World.ownsRow_nil _ _ _ _, (Below.refl _ _).alloc (Nat.le_refl _) _⟩
  · have hm' := hm (by omega)
    clear hm
    go_enter Try.func43, Try.ntmps43
    go_wp2_with (go_at_call 50; refine (ends_any _ _).mono ?_; rintro e w1 ⟨rfl, rfl⟩; rw [show endsB 17 = false from rfl])
    go_ret
    rw [show nextP ⟨17, a, b, cc, m⟩ k = [m] by simp [nextP, endsB]]
    exact ⟨_, rfl, own_newAt _ _ _ _ (by simp) rfl (by simp [maxLen]) (by simp), ((Below.refl _ _).alloc (Nat.le_refl _) _).alloc (by simp) _⟩
  · have hm' := hm (by omega)
    clear hm
    go_enter Try.func43, Try.ntmps43
    go_wp2_with (go_at_call 50; refine (ends_any _ _).mono ?_; rintro e w1 ⟨rfl, rfl⟩; rw [show endsB 18 = false from rfl])
    go_ret
    rw [show nextP ⟨18, a, b, cc, m⟩ k = [(k : Int) + 1, m] by simp [nextP, endsB]]
    exact ⟨_, rfl, own_newAt _ _ _ _ (by simp) rfl (by simp [maxLen]) (by simp), ((Below.refl _ _).alloc (Nat.le_refl _) _).alloc (by simp) _⟩
  · have hm' := hm (by omega)
    clear hm
    go_enter Try.func43, Try.ntmps43
    go_wp2_with (go_at_call 50; refine (ends_any _ _).mono ?_; rintro e w1 ⟨rfl, rfl⟩; rw [show endsB 19 = false from rfl])
    go_ret
    rw [show nextP ⟨19, a, b, cc, m⟩ k = [(k : Int) + 1, m] by simp [nextP, endsB]]
    exact ⟨_, rfl, own_newAt _ _ _ _ (by simp) rfl (by simp [maxLen]) (by simp), ((Below.refl _ _).alloc (Nat.le_refl _) _).alloc (by simp) _⟩
  · have G4 := Lib.hid g4
    have G0 := Lib.hid g0
    clear hm g0 g4
    go_enter Try.func43, Try.ntmps43
    go_wp2_with (go_at_call 50; refine (ends_any _ _).mono ?_; rintro e w1 ⟨rfl, rfl⟩; rw [G0.out])
    go_ret
    rw [G4.out]
    exact ⟨_, rfl, own_newAt _ _ _ _ (by simp) rfl (by simp [maxLen]) (by simp), ((Below.refl _ _).alloc (Nat.le_refl _) _).alloc (by simp) _⟩
end Go.Proofs.Ytddaeaimimdonaa
