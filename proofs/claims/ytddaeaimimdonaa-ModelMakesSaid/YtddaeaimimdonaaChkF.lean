/-
  Chapter 5: right programs, and those that write nothing: contracts of check.Right, Reads, Costs, tumblerref05.Right, Reads, Writes.
-/
import Derived.Test.YtddaeaimimdonaaChkE
namespace Go.Proofs.Ytddaeaimimdonaa
open Go.RowKit
set_option linter.unusedVariables false

def rightP (l : List Ins) : Bool := decide ((faultP l).2 = 0)
/-- How many words an instruction of a kind writes. -/
def writesOf (op : Int) : Int := if op = 10 ∨ op = 13 ∨ op = 14 then 1 else if op = 16 then 2 else if op = 15 then 9 else 0
def readsP (l : List Ins) : Bool := (l.all fun i => writesOf i.op == 0) && rightP l

theorem right_any (l : List Ins) (A : Option Addr) (n c : Nat) (w : World) (hr : RdI w w.heap.size A n l) (hok : ∀ i ∈ l, i.Ok) :
    Calls Try.prog 15 #[.slice A n c] w fun e w' => e = .returned (.bool (rightP l)) ∧ Below w.heap.size w w' := by
  have HR := Lib.hid hr
  have HK := Lib.hid hok
  clear hr hok
  go_enter Try.func15, Try.ntmps15
  go_wp2_with fail
  refine (fault_any l A n c _ HR.out HK.out).mono ?_
  intro e w1 he
  obtain ⟨he, hb⟩ := he
  have HB := Lib.hid hb
  have E : Hid (rightP l = ((faultP l).2 == 0)) := by
    show _ = _
    rw [rightP, Bool.eq_iff_iff]; simp
  generalize (faultP l).1 = x at *
  generalize (faultP l).2 = y at *
  subst he
  clear hb
  go_wp2
  go_ret
  exact ⟨ret_bool (by rw [E.out]), HB.out⟩

theorem rright_any (l : List Ins) (A : Option Addr) (n c : Nat) (w : World) (hr : RdI w w.heap.size A n l) (hok : ∀ i ∈ l, i.Ok) :
    Calls Try.prog 27 #[.slice A n c] w fun e w' => e = .returned (.bool (rightP l)) ∧ Below w.heap.size w w' := by
  have HR := Lib.hid hr
  have HK := Lib.hid hok
  clear hr hok
  go_enter Try.func27, Try.ntmps27
  go_wp2_with fail
  refine (rfault_any l A n c _ HR.out HK.out).mono ?_
  intro e w1 he
  obtain ⟨he, hb⟩ := he
  have HB := Lib.hid hb
  have E : Hid (rightP l = ((faultP l).2 == 0)) := by
    show _ = _
    rw [rightP, Bool.eq_iff_iff]; simp
  generalize (faultP l).1 = x at *
  generalize (faultP l).2 = y at *
  subst he
  clear hb
  go_wp2
  go_ret
  exact ⟨ret_bool (by rw [E.out]), HB.out⟩

theorem writes_parts (op : Int) : op = 10 ∨ op = 13 ∨ op = 14 ∨ op = 16 ∨ op = 15 ∨
    (((op == 10) = false ∧ (op == 13) = false ∧ (op == 14) = false ∧ (op == 16) = false ∧ (op == 15) = false) ∧ writesOf op = 0) := by
  by_cases h1 : op = 10
  · exact .inl h1
  by_cases h2 : op = 13
  · exact .inr (.inl h2)
  by_cases h3 : op = 14
  · exact .inr (.inr (.inl h3))
  by_cases h4 : op = 16
  · exact .inr (.inr (.inr (.inl h4)))
  by_cases h5 : op = 15
  · exact .inr (.inr (.inr (.inr (.inl h5))))
  exact .inr (.inr (.inr (.inr (.inr (by simp [h1, h2, h3, h4, h5, writesOf])))))

theorem costs_any (op : Int) (w : World) : Calls Try.prog 81 #[.int .i64 op] w fun e w' => e = .returned (.int .i64 (writesOf op)) ∧ w = w' := by
  rcases writes_parts op with rfl | rfl | rfl | rfl | rfl | ⟨⟨h1, h2, h3, h4, h5⟩, h6⟩
  rotate_right
  · have E := Lib.hid h6
    clear h6
    go_enter Try.func81, Try.ntmps81
    go_wp2
    go_ret
    exact ⟨ret_int E.out.symm, rfl⟩
  all_goals
    go_enter Try.func81, Try.ntmps81
    go_wp2
    go_ret
    exact ⟨rfl, rfl⟩
theorem readsP_not {l : List Ins} {k : Nat} {i : Ins} (hi : l[k]? = some i) (h : writesOf i.op ≠ 0) : readsP l = false := by
  have : (l.all fun i => writesOf i.op == 0) = false := by
    rw [List.all_eq_false]
    exact ⟨i, List.mem_of_getElem? hi, by simpa using h⟩
  rw [readsP, this]; rfl
theorem readsP_all {l : List Ins} (h : ∀ q i, q < l.length → l[q]? = some i → writesOf i.op = 0) : readsP l = rightP l := by
  have : (l.all fun i => writesOf i.op == 0) = true := by
    rw [List.all_eq_true]
    intro i hi
    obtain ⟨q, hq, rfl⟩ := List.getElem_of_mem hi
    simpa using h q _ hq (List.getElem?_eq_getElem hq)
  rw [readsP, this]; rfl

set_option maxHeartbeats 4000000 in
theorem reads_any (l : List Ins) (A : Option Addr) (n c : Nat) (w : World) (hr : RdI w w.heap.size A n l) (hok : ∀ i ∈ l, i.Ok) :
    Calls Try.prog 24 #[.slice A n c] w fun e w' => e = .returned (.bool (readsP l)) ∧ Below w.heap.size w w' := by
  have h63 := hr.le
  unfold maxLen at h63
  have HL := Lib.hid hr.insLen
  have HR := Lib.hid hr
  have HK := Lib.hid hok
  clear hr hok
  go_enter Try.func24, Try.ntmps24
  go_wp2
  go_loopw [7] (fun k wr => ∃ j : Nat, j ≤ n ∧ k = .int .i64 j ∧ Below w.heap.size w wr ∧ Hid (∀ q i, q < j → l[q]? = some i → writesOf i.op = 0)) (fun k _ => n - (intOf k).toNat)
  case atStart => exact ⟨0, by omega, rfl, Below.refl _ _, fun q i hq => by omega⟩
  case round =>
    obtain ⟨k, hk, rfl, hb, hall⟩ := hrel
    have hsz := hb.size
    have HB := Lib.hid hb
    clear hb
    by_cases hlt : k < n
    · obtain ⟨b0, o0, i, rfl, hbB, hi, c0, c1, c2, c3, c4⟩ := (HR.out.below HB.out).insAt hlt
      have HI := Lib.hid hi
      obtain ⟨op, a, b, cc, m⟩ := i
      simp only at c0 c1 c2 c3 c4
      clear hi
      rcases writes_parts op with h | h | h | h | h | ⟨⟨h1, h2, h3, h4, h5⟩, h6⟩
      rotate_right
      · have hn : Hid (∀ q i, q < k + 1 → l[q]? = some i → writesOf i.op = 0) := fun q i hq hqi => by
          rcases Nat.lt_or_ge q k with h | h
          · exact hall.out q i h hqi
          · obtain rfl : q = k := by omega
            rw [HI.out] at hqi
            injection hqi with hqi
            subst hqi
            exact h6
        clear h6
        go_wp2
        go_roundw
        case rel => exact ⟨k + 1, by omega, by go_num, HB.out.alloc hsz _, hn⟩
        case measure => simp [intOf]; omega
      all_goals
        subst h
        have E := Lib.hid (readsP_not HI.out (by simp [writesOf]))
        go_wp2
        go_ret
        exact ⟨ret_bool E.out.symm, HB.out.alloc hsz _⟩
    · obtain rfl : k = n := by omega
      have E : Hid (readsP l = rightP l) := readsP_all (by rw [HL.out]; exact hall.out)
      go_wp2_with fail
      refine (right_any l A k c _ ((HR.out.below HB.out).more hsz) HK.out).mono ?_
      rintro e w1 ⟨rfl, hb1⟩
      have HB1 := Lib.hid (HB.out.trans (hb1.mono hsz))
      clear hb1
      go_wp2
      go_ret
      exact ⟨ret_bool E.out.symm, HB1.out⟩

end Go.Proofs.Ytddaeaimimdonaa
