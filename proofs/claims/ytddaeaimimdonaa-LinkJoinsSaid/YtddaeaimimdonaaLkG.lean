/-
  Chapter 19: contracts of tumblerlaw19.few; the document's example, plain.
-/
import Derived.Test.YtddaeaimimdonaaLkF
namespace Go.Proofs.Ytddaeaimimdonaa
open Go.RowKit Go.Maps
set_option linter.unusedVariables false

def Prt.few (j : Prt) : Bool := decide (j.n ≤ 100)
def fewL (l : List Prt) : Bool := l.all Prt.few && decide (l.length ≤ 6)
set_option maxRecDepth 100000 in
set_option maxHeartbeats 4000000 in
theorem lfew_any (l : List Prt) (A : Option Addr) (n c : Nat) (w : World) (hr : RdP w w.heap.size A n l) :
    Calls Try.prog 30 #[.slice A n c] w fun e w' => e = .returned (.bool (fewL l)) ∧ Below w.heap.size w w' := by
  have h63 := hr.rd.le
  unfold maxLen at h63
  have HL := Lib.hid hr.len
  have HR := Lib.hid hr
  clear hr
  go_enter Try.func30, Try.ntmps30
  go_wp2
  go_loopw [7, 4] (fun i _a wr => ∃ k : Nat, (k ≤ n ∧ i = .int .i64 k) ∧ Hid (∀ j ∈ l.take k, j.few = true) ∧ Below w.heap.size w wr) (fun i _ _ => n - (intOf i).toNat)
  case atStart => exact ⟨0, ⟨by omega, rfl⟩, fun j hj => by simp at hj, Below.refl _ _⟩
  case round =>
    obtain ⟨k, ⟨hk, rfl⟩, HF, hb⟩ := hrel
    have HB := Lib.hid hb
    have hszr := hb.size
    clear hb
    by_cases hlt : k < n
    · obtain ⟨b, o, pA, pn, pc, code, b0, b1, b2, b3, rfl, hbB, hj, hin, c0, c1, c2, c3, c4, c5, c6, c7, c8⟩ := (HR.out.below HB.out).at_ hlt
      have HJ := Lib.hid hj
      have hn63 := hin.code.le
      unfold maxLen at hn63
      simp only at hn63
      have hw : ∀ (h : pn ≤ 100), (∀ x ∈ l.take (k + 1), x.few = true) := fun h x hx => by
        rw [List.take_add_one, HJ.out] at hx
        rcases List.mem_append.1 hx with hx | hx
        · exact HF.out x hx
        · simp at hx; subst hx; unfold Prt.few; simpa using h
      have HW := Lib.hid hw
      have hfalse : ∀ (h : 100 < pn), fewL l = false := fun h => by
        unfold fewL
        have : l.all Prt.few = false := List.all_eq_false.2 ⟨_, List.mem_of_getElem? HJ.out, by unfold Prt.few; simp; omega⟩
        rw [this]; rfl
      have HFa := Lib.hid hfalse
      clear hj hin hw hfalse
      by_cases h40 : 100 < pn
      · have hd : (100 : Int) < (pn : Int) := by omega
        have HE := Lib.hid (HFa.out h40)
        go_wp2
        go_ret
        exact ⟨ret_bool HE.out.symm, HB.out.alloc hszr _⟩
      · have hd : ¬ ((100 : Int) < (pn : Int)) := by omega
        have HN := Lib.hid (HW.out (by omega))
        go_wp2
        go_roundw
        case rel => exact ⟨k + 1, ⟨by omega, by go_num⟩, HN, HB.out.alloc hszr _⟩
        case measure => simp [intOf]; omega
    · obtain rfl : n = k := by omega
      have HE : Hid (fewL l = decide ((n : Int) ≤ 6)) := by
        show _ = _
        unfold fewL
        have hall : l.all Prt.few = true := List.all_eq_true.2 fun j hj => HF.out j (by rw [List.take_of_length_le (by rw [HL.out]; exact Nat.le_refl _)]; exact hj)
        rw [hall, HL.out, Bool.true_and, Bool.eq_iff_iff]
        simp
        omega
      go_wp2
      go_ret
      exact ⟨ret_bool HE.out.symm, HB.out⟩

theorem join_is {l : List Prt} {L : List Ins} {x : Int} {m : Nat} (h : joinL l = (L, x)) (hm : L.length = m) {A : Option Addr} {n c : Nat} {w : World} (hl : RdP w w.heap.size A n l) :
    Calls Try.prog 31 #[.slice A n c] w fun e w' => ∃ v, e = .returned (.tuple #[v, .int .i64 x]) ∧ w'.ownsRow w.heap.size 43 5 v m (insCells L) ∧ Below w.heap.size w w' := by
  refine (join_any l A n c w hl).mono ?_
  rintro e w' ⟨v, he, ho, hb⟩
  rw [h] at he ho
  subst hm
  exact ⟨v, he, ho, hb⟩
def liveA : List Ins := [⟨8, 1, 0, 0, 0⟩, ⟨18, 1, 0, 0, 3⟩, ⟨20, 1, 0, 0, 0⟩, ⟨21, 0, 0, 0, 7⟩]
def liveB : List Ins := [⟨8, 1, 0, 0, 0⟩, ⟨2, 1, 1, 1, 0⟩, ⟨20, 1, 0, 0, 0⟩]
def argsA : List PArg := [⟨2, 2⟩, ⟨0, 0⟩, ⟨0, 0⟩, ⟨0, 0⟩]
def argsB : List PArg := [⟨1, 0⟩, ⟨0, 0⟩, ⟨0, 0⟩, ⟨0, 0⟩]
def liveJ : List Ins := [⟨8, 1, 0, 0, 2⟩, ⟨18, 1, 0, 0, 4⟩, ⟨1, 12, 1, 0, 0⟩, ⟨17, 0, 0, 0, 5⟩, ⟨21, 0, 0, 0, 7⟩, ⟨0, 1, 0, 0, 0⟩, ⟨1, 1, 12, 0, 0⟩, ⟨2, 1, 1, 1, 0⟩, ⟨1, 13, 1, 0, 0⟩, ⟨20, 13, 0, 0, 0⟩]
set_option maxRecDepth 100000 in
theorem live_join (A1 A2 : Option Addr) (n1 c1 n2 c2 : Nat) : joinL [⟨A1, n1, c1, liveA, argsA⟩, ⟨A2, n2, c2, liveB, argsB⟩] = (liveJ, 0) := by rfl
set_option maxRecDepth 100000 in
theorem live_alone (A2 : Option Addr) (n2 c2 : Nat) : joinL [⟨A2, n2, c2, liveB, argsB⟩] = ([], 1) := by rfl
theorem liveJ_right : rightP liveJ = true := by decide
theorem liveA_ok : ∀ i ∈ liveA, i.Ok := by
  intro i hi
  simp [liveA] at hi
  rcases hi with rfl | rfl | rfl | rfl <;> constructor <;> decide
theorem liveB_ok : ∀ i ∈ liveB, i.Ok := by
  intro i hi
  simp [liveB] at hi
  rcases hi with rfl | rfl | rfl <;> constructor <;> decide
theorem liveJ_ok : ∀ i ∈ liveJ, i.Ok := by
  intro i hi
  simp [liveJ] at hi
  rcases hi with rfl | rfl | rfl | rfl | rfl | rfl | rfl | rfl | rfl | rfl <;> constructor <;> decide
theorem argsA_ok : ∀ a ∈ argsA, a.Ok := by
  intro i hi
  simp [argsA] at hi
  rcases hi with rfl | rfl <;> exact ⟨by decide, ⟨by decide, by decide⟩⟩
theorem argsB_ok : ∀ a ∈ argsB, a.Ok := by
  intro i hi
  simp [argsB] at hi
  rcases hi with rfl | rfl <;> exact ⟨by decide, ⟨by decide, by decide⟩⟩
def run19a : MRun := runP emptyS liveJ [0, 0, 9, 0] 50 0 []
def st19 : MSt := afterP emptyS run19a
def run19b : MRun := runP st19 liveJ [0, 0, 0, 0] 50 0 []
theorem run19a_code : run19a.code = 0 := by kernel_rfl
theorem run19a_val : run19a.val = 18 := by kernel_rfl
theorem run19b_code : run19b.code = 40 := by kernel_rfl
theorem run19b_val : run19b.val = 7 := by kernel_rfl
end Go.Proofs.Ytddaeaimimdonaa
