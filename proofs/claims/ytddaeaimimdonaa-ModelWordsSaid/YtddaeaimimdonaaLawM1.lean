/-
  Chapter 6: contracts of tumblerlaw06.few, handles; a job out of a slice.
-/
import Derived.Test.YtddaeaimimdonaaOpenJ
import Derived.Test.YtddaeaimimdonaaModO
namespace Go.Proofs.Ytddaeaimimdonaa
open Go.RowKit Go.Maps
set_option linter.unusedVariables false

theorem flat_nth {α : Type} (cells : α → List Value) {size : Nat} : ∀ {l : List α}, (∀ y ∈ l, (cells y).length = size) → ∀ {k : Nat} (h : k < l.length) {i : Nat}, i < size → (l.flatMap cells)[k * size + i]? = (cells (l[k]'h))[i]?
  | [], _, k, h, i, hi => by simp at h
  | y :: l, hc, k, h, i, hi => by
    rcases k with _ | k
    · simp only [List.flatMap_cons, Nat.zero_mul, Nat.zero_add, List.getElem_cons_zero]
      rw [List.getElem?_append_left (by rw [hc y (by simp)]; exact hi)]
    · simp only [List.flatMap_cons, List.getElem_cons_succ]
      rw [List.getElem?_append_right (by rw [hc y (by simp), Nat.add_mul]; omega)]
      have e : (k + 1) * size + i - (cells y).length = k * size + i := by rw [hc y (by simp), Nat.add_mul]; omega
      rw [e]
      exact flat_nth cells (fun z hz => hc z (List.mem_cons_of_mem _ hz)) (by simpa using h) hi
/-- A slice of jobs that is read. -/
structure RdJ (w : World) (B : Nat) (A : Option Addr) (n : Nat) (l : List Job) : Prop where
  rd : Rd w B 8 A n (l.flatMap Job.cells)
  len : l.length = n
  all : ∀ j ∈ l, j.In w B
theorem RdJ.below {w w' : World} {B n : Nat} {A : Option Addr} {l : List Job} (h : RdJ w B A n l) (hb : Below B w w') : RdJ w' B A n l :=
  ⟨h.rd.below hb, h.len, fun j hj => (h.all j hj).below hb⟩
theorem Job.In.more {w : World} {B B' : Nat} {j : Job} (h : j.In w B) (hB : B ≤ B') : j.In w B' :=
  ⟨h.code.more hB, h.ok, h.cap, h.args4, h.argsOk, h.fuel, h.maxw, h.pick.more hB, h.pickOk, h.pcap⟩
theorem RdJ.more {w : World} {B B' n : Nat} {A : Option Addr} {l : List Job} (h : RdJ w B A n l) (hB : B ≤ B') : RdJ w B' A n l :=
  ⟨h.rd.more hB, h.len, fun j hj => (h.all j hj).more hB⟩
theorem RdJ.at_ {w : World} {B n : Nat} {A : Option Addr} {l : List Job} (h : RdJ w B A n l) {k : Nat} (hk : k < n) :
    ∃ b o j a0 a1 a2 a3, A = some ⟨b, o, none⟩ ∧ b < B ∧ l[k]? = some j ∧ j.In w B ∧ j.args = [a0, a1, a2, a3] ∧ w.cell? ⟨b, o + k * 8, none⟩ = some (.slice j.A j.n j.c) ∧
      w.cell? ⟨b, o + k * 8 + 1, none⟩ = some (.int .u64 a0) ∧ w.cell? ⟨b, o + k * 8 + 2, none⟩ = some (.int .u64 a1) ∧ w.cell? ⟨b, o + k * 8 + 3, none⟩ = some (.int .u64 a2) ∧ w.cell? ⟨b, o + k * 8 + 4, none⟩ = some (.int .u64 a3) ∧
      w.cell? ⟨b, o + k * 8 + 5, none⟩ = some (.int .i64 j.fuel) ∧ w.cell? ⟨b, o + k * 8 + 6, none⟩ = some (.int .i64 j.maxw) ∧ w.cell? ⟨b, o + k * 8 + 7, none⟩ = some (.slice j.pA j.pn j.pc) := by
  obtain ⟨b, o, e, hb, hc⟩ := h.rd.at_ (by omega)
  have hkl : k < l.length := by rw [h.len]; exact hk
  have hin := h.all _ (List.getElem_mem hkl)
  obtain ⟨a0, a1, a2, a3, ha⟩ := four hin.args4
  have hcell : ∀ i, i < 8 → (l.flatMap Job.cells)[k * 8 + i]? = (Job.cells (l[k]'hkl))[i]? := fun i hi => flat_nth Job.cells (fun y hy => (h.all y hy).cells_len) hkl hi
  refine ⟨b, o, l[k]'hkl, a0, a1, a2, a3, e, hb, List.getElem?_eq_getElem hkl, hin, ha, ?_, ?_, ?_, ?_, ?_, ?_, ?_, ?_⟩
  · exact hc (k * 8) _ (by rw [← Nat.add_zero (k * 8), hcell 0 (by omega)]; rfl)
  all_goals
    rw [Nat.add_assoc]
    refine hc _ _ ?_
    rw [hcell _ (by omega)]
    unfold Job.cells
    rw [ha]; rfl
/-- A job is short, with fuel for so many instructions. -/
def Job.few (j : Job) : Bool := decide (j.n ≤ 40 ∧ j.fuel ≤ 400 ∧ j.pn ≤ 20)
def fewP (l : List Job) : Bool := l.all Job.few && decide (l.length ≤ 8)
set_option maxRecDepth 100000 in
set_option maxHeartbeats 4000000 in
theorem few_any (l : List Job) (A : Option Addr) (n c : Nat) (w : World) (hr : RdJ w w.heap.size A n l) :
    Calls Try.prog 14 #[.slice A n c] w fun e w' => e = .returned (.bool (fewP l)) ∧ Below w.heap.size w w' := by
  have h63 := hr.rd.le
  unfold maxLen at h63
  have HL := Lib.hid hr.len
  have HR := Lib.hid hr
  clear hr
  go_enter Try.func14, Try.ntmps14
  go_wp2
  go_loopw [7] (fun i wr => ∃ k : Nat, (k ≤ n ∧ i = .int .i64 k) ∧ Hid (∀ j ∈ l.take k, j.few = true) ∧ Below w.heap.size w wr) (fun i _ => n - (intOf i).toNat)
  case atStart => exact ⟨0, ⟨by omega, rfl⟩, fun j hj => by simp at hj, Below.refl _ _⟩
  case round =>
    obtain ⟨k, ⟨hk, rfl⟩, HF, hb⟩ := hrel
    have HB := Lib.hid hb
    have hszr := hb.size
    clear hb
    by_cases hlt : k < n
    · obtain ⟨b, o, j, a0, a1, a2, a3, rfl, hbB, hj, hin, ha, c0, c1, c2, c3, c4, c5, c6, c7⟩ := (HR.out.below HB.out).at_ hlt
      have HJ := Lib.hid hj
      have hn63 := hin.code.le
      have hp63 := hin.pick.le
      have hfu := hin.fuel
      unfold maxLen at hn63 hp63
      have hw : ∀ (h : j.few = true), (∀ x ∈ l.take (k + 1), x.few = true) := fun h x hx => by
        rw [List.take_add_one, HJ.out] at hx
        rcases List.mem_append.1 hx with hx | hx
        · exact HF.out x hx
        · simp at hx; subst hx; exact h
      have HW := Lib.hid hw
      have hfalse : ∀ (h : j.few = false), fewP l = false := fun h => by
        unfold fewP
        have : l.all Job.few = false := List.all_eq_false.2 ⟨j, List.mem_of_getElem? HJ.out, by rw [h]; simp⟩
        rw [this]; rfl
      have HFa := Lib.hid hfalse
      obtain ⟨jA, jn, jc, code, args, fu, mw, pA, pn, pc, pick⟩ := j
      simp only at c0 c5 c6 c7 hn63 hp63 hfu
      clear hj hin ha hw hfalse
      by_cases h40 : 40 < jn
      · have hd : decide ((jn : Int) > 40) = true := by simp; omega
        have HE := Lib.hid (HFa.out (by unfold Job.few; simp; omega))
        go_wp2
        go_ret
        exact ⟨ret_bool HE.out.symm, HB.out.alloc hszr _⟩
      · by_cases h400 : 400 < fu
        · have HE := Lib.hid (HFa.out (by unfold Job.few; simp; omega))
          go_wp2
          go_ret
          exact ⟨ret_bool HE.out.symm, HB.out.alloc hszr _⟩
        · by_cases h20 : 20 < pn
          · have HE := Lib.hid (HFa.out (by unfold Job.few; simp; omega))
            go_wp2
            go_ret
            exact ⟨ret_bool HE.out.symm, HB.out.alloc hszr _⟩
          · have HN := Lib.hid (HW.out (by unfold Job.few; simp; omega))
            go_wp2
            go_roundw
            case rel => exact ⟨k + 1, ⟨by omega, by go_num⟩, HN.out, HB.out.alloc hszr _⟩
            case measure => simp [intOf]; omega
    · obtain rfl : n = k := by omega
      have HE : Hid (fewP l = decide ((n : Int) ≤ 8)) := by
        show _ = _
        unfold fewP
        have hall : l.all Job.few = true := List.all_eq_true.2 fun j hj => HF.out j (by rw [List.take_of_length_le (by rw [HL.out]; exact Nat.le_refl _)]; exact hj)
        rw [hall, HL.out, Bool.true_and, Bool.eq_iff_iff]
        simp
        omega
      go_wp2
      go_ret
      exact ⟨ret_bool HE.out.symm, HB.out⟩
/-- The same handles? -/
theorem handles_any (l r : List Int) (A A' : Option Addr) (n c n' c' : Nat) (w : World) (hl : RdU w w.heap.size A n l) (hr : RdU w w.heap.size A' n' r) :
    Calls Try.prog 19 #[.slice A n c, .slice A' n' c'] w fun e w' => e = .returned (.bool (decide (l = r))) ∧ Below w.heap.size w w' := by
  have h63 := hl.le
  have hn := hl.u64Len
  have hn' := hr.u64Len
  unfold maxLen at h63
  have HLn := Lib.hid hn
  have HRn := Lib.hid hn'
  by_cases hnn : n = n'
  · subst hnn
    have HL := Lib.hid hl
    have HR := Lib.hid hr
    clear hl hr hn hn'
    go_enter Try.func19, Try.ntmps19
    go_wp2
    go_loopw [14, 5, 6] (fun i _a _b wr => ∃ k : Nat, (k ≤ n ∧ i = .int .i64 k) ∧ Hid (l.take k = r.take k) ∧ wr = w) (fun i _ _ _ => n - (intOf i).toNat)
    case atStart => exact ⟨0, ⟨by omega, rfl⟩, by show _ = _; simp, rfl⟩
    case round =>
      obtain ⟨k, ⟨hk, rfl⟩, HT, rfl⟩ := hrel
      by_cases hlt : k < n
      · obtain ⟨b, o, rfl, hbB, hc⟩ := HL.out.at_ (by omega)
        obtain ⟨b', o', rfl, hbB', hc'⟩ := HR.out.at_ (by omega)
        have hkl : k < l.length := by rw [HLn.out]; exact hlt
        have hkr : k < r.length := by rw [HRn.out]; exact hlt
        obtain ⟨x, hx⟩ : ∃ x, l[k]'hkl = x := ⟨_, rfl⟩
        obtain ⟨y, hy⟩ : ∃ y, r[k]'hkr = y := ⟨_, rfl⟩
        have c0 : wr.cell? ⟨b, o + k, none⟩ = some (.int .u64 x) := hc k _ (by simp [u64s, hkl, hx])
        have d0 : wr.cell? ⟨b', o' + k, none⟩ = some (.int .u64 y) := hc' k _ (by simp [u64s, hkr, hy])
        have HX := Lib.hid hx
        have HY := Lib.hid hy
        clear hx hy hc hc'
        by_cases hxy : x = y
        · subst hxy
          have HT2 : Hid (l.take (k + 1) = r.take (k + 1)) := by
            show _ = _
            rw [List.take_succ_eq_append_getElem hkl, List.take_succ_eq_append_getElem hkr, HT.out, HX.out, HY.out]
          clear HX HY hkl hkr
          go_wp2
          go_roundw
          case rel => exact ⟨k + 1, ⟨by omega, by go_num⟩, HT2, trivial⟩
          case measure => simp [intOf]; omega
        · have HE : Hid (decide (l = r) = false) := decide_eq_false fun e => hxy (by
            subst e; exact HX.out.symm.trans HY.out)
          have hne : (x != y) = true := by simpa using hxy
          clear HX HY hkl hkr
          go_wp2
          go_ret
          exact ⟨ret_bool HE.out.symm, Below.refl _ _⟩
      · obtain rfl : n = k := by omega
        have HE : Hid (decide (l = r) = true) := decide_eq_true (by
          have h := HT.out
          rwa [List.take_of_length_le (by rw [HLn.out]; exact Nat.le_refl _), List.take_of_length_le (by rw [HRn.out]; exact Nat.le_refl _)] at h)
        go_wp2
        go_ret
        exact ⟨ret_bool HE.out.symm, Below.refl _ _⟩
  · have HE : Hid (decide (l = r) = false) := decide_eq_false fun e => hnn (by rw [← hn, ← hn', e])
    have hne : ¬ ((n : Int) = (n' : Int)) := fun e => hnn (by omega)
    clear hl hr hn hn'
    go_enter Try.func19, Try.ntmps19
    go_wp2
    go_ret
    exact ⟨ret_bool HE.out.symm, Below.refl _ _⟩
end Go.Proofs.Ytddaeaimimdonaa
