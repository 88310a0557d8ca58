/-
  Chapter 19, plain: the whole comes to what its parts come to, one after the other.
-/
import Derived.Test.YtddaeaimimdonaaLawL2P
import Derived.Test.YtddaeaimimdonaaLkT
import Derived.Test.YtddaeaimimdonaaModF
namespace Go.Proofs.Ytddaeaimimdonaa
open Go.RowKit
set_option linter.unusedVariables false
set_option linter.unusedSimpArgs false


theorem writesOf_le9 (op : Int) : writesOf op ≤ 9 := by
  unfold writesOf
  split
  · decide
  split
  · decide
  split <;> decide
theorem pay_none {maxw op : Int} {r : MRun} (h : payP maxw op r = none) : maxw - r.writes < 9 := by
  unfold payP at h
  split at h
  · have := writesOf_le9 op; omega
  · cases h
theorem do_42 {args : List Int} {maxw : Int} {i : Ins} {r : MRun} (h : (doP args maxw i r).1 = 42) : maxw - r.writes < 9 := by
  unfold doP at h
  by_cases n17 : i.op = 17
  · simp (decide := true) only [n17, ↓reduceIte] at h
  by_cases n18 : i.op = 18
  · simp (decide := true) only [n18, ↓reduceIte] at h
  by_cases n19 : i.op = 19
  · simp (decide := true) only [n19, ↓reduceIte] at h
  by_cases n20 : i.op = 20
  · simp (decide := true) only [n20, ↓reduceIte] at h
  by_cases n21 : i.op = 21
  · simp (decide := true) only [n21, ↓reduceIte] at h
  simp only [if_neg n17, if_neg n18, if_neg n19, if_neg n20, if_neg n21] at h
  by_cases h9 : i.op = 9 ∨ i.op = 10
  · simp only [if_pos h9] at h
    unfold rootP at h
    split at h
    · cases h
    split at h
    · cases h
    split at h
    · rename_i hp; exact pay_none hp
    · cases h
  by_cases h11 : i.op = 11 ∨ i.op = 12 ∨ i.op = 13 ∨ i.op = 14
  · simp only [if_neg h9, if_pos h11] at h
    unfold wordP at h
    split at h
    · cases h
    split at h
    · cases h
    split at h
    · cases h
    split at h
    · rename_i hp; exact pay_none hp
    · cases h
  by_cases h15 : i.op = 15
  · simp only [if_neg h9, if_neg h11, if_pos h15] at h
    unfold freshP at h
    split at h
    · rename_i hp; exact pay_none hp
    split at h
    · cases h
    split at h <;> cases h
  by_cases h16 : i.op = 16
  · simp only [if_neg h9, if_neg h11, if_neg h15, if_pos h16] at h
    unfold freeP at h
    split at h
    · cases h
    split at h
    · rename_i hp; exact pay_none hp
    · cases h
  simp only [if_neg h9, if_neg h11, if_neg h15, if_neg h16] at h
  cases h
theorem go_no42 (l : List Ins) (args : List Int) (maxw : Int) : ∀ (n : Nat) (r : MRun), r.code = 0 → r.writes + 9 * n ≤ maxw → (goP l args maxw n r).code ≠ 42
  | 0, r, _, _ => by show (41 : Int) ≠ 42; decide
  | n + 1, r, hc, hw => by
    have hd := step_doing args maxw (l.getD r.pc.toNat noIns) { r with steps := r.steps + 1 }
    rcases at_cases l args maxw r with h1 | ⟨h1, h2⟩ | ⟨h1, h2⟩
    · rw [goP_err h1]
      intro h
      have h : (atP l args maxw r).1 = 42 := h
      have := do_42 (r := { r with steps := r.steps + 1, pc := r.pc + 1 }) h
      simp only at this
      omega
    · rw [goP_end h1 h2, show (atP l args maxw r).2.code = r.code from hd.code, hc]; decide
    · rw [goP_on h1 h2]
      have h9 : (atP l args maxw r).2.writes ≤ r.writes + 9 := hd.nine
      exact go_no42 l args maxw n _ ((show (atP l args maxw r).2.code = r.code from hd.code).trans hc) (by omega)
theorem go_nineL (l : List Ins) (args : List Int) (maxw : Int) : ∀ (n : Nat) (r : MRun), (goP l args maxw n r).writes ≤ r.writes + 9 * n
  | 0, r => by show r.writes ≤ _; omega
  | n + 1, r => by
    have hd := (step_doing args maxw (l.getD r.pc.toNat noIns) { r with steps := r.steps + 1 }).nine
    have hd : (atP l args maxw r).2.writes ≤ r.writes + 9 := hd
    rcases at_cases l args maxw r with h1 | ⟨h1, h2⟩ | ⟨h1, h2⟩
    · rw [goP_err h1]
      show (atP l args maxw r).2.writes ≤ _
      omega
    · rw [goP_end h1 h2]; omega
    · rw [goP_on h1 h2]
      have := go_nineL l args maxw n (atP l args maxw r).2
      omega
/-- With so many words it does not matter how many. -/
theorem go_enough (l : List Ins) (args : List Int) (m maxw : Int) (n : Nat) (r : MRun) (hc : r.code = 0) (h1 : r.writes + 9 * n ≤ m) (h2 : m ≤ maxw) : goP l args m n r = goP l args maxw n r := by
  have h9 := go_nineL l args maxw n r
  exact go_words l args maxw m n r (go_no42 l args maxw n r hc (by omega)) (by omega)
/-- Registers are let be 0. -/
theorem clear_go {P : List Ins} {xargs : List Int} {w : Int} : ∀ (rs : List Nat) (p : Nat) (R : MRun), (∀ x, x < rs.length → P.getD (p + x) noIns = ⟨0, (rs.getD x 0 : Nat), 0, 0, 0⟩) → (∀ x ∈ rs, x < 16) → R.pc = (p : Int) → R.regs.length = 16 → R.ended = false →
    ∃ R' : MRun, (∀ m, rs.length ≤ m → goP P xargs w m R = goP P xargs w (m - rs.length) R') ∧ R'.pc = ((p + rs.length : Nat) : Int) ∧ R'.st = R.st ∧ R'.regs.length = 16 ∧ (∀ x, R'.regs.getD x 0 = if x ∈ rs then 0 else R.regs.getD x 0) ∧ R'.code = R.code ∧ R'.val = R.val ∧ R'.writes = R.writes ∧ R'.news = R.news ∧ R'.pick = R.pick ∧ R'.ended = false
  | [], p, R, _, _, hp, hl, he => ⟨R, fun m _ => rfl, by simpa using hp, rfl, hl, fun x => by simp, rfl, rfl, rfl, rfl, rfl, he⟩
  | y :: rs, p, R, hP, h16, hp, hl, he => by
    have h0 := hP 0 (by simp)
    rw [Nat.add_zero] at h0
    have hy := h16 y (by simp)
    obtain ⟨R1, hR1⟩ : ∃ R1 : MRun, R1 = { R with steps := R.steps + 1, pc := R.pc + 1, regs := R.regs.set y 0 } := ⟨_, rfl⟩
    have e1 : atP P xargs w R = (0, R1) := by
      rw [at_do, hp, Int.toNat_natCast, h0, hR1]
      unfold doP reckonP MRun.put
      simp (decide := true) only [↓reduceIte, List.getD_cons_zero, Int.toNat_natCast, hp]
    have he1 : R1.ended = false := by rw [hR1]; exact he
    obtain ⟨R', g1, g2, g3, g4, g5, g6, g7, g8, g9, g10, g11⟩ := clear_go (P := P) (xargs := xargs) (w := w) rs (p + 1) R1 (fun x hx => by
      have := hP (x + 1) (by simp; omega)
      rw [show p + 1 + x = p + (x + 1) by omega, this]
      simp) (fun x hx => h16 x (List.mem_cons_of_mem _ hx)) (by rw [hR1]; show R.pc + 1 = _; rw [hp]; omega) (by rw [hR1]; simp [hl]) he1
    subst hR1
    refine ⟨R', fun m hm => ?_, by rw [g2]; simp; omega, g3, g4, fun x => ?_, g6, g7, g8, g9, g10, g11⟩
    · obtain ⟨m', rfl⟩ : ∃ q, m = q + 1 := ⟨m - 1, by simp at hm; omega⟩
      rw [go_shift (by rw [e1]) (by rw [e1]) he1, g1 m' (by simp at hm; omega)]
      congr 1
      simp
    · rw [g5 x]
      show (if x ∈ rs then 0 else (R.regs.set y 0).getD x 0) = _
      rw [getD_set _ _ _ _ (by omega)]
      by_cases hx : x ∈ rs
      · rw [if_pos hx, if_pos (List.mem_cons_of_mem _ hx)]
      · rw [if_neg hx]
        by_cases hxy : y = x
        · rw [if_pos hxy, if_pos (by rw [hxy]; simp)]
        · rw [if_neg hxy, if_neg (by simp [hx]; exact fun e => hxy e.symm)]

def givenL (args results : List Int) (a : PArg) : Int := if a.kind = 1 then results.getD a.val.toNat 0 else if a.kind = 2 then args.getD a.val.toNat 0 else a.val
def usedU (code : List Ins) (x : Nat) : Prop := x < 12 ∧ (code.any fun i => usesOf i x) = true
theorem fits_used {code : List Ins} {A : List PArg} {k : Nat} (h : PartOk code A k) (hok : ∀ i ∈ code, i.Ok) : ∀ i ∈ code, Fits (usedU code) i := fun i hi => by
  have hf := fits_low h hok i hi
  refine ⟨hf.a, hf.b, hf.c, fun g => ⟨hf.ua g, ?_⟩, fun g => ⟨hf.ub g, ?_⟩, fun g => ⟨hf.uc g, ?_⟩⟩
  · refine List.any_eq_true.2 ⟨i, hi, ?_⟩
    unfold usesOf
    exact decide_eq_true (.inl ⟨g, by have := hf.a; omega⟩)
  · refine List.any_eq_true.2 ⟨i, hi, ?_⟩
    unfold usesOf
    exact decide_eq_true (.inr (.inl ⟨g, by have := hf.b; omega⟩))
  · refine List.any_eq_true.2 ⟨i, hi, ?_⟩
    unfold usesOf
    exact decide_eq_true (.inr (.inr ⟨g, by have := hf.c; omega⟩))
def regsL (code : List Ins) : List Nat := (List.range 16).filter fun r => code.any fun i => usesOf i r
theorem clearL_regs (code : List Ins) : clearL code = (regsL code).map fun (r : Nat) => (⟨0, (r : Int), 0, 0, 0⟩ : Ins) := rfl
/-- A run of the whole at a part's beginning. -/
structure Begins (k : Nat) (st : MSt) (left : List Int) (R : MRun) : Prop where
  st : R.st = st
  pick : R.pick = left
  len : R.regs.length = 16
  zero : k = 0 → ∀ x, x < 12 → R.regs.getD x 0 = 0
  code : R.code = 0
  val : R.val = 0
  ended : R.ended = false
theorem part_go {out code post P : List Ins} {A : List PArg} {args results left : List Int} {k : Nat} {st : MSt} {R : MRun} (h : PartOk code A k) (hok : ∀ i ∈ code, i.Ok) (hAk : ∀ a ∈ A, a.Ok) (hA4 : A.length = 4) (hk : k < 4) (hP : P = startL out k code ++ onesL code A k (startL out k code).length code.length ++ post)
    (hR : Begins k st left R) (hpc : R.pc = (out.length : Int)) (hw : R.writes ≤ 100000) (hw0 : 0 ≤ R.writes) (hres : ∀ x, x < k → R.regs.getD (12 + x) 0 = results.getD x 0)
    (h41 : (runP st code (A.map (givenL args results)) 300 1048576 left).code ≠ 41) :
    ((runP st code (A.map (givenL args results)) 300 1048576 left).code ≠ 0 ∧ ∀ m, 320 ≤ m → (goP P args 1048576 m R).code = (runP st code (A.map (givenL args results)) 300 1048576 left).code ∧ (goP P args 1048576 m R).val = (runP st code (A.map (givenL args results)) 300 1048576 left).val) ∨
    ((runP st code (A.map (givenL args results)) 300 1048576 left).code = 0 ∧ ∃ (s : Nat) (R' : MRun), s ≤ 320 ∧ (∀ m, s ≤ m → goP P args 1048576 m R = goP P args 1048576 (m - s) R') ∧ Begins (k + 1) (runP st code (A.map (givenL args results)) 300 1048576 left).st (left.drop (runP st code (A.map (givenL args results)) 300 1048576 left).news.length) R' ∧
      R'.pc = (((startL out k code).length + beforeL code code.length : Nat) : Int) ∧ R'.writes ≤ R.writes + 2700 ∧ 0 ≤ R'.writes ∧ (∀ x, x < k → R'.regs.getD (12 + x) 0 = results.getD x 0) ∧ R'.regs.getD (12 + k) 0 = (runP st code (A.map (givenL args results)) 300 1048576 left).val) := by
  have e1 : runP st code (A.map (givenL args results)) 300 1048576 left = goP code (A.map (givenL args results)) (1048576 - R.writes) 300 (startP st left) := by
    unfold runP
    rw [if_pos h.right]
    exact (go_enough _ _ _ _ _ _ rfl (by show (0 : Int) + _ ≤ _; omega) (by omega)).symm
  have h9 := go_nineL code (A.map (givenL args results)) (1048576 - R.writes) 300 (startP st left)
  have h9b := go_writes_mono code (A.map (givenL args results)) (1048576 - R.writes) 300 (startP st left)
  have hnews := go_news code (A.map (givenL args results)) (1048576 - R.writes) 300 (startP st left)
  rw [e1] at h41 ⊢
  obtain ⟨g, hg⟩ : ∃ g, goP code (A.map (givenL args results)) (1048576 - R.writes) 300 (startP st left) = g := ⟨_, rfl⟩
  have hs0 : (startP st left).writes = 0 := rfl
  rw [hg, hs0] at h9 h9b
  rw [hg] at hnews
  have hdrop : g.pick = left.drop g.news.length := by
    obtain ⟨x, n1, n2⟩ := hnews
    have n1 : g.news = x := by simpa [startP] using n1
    have n2 : left = x ++ g.pick := n2
    rw [n2, n1, List.drop_left]
  -- the registers are cleared
  obtain ⟨c, R1, hc, g1, g2, g3, g4, g5, g6, g7, g8, g9, g10, g11⟩ : ∃ (c : Nat) (R1 : MRun), c ≤ 16 ∧ (∀ m, c ≤ m → goP P args 1048576 m R = goP P args 1048576 (m - c) R1) ∧ R1.pc = ((startL out k code).length : Int) ∧ R1.st = st ∧ R1.regs.length = 16 ∧ (∀ x, usedU code x → R1.regs.getD x 0 = 0) ∧ (∀ x, x < 4 → R1.regs.getD (12 + x) 0 = R.regs.getD (12 + x) 0) ∧ R1.code = 0 ∧ R1.val = 0 ∧ R1.writes = R.writes ∧ R1.pick = left ∧ R1.ended = false := by
    by_cases hk0 : k = 0
    · refine ⟨0, R, by decide, fun m _ => rfl, ?_, hR.st, hR.len, fun x hx => hR.zero hk0 x hx.1, fun _ _ => rfl, hR.code, hR.val, rfl, hR.pick, hR.ended⟩
      rw [hpc]; unfold startL; rw [if_pos hk0]
    · have hst : startL out k code = out ++ clearL code := by unfold startL; rw [if_neg hk0]
      have hlow : ∀ x ∈ regsL code, x < 12 := by
        intro x hx
        obtain ⟨hx1, hx2⟩ := List.mem_filter.1 hx
        obtain ⟨i, hi, hu⟩ := List.any_eq_true.1 hx2
        have hf := fits_low h hok i hi
        unfold usesOf at hu
        have hu := of_decide_eq_true hu
        have ha := hf.a; have hb := hf.b; have hc := hf.c
        omega
      have hcl := clearL_len code
      have hcr : (regsL code).length = (clearL code).length := by rw [clearL_regs, List.length_map]
      obtain ⟨R', q1, q2, q3, q4, q5, q6, q7, q8, q9, q10, q11⟩ := clear_go (P := P) (xargs := args) (w := 1048576) (regsL code) out.length R (fun x hx => by
        have hlt : out.length + x < (startL out k code ++ onesL code A k (startL out k code).length code.length).length := by rw [hst]; simp only [List.length_append]; omega
        rw [hP, List.getD_eq_getElem?_getD, List.getElem?_append_left hlt, hst, List.append_assoc, List.getElem?_append_right (by omega), Nat.add_sub_cancel_left, List.getElem?_append_left (by omega), clearL_regs, List.getElem?_map, List.getElem?_eq_getElem hx, List.getD_eq_getElem?_getD, List.getElem?_eq_getElem hx]
        rfl) (fun x hx => by have := hlow x hx; omega) hpc hR.len hR.ended
      refine ⟨_, R', by rw [hcr]; exact hcl, q1, ?_, q3.trans hR.st, q4, fun x hx => ?_, fun x hx => ?_, q6.trans hR.code, q7.trans hR.val, q8, q10.trans hR.pick, q11⟩
      · rw [q2, hst, List.length_append, hcr]
      · rw [q5, if_pos]
        exact List.mem_filter.2 ⟨List.mem_range.2 (by have := hx.1; omega), hx.2⟩
      · rw [q5, if_neg]
        intro hm
        have := hlow _ hm
        omega
  have hzero : ∀ x, (startP st left).regs.getD x 0 = 0 := fun x => by
    show zero16.getD x 0 = 0
    by_cases hx : x < 16
    · have : x = 0 ∨ x = 1 ∨ x = 2 ∨ x = 3 ∨ x = 4 ∨ x = 5 ∨ x = 6 ∨ x = 7 ∨ x = 8 ∨ x = 9 ∨ x = 10 ∨ x = 11 ∨ x = 12 ∨ x = 13 ∨ x = 14 ∨ x = 15 := by omega
      rcases this with rfl | rfl | rfl | rfl | rfl | rfl | rfl | rfl | rfl | rfl | rfl | rfl | rfl | rfl | rfl | rfl <;> rfl
    · rw [List.getD_eq_getElem?_getD, List.getElem?_eq_none (by simp [zero16]; omega)]; rfl
  obtain ⟨hi, hhi⟩ : ∃ hi : List Int, hi = [R.regs.getD 12 0, R.regs.getD 13 0, R.regs.getD 14 0, R.regs.getD 15 0] := ⟨_, rfl⟩
  have hhi2 : ∀ x, x < 4 → hi.getD x 0 = R.regs.getD (12 + x) 0 := fun x hx => by
    have : x = 0 ∨ x = 1 ∨ x = 2 ∨ x = 3 := by omega
    rw [hhi]
    rcases this with rfl | rfl | rfl | rfl <;> rfl
  have hs : Sim (usedU code) R.writes R1.news hi (startP st left) R1 := by
    refine ⟨g3, fun x hx => ?_, fun x hx => ?_, rfl, g4, g7, g8, ?_, ?_, g10, g11⟩
    · rw [g5 x hx, hzero]
    · rw [g6 x hx, hhi2 x hx]
    · rw [g9]; show R.writes = R.writes + 0; omega
    · show R1.news = R1.news ++ []; simp
  have hA : ∀ m : Nat, m < 4 → GivenAt args hi (A.getD m ⟨0, 0⟩) ((A.map (givenL args results)).getD m 0) := fun m hm => by
    have hmA : m < A.length := by omega
    have ea : A.getD m ⟨0, 0⟩ = A[m]'hmA := by rw [List.getD_eq_getElem?_getD, List.getElem?_eq_getElem hmA]; rfl
    have eb : (A.map (givenL args results)).getD m 0 = givenL args results (A[m]'hmA) := by rw [List.getD_eq_getElem?_getD, List.getElem?_map, List.getElem?_eq_getElem hmA]; rfl
    rw [ea, eb]
    obtain ⟨a, haa⟩ : ∃ a, A[m]'hmA = a := ⟨_, rfl⟩
    have hmem := List.getElem_mem hmA
    rw [haa] at hmem ⊢
    have hb := of_decide_eq_false (h.args a hmem)
    have hv := (hAk a hmem).val.1
    unfold givenL
    refine ⟨fun h0 => ?_, fun h1 => ⟨hv, by omega, ?_⟩, fun h0 h1 => ?_⟩
    · rw [if_neg (by omega), if_neg (by omega)]
    · rw [if_pos h1, hhi2 _ (by omega), hres _ (by omega)]
    · rw [if_neg h1, if_pos (by omega)]
  have hpl : Placed P code A k (startL out k code).length := by rw [hP]; exact placed_mid _ _ _ _ _
  have hmw : (1048576 : Int) - R.writes + R.writes = 1048576 := by omega
  have hgo := sim_go (maxw := 1048576 - R.writes) h.right hok (fits_used h hok) hA hpl hk 300 (startP st left) R1 0 hs rfl h.len.1 (by rw [g2]; rfl) rfl rfl rfl h41
  rw [hmw, hg] at hgo
  rw [hg]
  rcases hgo with ⟨k1, k2⟩ | ⟨k1, s, R', k2, k3, k4⟩
  · refine .inl ⟨k1, fun m hm => ?_⟩
    obtain ⟨q1, q2, _⟩ := k2 (m - c) (by omega)
    rw [g1 m (by omega)]
    exact ⟨q1, q2⟩
  · refine .inr ⟨k1, c + s, R', by omega, fun m hm => ?_, ⟨k4.st, k4.pick.trans hdrop, k4.len, fun h0 => by omega, k4.code, k4.val, k4.ended⟩, k4.pc, ?_, ?_, fun x hx => ?_, k4.res⟩
    · rw [g1 m (by omega), k3 (m - c) (by omega), show m - c - s = m - (c + s) by omega]
    · rw [k4.writes]; omega
    · rw [k4.writes]; omega
    · rw [k4.keep x (by omega) (by omega), hhi2 x (by omega), hres x hx]
theorem addL_pre (out : List Ins) (k : Nat) (code : List Ins) (args : List PArg) : ∃ t, addL out k code args = out ++ t := by
  unfold addL startL
  split
  · exact ⟨_, rfl⟩
  · exact ⟨_, List.append_assoc _ _ _⟩
theorem allL_pre (l : List Prt) (m : Nat) : ∀ d, ∃ t, allL l (m + d) = allL l m ++ t
  | 0 => ⟨[], by simp⟩
  | d + 1 => by
    obtain ⟨t, ht⟩ := allL_pre l m d
    obtain ⟨t2, h2⟩ := addL_pre (allL l (m + d)) (m + d) (l.getD (m + d) ⟨none, 0, 0, [], []⟩).code (l.getD (m + d) ⟨none, 0, 0, [], []⟩).args
    refine ⟨t ++ t2, ?_⟩
    rw [show m + (d + 1) = (m + d) + 1 by omega, allL, h2, ht, List.append_assoc]

theorem set_right {N p r : Nat} (hr : r < 16) : oneE N p ⟨0, (r : Int), 0, 0, 0⟩ = 0 := by
  have hf : fieldB (r : Int) true = true := field_ok (by omega)
  have hpl : Ins.plain ⟨0, (r : Int), 0, 0, 0⟩ = true := by
    unfold Ins.plain plainB
    rw [show regsOf 0 = 1 from rfl, show immOf 0 = true from rfl]
    simp [fieldB]
    omega
  unfold oneE
  rw [hpl]
  simp (decide := true) only [↓reduceIte]
/-- All parts are as they should be. -/
structure PartsOk (l : List Prt) : Prop where
  ok : ∀ (k : Nat) (q : Prt), l[k]? = some q → PartOk q.code q.args k
  ins : ∀ q ∈ l, ∀ i ∈ q.code, i.Ok
  args : ∀ q ∈ l, ∀ a ∈ q.args, a.Ok
  four : ∀ q ∈ l, q.args.length = 4
  few : l.length ≤ 4
theorem all_at {l : List Prt} {k : Nat} {q : Prt} (h : l[k]? = some q) : allL l (k + 1) = startL (allL l k) k q.code ++ onesL q.code q.args k (startL (allL l k) k q.code).length q.code.length := by
  rw [allL_snoc h]; rfl
theorem all_ins {l : List Prt} (h : PartsOk l) {N : Nat} : ∀ k, k ≤ l.length → (allL l k).length < N → ∀ p i, (allL l k)[p]? = some i → oneE N p i = 0
  | 0, _, _, p, i, hi => by simp [allL] at hi
  | k + 1, hk, hN, p, i, hi => by
    have hq : l[k]? = some (l[k]'(by omega)) := List.getElem?_eq_getElem (by omega)
    obtain ⟨q, hqq⟩ : ∃ q, l[k]'(by omega) = q := ⟨_, rfl⟩
    rw [hqq] at hq
    have hm := List.mem_of_getElem? hq
    have hp := h.ok k q hq
    have hfew := h.few
    obtain ⟨S, hS⟩ : ∃ S, startL (allL l k) k q.code = S := ⟨_, rfl⟩
    have e := all_at hq
    rw [hS] at e
    have hl1 : (allL l (k + 1)).length = S.length + beforeL q.code q.code.length := by rw [e, List.length_append, onesL_size]
    have hsl := startL_len (allL l k) k q.code
    rw [hS] at hsl
    rw [e] at hi
    by_cases h1 : p < S.length
    · rw [List.getElem?_append_left h1] at hi
      by_cases h2 : p < (allL l k).length
      · refine all_ins h k (by omega) (by omega) p i ?_
        rw [← hS] at hi
        unfold startL at hi
        split at hi
        · exact hi
        · rw [List.getElem?_append_left h2] at hi; exact hi
      · rw [← hS] at hi h1
        unfold startL at hi h1
        split at hi
        · rename_i h0
          rw [if_pos h0] at h1
          exact absurd h1 h2
        · rw [List.getElem?_append_right (by omega), clearL_regs, List.getElem?_map] at hi
          obtain ⟨r, hr, rfl⟩ := Option.map_eq_some_iff.1 hi
          have hr := List.mem_of_getElem? hr
          exact set_right (List.mem_range.1 (List.mem_filter.1 hr).1)
    · rw [List.getElem?_append_right (by omega)] at hi
      have hlt := (List.getElem?_eq_some_iff.1 hi).1
      rw [onesL_size] at hlt
      obtain ⟨j, x, h3, h4, h5⟩ := pos_split q.code q.code.length (p - S.length) hlt
      have ho := one_right (at_ := S.length) (N := N) hp (h.ins q hm) (h.args q hm) (h.four q hm) (by omega) h3 (x := x) (by rw [oneL_size]; exact h4) (by omega)
      obtain ⟨e1, _⟩ := ones_at q.code q.args k S.length q.code.length j x h3 (by rw [oneL_size]; exact h4) (oneL_size q.code q.args k S.length)
      rw [← e1, ← h5, List.getD_eq_getElem?_getD, hi] at ho
      rw [show S.length + beforeL q.code j + x = p by omega] at ho
      exact ho
theorem whole_right {l : List Prt} (h : PartsOk l) (h1 : 0 < l.length) (h256 : (wholeL l).length ≤ 256) : rightP (wholeL l) = true := by
  have hl : (wholeL l).length = (allL l l.length).length + 1 := by unfold wholeL; rw [List.length_append]; rfl
  have hfew := h.few
  refine right_of (by omega) h256 (fun p i hi => ?_) ?_
  · rw [hl]
    unfold wholeL at hi
    by_cases hp : p < (allL l l.length).length
    · rw [List.getElem?_append_left hp] at hi
      exact all_ins h l.length (Nat.le_refl _) (by omega) p i hi
    · rw [List.getElem?_append_right (by omega)] at hi
      obtain ⟨rfl⟩ : (⟨20, 11 + (l.length : Int), 0, 0, 0⟩ : Ins) = i := by
        have hlt := (List.getElem?_eq_some_iff.1 hi).1
        have : p - (allL l l.length).length = 0 := by simp at hlt; omega
        rw [this] at hi
        simpa using hi
      have hf : fieldB (11 + (l.length : Int)) true = true := field_ok (by omega)
      have hpl : Ins.plain ⟨20, 11 + (l.length : Int), 0, 0, 0⟩ = true := by
        unfold Ins.plain plainB
        rw [show regsOf 20 = 1 from rfl]
        simp [fieldB]
        omega
      unfold oneE
      rw [hpl]
      simp (decide := true) only [↓reduceIte]
  · unfold lastEnds
    rw [hl, Nat.add_sub_cancel]
    unfold wholeL
    rw [List.getElem?_append_right (Nat.le_refl _), Nat.sub_self]
    rfl
theorem all_ok {l : List Prt} (h : PartsOk l) : ∀ k, k ≤ l.length → (allL l k).length ≤ 600 → ∀ i ∈ allL l k, i.Ok
  | 0, _, _, i, hi => by simp [allL] at hi
  | k + 1, hk, hN, i, hi => by
    have hq : l[k]? = some (l[k]'(by omega)) := List.getElem?_eq_getElem (by omega)
    obtain ⟨q, hqq⟩ : ∃ q, l[k]'(by omega) = q := ⟨_, rfl⟩
    rw [hqq] at hq
    have hm := List.mem_of_getElem? hq
    have hfew := h.few
    have e := all_at hq
    have hsl := startL_len (allL l k) k q.code
    rw [e] at hi hN
    rw [List.length_append] at hN
    rcases List.mem_append.1 hi with hi | hi
    · unfold startL at hi
      split at hi
      · exact all_ok h k (by omega) (by omega) i hi
      · rcases List.mem_append.1 hi with hi | hi
        · exact all_ok h k (by omega) (by omega) i hi
        · rw [clearL_regs] at hi
          obtain ⟨r, hr, rfl⟩ := List.mem_map.1 hi
          have hr := List.mem_range.1 (List.mem_filter.1 hr).1
          exact ok_mk (by decide) (by omega) (by decide) (by decide) (by decide)
    · obtain ⟨j, hj, hi⟩ := List.mem_flatMap.1 hi
      exact ones_ok (h.ok k q hq) (h.ins q hm) (h.args q hm) (h.four q hm) (by omega) (by omega) (List.mem_range.1 hj) i hi
theorem whole_ok {l : List Prt} (h : PartsOk l) (h256 : (wholeL l).length ≤ 256) : ∀ i ∈ wholeL l, i.Ok := fun i hi => by
  have hl : (wholeL l).length = (allL l l.length).length + 1 := by unfold wholeL; rw [List.length_append]; rfl
  have hfew := h.few
  unfold wholeL at hi
  rcases List.mem_append.1 hi with hi | hi
  · exact all_ok h l.length (Nat.le_refl _) (by omega) i hi
  · obtain rfl := List.mem_singleton.1 hi
    exact ok_mk (by decide) (by omega) (by decide) (by decide) (by decide)
/-- The parts so far, one after the other, are done: so far the whole is done, too. -/
structure Reached (l : List Prt) (s0 : MSt) (args pick : List Int) (k : Nat) (st : MSt) (left results : List Int) (S : Nat) (R : MRun) : Prop where
  steps : S ≤ 320 * k
  go : ∀ m, S ≤ m → goP (wholeL l) args 1048576 m (startP s0 pick) = goP (wholeL l) args 1048576 (m - S) R
  pc : R.pc = ((allL l k).length : Int)
  begins : Begins k st left R
  w0 : 0 ≤ R.writes
  w1 : R.writes ≤ 2700 * k
  res : ∀ x, x < k → R.regs.getD (12 + x) 0 = results.getD x 0
  len : results.length = k
theorem reach0 (l : List Prt) (s0 : MSt) (args pick : List Int) : Reached l s0 args pick 0 s0 pick [] 0 (startP s0 pick) := by
  refine ⟨by omega, fun m _ => rfl, rfl, ⟨rfl, rfl, rfl, fun _ x hx => ?_, rfl, rfl, rfl⟩, (show (0 : Int) ≤ 0 from Int.le_refl 0), (show (0 : Int) ≤ 2700 * ((0 : Nat) : Int) by simp), fun x hx => by omega, rfl⟩
  show zero16.getD x 0 = 0
  have : x = 0 ∨ x = 1 ∨ x = 2 ∨ x = 3 ∨ x = 4 ∨ x = 5 ∨ x = 6 ∨ x = 7 ∨ x = 8 ∨ x = 9 ∨ x = 10 ∨ x = 11 := by omega
  rcases this with rfl | rfl | rfl | rfl | rfl | rfl | rfl | rfl | rfl | rfl | rfl | rfl <;> rfl
theorem whole_at {l : List Prt} {k : Nat} {q : Prt} (h : l[k]? = some q) : ∃ post, wholeL l = startL (allL l k) k q.code ++ onesL q.code q.args k (startL (allL l k) k q.code).length q.code.length ++ post := by
  have hk : k < l.length := (List.getElem?_eq_some_iff.1 h).1
  obtain ⟨t, ht⟩ := allL_pre l (k + 1) (l.length - (k + 1))
  rw [show k + 1 + (l.length - (k + 1)) = l.length by omega, all_at h] at ht
  exact ⟨_, by unfold wholeL; rw [ht, List.append_assoc]⟩
theorem reach_next {l : List Prt} {s0 st : MSt} {args pick left results : List Int} {k S : Nat} {R : MRun} {q : Prt} (h : PartsOk l) (hr : Reached l s0 args pick k st left results S R) (hq : l[k]? = some q)
    (h41 : (runP st q.code (q.args.map (givenL args results)) 300 1048576 left).code ≠ 41) :
    ((runP st q.code (q.args.map (givenL args results)) 300 1048576 left).code ≠ 0 ∧ (goP (wholeL l) args 1048576 1048576 (startP s0 pick)).code = (runP st q.code (q.args.map (givenL args results)) 300 1048576 left).code ∧ (goP (wholeL l) args 1048576 1048576 (startP s0 pick)).val = (runP st q.code (q.args.map (givenL args results)) 300 1048576 left).val) ∨
    ((runP st q.code (q.args.map (givenL args results)) 300 1048576 left).code = 0 ∧ ∃ S' R', Reached l s0 args pick (k + 1) (runP st q.code (q.args.map (givenL args results)) 300 1048576 left).st (left.drop (runP st q.code (q.args.map (givenL args results)) 300 1048576 left).news.length) (results ++ [(runP st q.code (q.args.map (givenL args results)) 300 1048576 left).val]) S' R') := by
  have hm := List.mem_of_getElem? hq
  have hkl : k < l.length := (List.getElem?_eq_some_iff.1 hq).1
  have hfew := h.few
  obtain ⟨post, hpost⟩ := whole_at hq
  have hst := hr.steps
  have hw1 := hr.w1
  rcases part_go (P := wholeL l) (results := results) (h.ok k q hq) (h.ins q hm) (h.args q hm) (h.four q hm) (by omega) hpost hr.begins hr.pc (by omega) hr.w0 hr.res h41 with ⟨g1, g2⟩ | ⟨g1, s, R', g2, g3, g4, g5, g6, g7, g8, g9⟩
  · obtain ⟨q1, q2⟩ := g2 (1048576 - S) (by omega)
    refine .inl ⟨g1, ?_, ?_⟩
    · rw [hr.go 1048576 (by omega)]; exact q1
    · rw [hr.go 1048576 (by omega)]; exact q2
  · refine .inr ⟨g1, S + s, R', by omega, fun m hm2 => ?_, ?_, g4, g7, by omega, fun x hx => ?_, by rw [List.length_append, hr.len]; rfl⟩
    · rw [hr.go m (by omega), g3 (m - S) (by omega), show m - S - s = m - (S + s) by omega]
    · rw [g5, all_at hq, List.length_append, onesL_size]
    · have hl := hr.len
      by_cases hxk : x < k
      · rw [g8 x hxk, List.getD_eq_getElem?_getD, List.getD_eq_getElem?_getD, List.getElem?_append_left (by omega)]
      · obtain rfl : x = k := by omega
        rw [g9, List.getD_eq_getElem?_getD, List.getElem?_append_right (by omega), hl, Nat.sub_self]; rfl
theorem reach_end {l : List Prt} {s0 st : MSt} {args pick left results : List Int} {S : Nat} {R : MRun} (h : PartsOk l) (h1 : 0 < l.length) (hr : Reached l s0 args pick l.length st left results S R) :
    (goP (wholeL l) args 1048576 1048576 (startP s0 pick)).code = 0 ∧ (goP (wholeL l) args 1048576 1048576 (startP s0 pick)).val = results.getD (l.length - 1) 0 ∧ (goP (wholeL l) args 1048576 1048576 (startP s0 pick)).st = st := by
  have hfew := h.few
  have hst := hr.steps
  have hres := hr.res (l.length - 1) (by omega)
  have hend : (wholeL l).getD (allL l l.length).length noIns = ⟨20, 11 + (l.length : Int), 0, 0, 0⟩ := by
    unfold wholeL
    rw [List.getD_eq_getElem?_getD, List.getElem?_append_right (Nat.le_refl _), Nat.sub_self]; rfl
  have ho : atP (wholeL l) args 1048576 R = (0, { R with steps := R.steps + 1, pc := R.pc + 1, val := results.getD (l.length - 1) 0, ended := true }) := by
    rw [at_do, hr.pc, Int.toNat_natCast, hend]
    unfold doP MRun.reg
    simp (decide := true) only [↓reduceIte]
    rw [show ((11 : Int) + (l.length : Int)).toNat = 12 + (l.length - 1) by omega, hres]
  rw [hr.go 1048576 (by omega), show 1048576 - S = (1048575 - S) + 1 by omega, goP_end (by rw [ho]) (by rw [ho]), ho]
  exact ⟨hr.begins.code, rfl, hr.begins.st⟩
theorem getD_u64L {l : List Int} (h : ∀ x ∈ l, U64 x) (k : Nat) : U64 (l.getD k 0) := by
  rw [List.getD_eq_getElem?_getD]
  cases hk : l[k]? with
  | none => exact ⟨by decide, by decide⟩
  | some x => exact h x (List.mem_of_getElem? hk)
theorem do_ended {args : List Int} {maxw : Int} {i : Ins} {r : MRun} (h : i.op ≠ 20) : (doP args maxw i r).2.ended = r.ended := by
  by_cases hj : i.op < 17 ∨ 20 < i.op
  · exact (do_stay hj).2
  · have : i.op = 17 ∨ i.op = 18 ∨ i.op = 19 := by omega
    unfold doP
    rcases this with e | e | e
    · simp (decide := true) only [e, ↓reduceIte]
    · simp (decide := true) only [e, ↓reduceIte]; split <;> rfl
    · simp (decide := true) only [e, ↓reduceIte]; split <;> rfl
/-- What a program that returns comes to is a number. -/
theorem val_ok {l : List Ins} {args : List Int} {maxw : Int} (hok : ∀ i ∈ l, i.Ok) (ha : ∀ x ∈ args, U64 x) : ∀ (n : Nat) (r : MRun), ROk maxw r → r.writes + 9 * n ≤ 1000000 → r.ended = false → (goP l args maxw n r).code = 0 → U64 (goP l args maxw n r).val
  | 0, r, _, _, _, hc => by cases hc
  | n + 1, r, hr, hw, he, hc => by
    have hd := step_doing args maxw (l.getD r.pc.toNat noIns) { r with steps := r.steps + 1 }
    have him : U64 (l.getD r.pc.toNat noIns).imm := by
      rw [List.getD_eq_getElem?_getD]
      cases hi : l[r.pc.toNat]? with
      | none => exact ⟨by decide, by decide⟩
      | some i => exact (hok i (List.mem_of_getElem? hi)).imm
    have hr1 : ROk maxw { r with steps := r.steps + 1 } := ⟨hr.regs, hr.roots, hr.blocks, hr.pick, hr.w0, hr.w1, hr.mw⟩
    have hs : ROk maxw (atP l args maxw r).2 := step_ok hr1 (by show r.writes ≤ _; omega) ha him
    rcases at_cases l args maxw r with h1 | ⟨h1, h2⟩ | ⟨h1, h2⟩
    · rw [goP_err h1] at hc
      exact absurd hc h1
    · rw [goP_end h1 h2]
      rw [at_do] at h2 ⊢
      obtain ⟨i, hi⟩ : ∃ i, l.getD r.pc.toNat noIns = i := ⟨_, rfl⟩
      rw [hi] at h2 ⊢
      by_cases h20 : i.op = 20
      · unfold doP
        simp (decide := true) only [h20, ↓reduceIte]
        exact getD_u64L hr.regs _
      · rw [do_ended h20] at h2
        exact absurd h2 (by simp [he])
    · rw [goP_on h1 h2] at hc ⊢
      have h9 : (atP l args maxw r).2.writes ≤ r.writes + 9 := hd.nine
      exact val_ok hok ha n _ hs (by omega) h2 hc
theorem val_u64 {l : List Ins} {args pick : List Int} {maxw : Int} {s : MSt} (hl : rightP l = true) (hok : ∀ i ∈ l, i.Ok) (ha : ∀ x ∈ args, U64 x) (hs : SOk s) (hp : ∀ x ∈ pick, U64 x) (hm : -9223372036854775808 ≤ maxw ∧ maxw ≤ 9223372036854775807) (hc : (runP s l args 300 maxw pick).code = 0) : U64 (runP s l args 300 maxw pick).val := by
  have e : runP s l args 300 maxw pick = goP l args maxw 300 (startP s pick) := by unfold runP; rw [if_pos hl]; rfl
  rw [e] at hc ⊢
  exact val_ok hok ha 300 _ (start_under (N := 300) (args := args) (l := l) hs hp hm hl).ok (by show (0 : Int) + _ ≤ _; decide) rfl hc
end Go.Proofs.Ytddaeaimimdonaa
