/-
  Chapter 19, plain: a part inside a whole runs as it runs alone: one instruction; the whole part.
-/
import Derived.Test.YtddaeaimimdonaaLkEP
import Derived.Test.YtddaeaimimdonaaLkP
namespace Go.Proofs.Ytddaeaimimdonaa
open Go.RowKit
set_option linter.unusedVariables false
set_option linter.unusedSimpArgs false

/-- A run alone, r, and the whole's run, R: the registers of U, the state, what is written, the new handles. -/
structure Sim (U : Nat → Prop) (W0 : Int) (N0 hi : List Int) (r R : MRun) : Prop where
  st : R.st = r.st
  regs : ∀ x : Nat, U x → R.regs.getD x 0 = r.regs.getD x 0
  keep : ∀ x : Nat, x < 4 → R.regs.getD (12 + x) 0 = hi.getD x 0
  len : r.regs.length = 16
  len2 : R.regs.length = 16
  code : R.code = r.code
  val : R.val = r.val
  writes : R.writes = W0 + r.writes
  news : R.news = N0 ++ r.news
  pick : R.pick = r.pick
  ended : R.ended = r.ended
structure Fits (U : Nat → Prop) (i : Ins) : Prop where
  a : 0 ≤ i.a ∧ i.a < 12
  b : 0 ≤ i.b ∧ i.b < 12
  c : 0 ≤ i.c ∧ i.c < 12
  ua : 0 < regsOf i.op → U i.a.toNat
  ub : 1 < regsOf i.op → U i.b.toNat
  uc : 2 < regsOf i.op → U i.c.toNat
section
variable {U : Nat → Prop} {W0 : Int} {N0 hi : List Int} {r R : MRun}
theorem getD_set (l : List Int) (a x : Nat) (v : Int) (ha : a < l.length) : (l.set a v).getD x 0 = if a = x then v else l.getD x 0 := by
  rw [List.getD_eq_getElem?_getD, List.getElem?_set]
  by_cases h : a = x
  · subst h; simp [ha]
  · simp [h]
theorem Sim.reg (h : Sim U W0 N0 hi r R) {k : Int} (hk : U k.toNat) : R.reg k = r.reg k := h.regs _ hk
theorem Sim.put (h : Sim U W0 N0 hi r R) {a : Int} (ha : 0 ≤ a ∧ a < 12) (v : Int) : Sim U W0 N0 hi (r.put a v) (R.put a v) := by
  refine ⟨h.st, fun x hx => ?_, fun x hx => ?_, by simp [MRun.put, h.len], by simp [MRun.put, h.len2], h.code, h.val, h.writes, h.news, h.pick, h.ended⟩
  · show (R.regs.set _ _).getD _ _ = (r.regs.set _ _).getD _ _
    rw [getD_set _ _ _ _ (by rw [h.len2]; omega), getD_set _ _ _ _ (by rw [h.len]; omega), h.regs x hx]
  · show (R.regs.set _ _).getD _ _ = _
    rw [getD_set _ _ _ _ (by rw [h.len2]; omega), if_neg (by omega), h.keep x hx]
theorem Sim.pc (h : Sim U W0 N0 hi r R) (p q : Int) : Sim U W0 N0 hi { r with pc := p } { R with pc := q } := ⟨h.st, h.regs, h.keep, h.len, h.len2, h.code, h.val, h.writes, h.news, h.pick, h.ended⟩
theorem Sim.steps (h : Sim U W0 N0 hi r R) (p q : Int) : Sim U W0 N0 hi { r with steps := p } { R with steps := q } := ⟨h.st, h.regs, h.keep, h.len, h.len2, h.code, h.val, h.writes, h.news, h.pick, h.ended⟩
theorem Sim.state (h : Sim U W0 N0 hi r R) (s : MSt) : Sim U W0 N0 hi { r with st := s } { R with st := s } := ⟨rfl, h.regs, h.keep, h.len, h.len2, h.code, h.val, h.writes, h.news, h.pick, h.ended⟩
theorem Sim.pay (h : Sim U W0 N0 hi r R) (maxw op : Int) : (payP maxw op r = none ∧ payP (maxw + W0) op R = none) ∨ ∃ r' R', payP maxw op r = some r' ∧ payP (maxw + W0) op R = some R' ∧ Sim U W0 N0 hi r' R' ∧ r' = { r with writes := r.writes + writesOf op } ∧ R' = { R with writes := R.writes + writesOf op } := by
  have e : maxw + W0 - R.writes = maxw - r.writes := by rw [h.writes]; omega
  unfold payP
  rw [e]
  by_cases hc : maxw - r.writes < writesOf op
  · left; exact ⟨if_pos hc, if_pos hc⟩
  · right
    refine ⟨_, _, if_neg hc, if_neg hc, ⟨h.st, h.regs, h.keep, h.len, h.len2, h.code, h.val, ?_, h.news, h.pick, h.ended⟩, rfl, rfl⟩
    show R.writes + _ = W0 + (r.writes + _)
    rw [h.writes]; omega
/-- What two steps come to is alike. -/
def Alike (U : Nat → Prop) (W0 : Int) (N0 hi : List Int) (p q : Int × MRun) : Prop := q.1 = p.1 ∧ Sim U W0 N0 hi p.2 q.2
theorem root_sim (h : Sim U W0 N0 hi r R) {i : Ins} (hf : Fits U i) (h2 : regsOf i.op = 2) (maxw : Int) : Alike U W0 N0 hi (rootP maxw i r) (rootP (maxw + W0) i R) := by
  have ha := h.reg (hf.ua (by omega))
  have hb := h.reg (hf.ub (by omega))
  unfold rootP
  rw [hb, ha, h.st]
  by_cases h16 : 16 ≤ r.reg i.b
  · rw [if_pos h16, if_pos h16]; exact ⟨rfl, h⟩
  rw [if_neg h16, if_neg h16]
  by_cases h9 : i.op = 9
  · rw [if_pos h9, if_pos h9]; exact ⟨rfl, h.put hf.a _⟩
  rw [if_neg h9, if_neg h9]
  rcases h.pay maxw i.op with ⟨e1, e2⟩ | ⟨r', R', e1, e2, hs, e3, e4⟩
  · rw [e1, e2]; exact ⟨rfl, h⟩
  · rw [e1, e2]
    exact ⟨rfl, hs.state _⟩
theorem word_sim (h : Sim U W0 N0 hi r R) {i : Ins} (hf : Fits U i) (h2 : 2 ≤ regsOf i.op) (h3 : i.op = 12 ∨ i.op = 14 → regsOf i.op = 3) (maxw : Int) : Alike U W0 N0 hi (wordP maxw i r) (wordP (maxw + W0) i R) := by
  have ha := h.reg (hf.ua (by omega))
  have hb := h.reg (hf.ub (by omega))
  have hw : wordAt i R = wordAt i r := by
    unfold wordAt
    by_cases h12 : i.op = 12 ∨ i.op = 14
    · rw [if_pos h12, if_pos h12]; exact h.reg (hf.uc (by have := h3 h12; omega))
    · rw [if_neg h12, if_neg h12]
  unfold wordP
  rw [hb, ha, hw, h.st]
  cases r.st.blocks (r.reg i.b) with
  | none => exact ⟨rfl, h⟩
  | some ws =>
    simp only
    by_cases h8 : 8 ≤ wordAt i r
    · rw [if_pos h8, if_pos h8]; exact ⟨rfl, h⟩
    rw [if_neg h8, if_neg h8]
    by_cases h11 : i.op = 11 ∨ i.op = 12
    · rw [if_pos h11, if_pos h11]; exact ⟨rfl, h.put hf.a _⟩
    rw [if_neg h11, if_neg h11]
    rcases h.pay maxw i.op with ⟨e1, e2⟩ | ⟨r', R', e1, e2, hs, e3, e4⟩
    · rw [e1, e2]; exact ⟨rfl, h⟩
    · rw [e1, e2]
      exact ⟨rfl, hs.state _⟩
theorem fresh_sim (h : Sim U W0 N0 hi r R) {i : Ins} (hf : Fits U i) (maxw : Int) : Alike U W0 N0 hi (freshP maxw i r) (freshP (maxw + W0) i R) := by
  unfold freshP
  rcases h.pay maxw i.op with ⟨e1, e2⟩ | ⟨r', R', e1, e2, hs, e3, e4⟩
  · rw [e1, e2]; exact ⟨rfl, h⟩
  · rw [e1, e2, h.pick]
    simp only
    cases r.pick with
    | nil => exact ⟨rfl, hs⟩
    | cons x rest =>
      simp only
      rw [h.st]
      by_cases hx : (r.st.blocks x).isSome = true ∨ x = 0 ∨ 64 < x
      · rw [if_pos hx, if_pos hx]; exact ⟨rfl, hs⟩
      · rw [if_neg hx, if_neg hx]
        have hp := hs.put hf.a x
        subst e3 e4
        refine ⟨rfl, ⟨rfl, ?_, ?_, ?_, ?_, hs.code, hs.val, hs.writes, ?_, rfl, hs.ended⟩⟩
        · exact hp.regs
        · exact hp.keep
        · exact hp.len
        · exact hp.len2
        · show R.news ++ [x] = N0 ++ (r.news ++ [x])
          rw [h.news, List.append_assoc]
theorem free_sim (h : Sim U W0 N0 hi r R) {i : Ins} (hf : Fits U i) (h1 : 0 < regsOf i.op) (maxw : Int) : Alike U W0 N0 hi (freeP maxw i r) (freeP (maxw + W0) i R) := by
  have ha := h.reg (hf.ua h1)
  unfold freeP
  rw [ha, h.st]
  cases r.st.blocks (r.reg i.a) with
  | none => exact ⟨rfl, h⟩
  | some ws =>
    simp only
    rcases h.pay maxw i.op with ⟨e1, e2⟩ | ⟨r', R', e1, e2, hs, e3, e4⟩
    · rw [e1, e2]; exact ⟨rfl, h⟩
    · rw [e1, e2]
      exact ⟨rfl, hs.state _⟩
theorem do_sim (h : Sim U W0 N0 hi r R) {i : Ins} (hf : Fits U i) (h0 : 0 ≤ i.op ∧ i.op ≤ 21) (h8 : i.op ≠ 8) (hj : i.op < 17 ∨ i.op = 21) (args xargs : List Int) (maxw : Int) :
    Alike U W0 N0 hi (doP args maxw i r) (doP xargs (maxw + W0) i R) := by
  unfold doP
  have n17 : ¬ i.op = 17 := by omega
  have n18 : ¬ i.op = 18 := by omega
  have n19 : ¬ i.op = 19 := by omega
  have n20 : ¬ i.op = 20 := by omega
  simp only [if_neg n17, if_neg n18, if_neg n19, if_neg n20]
  by_cases h21 : i.op = 21
  · simp only [if_pos h21]
    exact ⟨rfl, ⟨h.st, h.regs, h.keep, h.len, h.len2, h.code, rfl, h.writes, h.news, h.pick, h.ended⟩⟩
  simp only [if_neg h21]
  by_cases h9 : i.op = 9 ∨ i.op = 10
  · simp only [if_pos h9]
    exact root_sim h hf (by unfold regsOf; rcases h9 with e | e <;> rw [e] <;> decide) maxw
  by_cases h11 : i.op = 11 ∨ i.op = 12 ∨ i.op = 13 ∨ i.op = 14
  · simp only [if_neg h9, if_pos h11]
    exact word_sim h hf (by unfold regsOf; rcases h11 with e | e | e | e <;> rw [e] <;> decide) (by rintro (e | e) <;> unfold regsOf <;> rw [e] <;> decide) maxw
  by_cases h15 : i.op = 15
  · simp only [if_neg h9, if_neg h11, if_pos h15]
    exact fresh_sim h hf maxw
  by_cases h16 : i.op = 16
  · simp only [if_neg h9, if_neg h11, if_neg h15, if_pos h16]
    exact free_sim h hf (by unfold regsOf; rw [h16]; decide) maxw
  simp only [if_neg h9, if_neg h11, if_neg h15, if_neg h16]
  have hk : i.op = 0 ∨ i.op = 1 ∨ i.op = 2 ∨ i.op = 3 ∨ i.op = 4 ∨ i.op = 5 ∨ i.op = 6 ∨ i.op = 7 := by omega
  have hr : reckonP i R.regs xargs = reckonP i r.regs args := by
    unfold reckonP
    rcases hk with e | e | e | e | e | e | e | e
    · simp (decide := true) only [e, ↓reduceIte]
    · have hb := h.regs _ (hf.ub (by rw [e]; decide))
      simp (decide := true) only [e, hb, ↓reduceIte]
    all_goals
      have hb := h.regs _ (hf.ub (by rw [e]; decide))
      have hc := h.regs _ (hf.uc (by rw [e]; decide))
      simp (decide := true) only [e, hb, hc, ↓reduceIte]
  rw [hr]
  exact ⟨rfl, h.put hf.a _⟩
end

theorem do_stay {args : List Int} {maxw : Int} {i : Ins} {r : MRun} (hj : i.op < 17 ∨ 20 < i.op) : (doP args maxw i r).2.pc = r.pc ∧ (doP args maxw i r).2.ended = r.ended := by
  unfold doP
  have n17 : ¬ i.op = 17 := by omega
  have n18 : ¬ i.op = 18 := by omega
  have n19 : ¬ i.op = 19 := by omega
  have n20 : ¬ i.op = 20 := by omega
  simp only [if_neg n17, if_neg n18, if_neg n19, if_neg n20]
  by_cases h21 : i.op = 21
  · simp only [if_pos h21]; exact ⟨trivial, trivial⟩
  simp only [if_neg h21]
  by_cases h9 : i.op = 9 ∨ i.op = 10
  · simp only [if_pos h9]; exact (root_doing maxw i r).2
  by_cases h11 : i.op = 11 ∨ i.op = 12 ∨ i.op = 13 ∨ i.op = 14
  · simp only [if_neg h9, if_pos h11]; exact (word_doing maxw i r).2
  by_cases h15 : i.op = 15
  · simp only [if_neg h9, if_neg h11, if_pos h15]; exact (fresh_doing maxw i r).2
  by_cases h16 : i.op = 16
  · simp only [if_neg h9, if_neg h11, if_neg h15, if_pos h16]; exact (free_doing maxw i r).2
  simp only [if_neg h9, if_neg h11, if_neg h15, if_neg h16]
  exact ⟨rfl, rfl⟩
theorem pay_val {maxw op : Int} {r r' : MRun} (h : payP maxw op r = some r') : r'.val = r.val := by
  unfold payP at h
  split at h
  · cases h
  · injection h with h; rw [← h]
theorem do_val {args : List Int} {maxw : Int} {i : Ins} {r : MRun} (h20 : i.op ≠ 20) (h21 : i.op ≠ 21) : (doP args maxw i r).2.val = r.val := by
  unfold doP
  by_cases n17 : i.op = 17
  · simp only [if_pos n17]
  by_cases n18 : i.op = 18
  · simp only [if_neg n17, if_pos n18]; split <;> rfl
  by_cases n19 : i.op = 19
  · simp only [if_neg n17, if_neg n18, if_pos n19]; split <;> rfl
  simp only [if_neg n17, if_neg n18, if_neg n19, if_neg h20, if_neg h21]
  by_cases h9 : i.op = 9 ∨ i.op = 10
  · simp only [if_pos h9]
    unfold rootP
    split
    · rfl
    split
    · rfl
    split
    · rfl
    · rename_i hp
      have := pay_val hp
      exact this
  by_cases h11 : i.op = 11 ∨ i.op = 12 ∨ i.op = 13 ∨ i.op = 14
  · simp only [if_neg h9, if_pos h11]
    unfold wordP
    split
    · rfl
    split
    · rfl
    split
    · rfl
    split
    · rfl
    · rename_i hp
      have := pay_val hp
      exact this
  by_cases h15 : i.op = 15
  · simp only [if_neg h9, if_neg h11, if_pos h15]
    unfold freshP
    split
    · rfl
    rename_i hp
    have := pay_val hp
    split
    · exact this
    split
    · exact this
    · exact this
  by_cases h16 : i.op = 16
  · simp only [if_neg h9, if_neg h11, if_neg h15, if_pos h16]
    unfold freeP
    split
    · rfl
    split
    · rfl
    · rename_i hp
      have := pay_val hp
      exact this
  simp only [if_neg h9, if_neg h11, if_neg h15, if_neg h16]
  rfl
/-- What a part is handed comes to v. -/
structure GivenAt (xargs hi : List Int) (a : PArg) (v : Int) : Prop where
  num : a.kind = 0 → a.val = v
  res : a.kind = 1 → 0 ≤ a.val ∧ a.val < 4 ∧ hi.getD a.val.toNat 0 = v
  arg : a.kind ≠ 0 → a.kind ≠ 1 → xargs.getD a.val.toNat 0 = v
theorem handed_sim {U : Nat → Prop} {W0 : Int} {N0 hi xargs : List Int} {r R : MRun} (h : Sim U W0 N0 hi r R) {a : Int} (ha : 0 ≤ a ∧ a < 12) {g : PArg} {v maxw : Int} (hg : GivenAt xargs hi g v) :
    ∃ R', doP xargs maxw (handedP a g) R = (0, R') ∧ Sim U W0 N0 hi (r.put a v) R' ∧ R'.pc = R.pc := by
  unfold handedP
  by_cases h0 : g.kind = 0
  · rw [if_pos h0, hg.num h0]
    refine ⟨R.put a v, ?_, h.put ha v, rfl⟩
    unfold doP reckonP
    simp (decide := true) only [↓reduceIte]
  rw [if_neg h0]
  by_cases h1 : g.kind = 1
  · rw [if_pos h1]
    obtain ⟨g0, g1, g2⟩ := hg.res h1
    have hk := h.keep g.val.toNat (by omega)
    rw [g2] at hk
    refine ⟨R.put a v, ?_, h.put ha v, rfl⟩
    unfold doP reckonP
    have e : (12 + g.val).toNat = 12 + g.val.toNat := by omega
    simp (decide := true) only [↓reduceIte, e, hk]
  · rw [if_neg h1]
    have hx := hg.arg h0 h1
    refine ⟨R.put a v, ?_, h.put ha v, rfl⟩
    unfold doP reckonP
    simp (decide := true) only [↓reduceIte, hx]
/-- The part stands at a place in the whole. -/
def Placed (P code : List Ins) (A : List PArg) (k at_ : Nat) : Prop := ∀ j, j < code.length → ∀ x, x < (oneL code A k at_ j).length → P.getD (at_ + beforeL code j + x) noIns = (oneL code A k at_ j).getD x noIns
/-- The part is at its end. -/
structure Fin (W0 : Int) (N0 hi : List Int) (k e : Nat) (g R : MRun) : Prop where
  pc : R.pc = (e : Int)
  st : R.st = g.st
  res : R.regs.getD (12 + k) 0 = g.val
  keep : ∀ x : Nat, x < 4 → x ≠ k → R.regs.getD (12 + x) 0 = hi.getD x 0
  len : R.regs.length = 16
  code : R.code = 0
  val : R.val = 0
  writes : R.writes = W0 + g.writes
  news : R.news = N0 ++ g.news
  pick : R.pick = g.pick
  ended : R.ended = false
theorem go_shift {P : List Ins} {xargs : List Int} {w : Int} {R R1 : MRun} (h1 : (atP P xargs w R).1 = 0) (h2 : (atP P xargs w R).2 = R1) (h3 : R1.ended = false) (m : Nat) : goP P xargs w (m + 1) R = goP P xargs w m R1 := by
  rw [goP_on h1 (by rw [h2]; exact h3), h2]
theorem at_do (l : List Ins) (args : List Int) (w : Int) (r : MRun) : atP l args w r = doP args w (l.getD r.pc.toNat noIns) { r with steps := r.steps + 1, pc := r.pc + 1 } := rfl
section
variable {P code : List Ins} {A : List PArg} {args xargs hi N0 : List Int} {U : Nat → Prop} {k at_ : Nat} {W0 maxw : Int}
theorem sim_go (hl : rightP code = true) (hok : ∀ i ∈ code, i.Ok) (hf : ∀ i ∈ code, Fits U i) (hA : ∀ m : Nat, m < 4 → GivenAt xargs hi (A.getD m ⟨0, 0⟩) (args.getD m 0)) (hP : Placed P code A k at_) (hk : k < 4) :
    ∀ (n : Nat) (r R : MRun) (j : Nat), Sim U W0 N0 hi r R → r.pc = (j : Int) → j < code.length → R.pc = ((at_ + beforeL code j : Nat) : Int) → r.ended = false → r.code = 0 → r.val = 0 → (goP code args maxw n r).code ≠ 41 →
      ((goP code args maxw n r).code ≠ 0 ∧ ∀ m, n ≤ m → (goP P xargs (maxw + W0) m R).code = (goP code args maxw n r).code ∧ (goP P xargs (maxw + W0) m R).val = (goP code args maxw n r).val ∧ (goP P xargs (maxw + W0) m R).writes = W0 + (goP code args maxw n r).writes) ∨
      ((goP code args maxw n r).code = 0 ∧ ∃ (s : Nat) (R' : MRun), s ≤ n + 1 ∧ (∀ m, s ≤ m → goP P xargs (maxw + W0) m R = goP P xargs (maxw + W0) (m - s) R') ∧ Fin W0 N0 hi k (at_ + beforeL code code.length) (goP code args maxw n r) R')
  | 0, r, R, j, hs, hpc, hj, hPc, he, hc, hv, h41 => absurd rfl h41
  | n + 1, r, R, j, hs, hpc, hj, hPc, he, hc, hv, h41 => by
    have hij : code[j]? = some (code[j]'hj) := List.getElem?_eq_getElem hj
    obtain ⟨i, hi'⟩ : ∃ i, code[j]'hj = i := ⟨_, rfl⟩
    rw [hi'] at hij
    have hmem := List.mem_of_getElem? hij
    have hfi := hf i hmem
    have hins := right_insOk hl hok hij
    have h64 := (hok i hmem).imm.1
    have hgi : code.getD r.pc.toNat noIns = i := by rw [hpc, Int.toNat_natCast, List.getD_eq_getElem?_getD, hij]; rfl
    have hat : atP code args maxw r = doP args maxw i { r with steps := r.steps + 1, pc := r.pc + 1 } := by rw [at_do, hgi]
    have hs1 : Sim U W0 N0 hi { r with steps := r.steps + 1, pc := r.pc + 1 } { R with steps := R.steps + 1, pc := R.pc + 1 } := (hs.steps (r.steps + 1) (R.steps + 1)).pc (r.pc + 1) (R.pc + 1)
    have hone := hP j hj
    have hgj : code.getD j noIns = i := by rw [List.getD_eq_getElem?_getD, hij]; rfl
    have hatR : atP P xargs (maxw + W0) R = doP xargs (maxw + W0) ((oneL code A k at_ j).getD 0 noIns) { R with steps := R.steps + 1, pc := R.pc + 1 } := by
      rw [at_do, hPc, Int.toNat_natCast]
      have := hone 0 (by have := oneL_len code A k at_ j; omega)
      rw [Nat.add_zero] at this
      rw [this]
    have hnext : (atP code args maxw r).1 = 0 → (atP code args maxw r).2.ended = false → ∃ j' : Nat, (atP code args maxw r).2.pc = j' ∧ j' < code.length := fun e1 e2 => by
      have hnx := step_next (args := args) (maxw := maxw) (i := i) (r := { r with steps := r.steps + 1 }) (p := j) hpc (by rw [hat] at e1; exact e1) (by rw [hat] at e2; exact e2)
      obtain ⟨j', q1, q2⟩ := right_next hl hij h64 hnx
      exact ⟨j', by rw [hat]; exact q1, q2⟩
    have hcode1 : (atP code args maxw r).2.code = 0 := by rw [hat]; exact (do_doing args maxw i _).code.trans hc
    have hstep : ∀ (p q : Int × MRun), atP code args maxw r = p → atP P xargs (maxw + W0) R = q → Alike U W0 N0 hi p q → p.2.ended = false → (p.1 = 0 → p.2.val = 0 ∧ ∃ j' : Nat, p.2.pc = j' ∧ j' < code.length ∧ q.2.pc = ((at_ + beforeL code j' : Nat) : Int)) →
        ((goP code args maxw (n + 1) r).code ≠ 0 ∧ ∀ m, n + 1 ≤ m → (goP P xargs (maxw + W0) m R).code = (goP code args maxw (n + 1) r).code ∧ (goP P xargs (maxw + W0) m R).val = (goP code args maxw (n + 1) r).val ∧ (goP P xargs (maxw + W0) m R).writes = W0 + (goP code args maxw (n + 1) r).writes) ∨
        ((goP code args maxw (n + 1) r).code = 0 ∧ ∃ (s : Nat) (R' : MRun), s ≤ n + 1 + 1 ∧ (∀ m, s ≤ m → goP P xargs (maxw + W0) m R = goP P xargs (maxw + W0) (m - s) R') ∧ Fin W0 N0 hi k (at_ + beforeL code code.length) (goP code args maxw (n + 1) r) R') := by
      rintro p q ep eq ⟨ha1, ha2⟩ hen hz
      by_cases h0 : p.1 = 0
      · obtain ⟨hv0, j', g1, g2, g3⟩ := hz h0
        have e1 : goP code args maxw (n + 1) r = goP code args maxw n p.2 := by rw [goP_on (by rw [ep]; exact h0) (by rw [ep]; exact hen), ep]
        have hqe : q.2.ended = false := by rw [ha2.ended]; exact hen
        have e2 : ∀ m, goP P xargs (maxw + W0) (m + 1) R = goP P xargs (maxw + W0) m q.2 := fun m => go_shift (by rw [eq, ha1]; exact h0) (by rw [eq]) hqe m
        have hc1 : p.2.code = 0 := by rw [← ep]; exact hcode1
        rw [e1] at h41 ⊢
        rcases sim_go hl hok hf hA hP hk n p.2 q.2 j' ha2 g1 g2 g3 hen hc1 hv0 h41 with ⟨k1, k2⟩ | ⟨k1, s, R', k2, k3, k4⟩
        · refine .inl ⟨k1, fun m hm => ?_⟩
          obtain ⟨m', rfl⟩ : ∃ q, m = q + 1 := ⟨m - 1, by omega⟩
          rw [e2]
          exact k2 m' (by omega)
        · refine .inr ⟨k1, s + 1, R', by omega, fun m hm => ?_, k4⟩
          obtain ⟨m', rfl⟩ : ∃ q, m = q + 1 := ⟨m - 1, by omega⟩
          rw [e2, k3 m' (by omega), show m' + 1 - (s + 1) = m' - s by omega]
      · have e1 : goP code args maxw (n + 1) r = { p.2 with code := p.1 } := by rw [goP_err (by rw [ep]; exact h0), ep]
        rw [e1]
        refine .inl ⟨h0, fun m hm => ?_⟩
        obtain ⟨m', rfl⟩ : ∃ q, m = q + 1 := ⟨m - 1, by omega⟩
        rw [goP_err (by rw [eq, ha1]; exact h0), eq]
        exact ⟨ha1, ha2.val, ha2.writes⟩
    by_cases h20 : i.op = 20
    · have hua : U i.a.toNat := hfi.ua (by rw [h20]; decide)
      have hr0 := hs.regs _ hua
      obtain ⟨v, hvv⟩ : ∃ v, r.regs.getD i.a.toNat 0 = v := ⟨_, rfl⟩
      have e1 : atP code args maxw r = (0, { r with steps := r.steps + 1, pc := r.pc + 1, val := v, ended := true }) := by
        rw [hat]
        unfold doP MRun.reg
        simp (decide := true) only [h20, ↓reduceIte, hvv]
      have e2 : goP code args maxw (n + 1) r = { r with steps := r.steps + 1, pc := r.pc + 1, val := v, ended := true } := by rw [goP_end (by rw [e1]) (by rw [e1]), e1]
      have hol : oneL code A k at_ j = ⟨1, 12 + (k : Int), i.a, 0, 0⟩ :: (if j + 1 < code.length then [⟨17, 0, 0, 0, ((at_ + beforeL code code.length : Nat) : Int)⟩] else []) := by
        unfold oneL
        simp (decide := true) only [hgj, h20, ↓reduceIte]
      obtain ⟨R2, hR2⟩ : ∃ R2 : MRun, R2 = { R with steps := R.steps + 1, pc := R.pc + 1, regs := R.regs.set (12 + k) v } := ⟨_, rfl⟩
      have e3 : atP P xargs (maxw + W0) R = (0, R2) := by
        rw [hatR, hol, hR2]
        have e12 : (12 + (k : Int)).toNat = 12 + k := by omega
        unfold doP reckonP MRun.put
        simp (decide := true) only [List.getD_cons_zero, ↓reduceIte, hr0, hvv, e12]
      have hR2e : R2.ended = false := by rw [hR2]; exact hs.ended.trans he
      have e4 : ∀ m, goP P xargs (maxw + W0) (m + 1) R = goP P xargs (maxw + W0) m R2 := fun m => go_shift (by rw [e3]) (by rw [e3]) hR2e m
      have hset : ∀ x, (R.regs.set (12 + k) v).getD x 0 = if 12 + k = x then v else R.regs.getD x 0 := fun x => getD_set _ _ _ _ (by rw [hs.len2]; omega)
      rw [e2]
      refine .inr ⟨hc, ?_⟩
      by_cases hlt : j + 1 < code.length
      · have hsz : sizeL code j = 2 := by unfold sizeL; rw [hgj, if_pos ⟨h20, hlt⟩]
        obtain ⟨R3, hR3⟩ : ∃ R3 : MRun, R3 = { R2 with steps := R2.steps + 1, pc := ((at_ + beforeL code code.length : Nat) : Int) } := ⟨_, rfl⟩
        have hp1 := hone 1 (by rw [hol, if_pos hlt]; simp)
        rw [hol, if_pos hlt] at hp1
        have e5 : atP P xargs (maxw + W0) R2 = (0, R3) := by
          rw [at_do]
          have epc : R2.pc.toNat = at_ + beforeL code j + 1 := by rw [hR2]; show (R.pc + 1).toNat = _; rw [hPc]; omega
          rw [epc, hp1, hR3]
          unfold doP
          simp (decide := true) only [List.getD_cons_succ, List.getD_cons_zero, ↓reduceIte]
        have hR3e : R3.ended = false := by rw [hR3]; exact hR2e
        have e6 : ∀ m, goP P xargs (maxw + W0) (m + 1) R2 = goP P xargs (maxw + W0) m R3 := fun m => go_shift (by rw [e5]) (by rw [e5]) hR3e m
        refine ⟨2, R3, by omega, fun m hm => ?_, ?_⟩
        · obtain ⟨m', rfl⟩ : ∃ q, m = q + 1 + 1 := ⟨m - 2, by omega⟩
          rw [e4, e6]; rfl
        · subst hR3 hR2
          refine ⟨rfl, hs.st, ?_, fun x hx hxk => ?_, by simp [hs.len2], hs.code.trans hc, hs.val.trans hv, hs.writes, hs.news, hs.pick, hs.ended.trans he⟩
          · show (R.regs.set (12 + k) v).getD _ _ = v
            rw [hset, if_pos rfl]
          · show (R.regs.set (12 + k) v).getD _ _ = _
            rw [hset, if_neg (by omega), hs.keep x hx]
      · have hsz : sizeL code j = 1 := by unfold sizeL; rw [hgj, if_neg (by omega)]
        have hjn : code.length = j + 1 := by omega
        refine ⟨1, R2, by omega, fun m hm => ?_, ?_⟩
        · obtain ⟨m', rfl⟩ : ∃ q, m = q + 1 := ⟨m - 1, by omega⟩
          rw [e4]; rfl
        · subst hR2
          refine ⟨?_, hs.st, ?_, fun x hx hxk => ?_, by simp [hs.len2], hs.code.trans hc, hs.val.trans hv, hs.writes, hs.news, hs.pick, hs.ended.trans he⟩
          · show R.pc + 1 = _
            rw [hPc, hjn, beforeL, hsz]; omega
          · show (R.regs.set (12 + k) v).getD _ _ = v
            rw [hset, if_pos rfl]
          · show (R.regs.set (12 + k) v).getD _ _ = _
            rw [hset, if_neg (by omega), hs.keep x hx]
    have hsz : sizeL code j = 1 := by unfold sizeL; rw [hgj, if_neg (by omega)]
    have hbj : beforeL code (j + 1) = beforeL code j + 1 := by rw [beforeL, hsz]
    have hRp : R.pc + 1 = ((at_ + beforeL code (j + 1) : Nat) : Int) := by rw [hPc, hbj]; omega
    by_cases hjmp : i.op = 17 ∨ i.op = 18 ∨ i.op = 19
    · have hol : (oneL code A k at_ j).getD 0 noIns = { i with imm := ((at_ + beforeL code i.imm.toNat : Nat) : Int) } := by
        unfold oneL
        simp only [hgj, if_pos hjmp]
        rfl
      rw [hol] at hatR
      obtain ⟨J, hJ⟩ : ∃ J, ((at_ + beforeL code i.imm.toNat : Nat) : Int) = J := ⟨_, rfl⟩
      rw [hJ] at hatR
      have hgo : ∀ (j' : Nat), i.imm = (j' : Int) → J = ((at_ + beforeL code j' : Nat) : Int) := fun j' e => by rw [← hJ, e, Int.toNat_natCast]
      rcases hjmp with e | e | e
      · have p1 : atP code args maxw r = (0, { r with steps := r.steps + 1, pc := i.imm }) := by
          rw [hat]; unfold doP; simp (decide := true) only [e, ↓reduceIte]
        have q1 : atP P xargs (maxw + W0) R = (0, { R with steps := R.steps + 1, pc := J }) := by
          rw [hatR]; unfold doP; simp (decide := true) only [e, ↓reduceIte]
        refine hstep _ _ p1 q1 ⟨rfl, (hs.steps (r.steps + 1) (R.steps + 1)).pc i.imm J⟩ he fun _ => ⟨hv, ?_⟩
        obtain ⟨j', g1, g2⟩ := hnext (by rw [p1]) (by rw [p1]; exact he)
        rw [p1] at g1
        exact ⟨j', g1, g2, hgo j' g1⟩
      all_goals
        have hra := hs1.reg (hfi.ua (by rw [e]; decide))
        by_cases hz : ({ r with steps := r.steps + 1, pc := r.pc + 1 } : MRun).reg i.a = 0
      · have p1 : atP code args maxw r = (0, { r with steps := r.steps + 1, pc := i.imm }) := by
          rw [hat]; unfold doP; simp (decide := true) only [e, ↓reduceIte, hz]
        have q1 : atP P xargs (maxw + W0) R = (0, { R with steps := R.steps + 1, pc := J }) := by
          rw [hatR]; unfold doP; simp (decide := true) only [e, ↓reduceIte, hra, hz]
        refine hstep _ _ p1 q1 ⟨rfl, (hs.steps (r.steps + 1) (R.steps + 1)).pc i.imm J⟩ he fun _ => ⟨hv, ?_⟩
        obtain ⟨j', g1, g2⟩ := hnext (by rw [p1]) (by rw [p1]; exact he)
        rw [p1] at g1
        exact ⟨j', g1, g2, hgo j' g1⟩
      · have p1 : atP code args maxw r = (0, { r with steps := r.steps + 1, pc := r.pc + 1 }) := by
          rw [hat]; unfold doP; simp (decide := true) only [e, ↓reduceIte, hz]
        have q1 : atP P xargs (maxw + W0) R = (0, { R with steps := R.steps + 1, pc := R.pc + 1 }) := by
          rw [hatR]; unfold doP; simp (decide := true) only [e, ↓reduceIte, hra, hz]
        refine hstep _ _ p1 q1 ⟨rfl, hs1⟩ he fun _ => ⟨hv, ?_⟩
        obtain ⟨j', g1, g2⟩ := hnext (by rw [p1]) (by rw [p1]; exact he)
        rw [p1] at g1
        have g1 : r.pc + 1 = (j' : Int) := g1
        have ej : j' = j + 1 := by rw [hpc] at g1; omega
        exact ⟨j', g1, g2, by rw [ej]; exact hRp⟩
      · have p1 : atP code args maxw r = (0, { r with steps := r.steps + 1, pc := r.pc + 1 }) := by
          rw [hat]; unfold doP; simp (decide := true) only [e, ↓reduceIte, hz]
        have q1 : atP P xargs (maxw + W0) R = (0, { R with steps := R.steps + 1, pc := R.pc + 1 }) := by
          rw [hatR]; unfold doP; simp (decide := true) only [e, ↓reduceIte, hra, hz]
        refine hstep _ _ p1 q1 ⟨rfl, hs1⟩ he fun _ => ⟨hv, ?_⟩
        obtain ⟨j', g1, g2⟩ := hnext (by rw [p1]) (by rw [p1]; exact he)
        rw [p1] at g1
        have g1 : r.pc + 1 = (j' : Int) := g1
        have ej : j' = j + 1 := by rw [hpc] at g1; omega
        exact ⟨j', g1, g2, by rw [ej]; exact hRp⟩
      · have p1 : atP code args maxw r = (0, { r with steps := r.steps + 1, pc := i.imm }) := by
          rw [hat]; unfold doP; simp (decide := true) only [e, ↓reduceIte, hz]
        have q1 : atP P xargs (maxw + W0) R = (0, { R with steps := R.steps + 1, pc := J }) := by
          rw [hatR]; unfold doP; simp (decide := true) only [e, ↓reduceIte, hra, hz]
        refine hstep _ _ p1 q1 ⟨rfl, (hs.steps (r.steps + 1) (R.steps + 1)).pc i.imm J⟩ he fun _ => ⟨hv, ?_⟩
        obtain ⟨j', g1, g2⟩ := hnext (by rw [p1]) (by rw [p1]; exact he)
        rw [p1] at g1
        exact ⟨j', g1, g2, hgo j' g1⟩
    by_cases h8 : i.op = 8
    · have hol : (oneL code A k at_ j).getD 0 noIns = handedP i.a (A.getD i.imm.toNat ⟨0, 0⟩) := by
        unfold oneL
        simp (decide := true) only [hgj, h8, ↓reduceIte]
        rfl
      rw [hol] at hatR
      have him := hins.arg h8
      obtain ⟨R', q1, q2, q3⟩ := handed_sim hs1 hfi.a (maxw := maxw + W0) (hA i.imm.toNat (by omega))
      have p1 : atP code args maxw r = (0, ({ r with steps := r.steps + 1, pc := r.pc + 1 } : MRun).put i.a (args.getD i.imm.toNat 0)) := by
        rw [hat]; unfold doP reckonP; simp (decide := true) only [h8, ↓reduceIte]
      refine hstep _ _ p1 (hatR.trans q1) ⟨rfl, q2⟩ he fun _ => ⟨hv, j + 1, ?_, ?_, ?_⟩
      · show r.pc + 1 = _
        rw [hpc]; omega
      · obtain ⟨j', g1, g2⟩ := hnext (by rw [p1]) (by rw [p1]; exact he)
        rw [p1] at g1
        have g1 : r.pc + 1 = (j' : Int) := g1
        rw [hpc] at g1; omega
      · show R'.pc = _
        rw [q3]; exact hRp
    · have hol : (oneL code A k at_ j).getD 0 noIns = i := by
        unfold oneL
        simp only [hgj, if_neg hjmp, if_neg h8, if_neg h20]
        rfl
      rw [hol] at hatR
      have hop := hins.op
      have ha := do_sim hs1 hfi hins.op h8 (by omega) args xargs maxw
      have st1 := do_stay (args := args) (maxw := maxw) (i := i) (r := { r with steps := r.steps + 1, pc := r.pc + 1 }) (by omega)
      have st2 := do_stay (args := xargs) (maxw := maxw + W0) (i := i) (r := { R with steps := R.steps + 1, pc := R.pc + 1 }) (by omega)
      refine hstep _ _ hat hatR ha (st1.2.trans he) fun h0 => ⟨?_, j + 1, ?_, ?_, ?_⟩
      · by_cases h21 : i.op = 21
        · exfalso
          unfold doP at h0
          simp (decide := true) only [h21, ↓reduceIte] at h0
        · exact (do_val h20 h21).trans hv
      · rw [st1.1]
        show r.pc + 1 = _
        rw [hpc]; omega
      · obtain ⟨j', g1, g2⟩ := hnext (by rw [hat]; exact h0) (by rw [hat]; exact st1.2.trans he)
        rw [hat, st1.1] at g1
        have g1 : r.pc + 1 = (j' : Int) := g1
        rw [hpc] at g1; omega
      · rw [st2.1]; exact hRp
end
end Go.Proofs.Ytddaeaimimdonaa
