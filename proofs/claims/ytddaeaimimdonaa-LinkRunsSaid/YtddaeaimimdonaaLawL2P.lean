/-
  Chapter 19, plain: one part alone is as its program.
-/
import Derived.Test.YtddaeaimimdonaaLkF
import Derived.Test.YtddaeaimimdonaaLkR
import Derived.Test.YtddaeaimimdonaaLkT
namespace Go.Proofs.Ytddaeaimimdonaa
open Go.RowKit
set_option linter.unusedVariables false

def oneU (x : Nat) : Prop := x < 12
theorem fits_low {code : List Ins} {A : List PArg} {k : Nat} (h : PartOk code A k) (hok : ∀ i ∈ code, i.Ok) : ∀ i ∈ code, Fits oneU i := fun i hi => by
  have hr := h.reg hok i hi
  have hl := h.low i hi
  unfold highP at hl
  have hl := of_decide_eq_false hl
  have ha := hr.a; have hb := hr.b; have hc := hr.c
  have ea : 0 ≤ i.a ∧ i.a < 12 := by omega
  have eb : 0 ≤ i.b ∧ i.b < 12 := by omega
  have ec : 0 ≤ i.c ∧ i.c < 12 := by omega
  exact ⟨ea, eb, ec, fun _ => by show _ < 12; omega, fun _ => by show _ < 12; omega, fun _ => by show _ < 12; omega⟩
theorem ones_at (code : List Ins) (A : List PArg) (k at_ : Nat) : ∀ (n j x : Nat), j < n → x < (oneL code A k at_ j).length → (∀ q, (oneL code A k at_ q).length = sizeL code q) → (onesL code A k at_ n).getD (beforeL code j + x) noIns = (oneL code A k at_ j).getD x noIns ∧ beforeL code j + x < (onesL code A k at_ n).length
  | 0, j, x, hj, _, _ => by omega
  | n + 1, j, x, hj, hx, hs => by
    have hl : ∀ m, (onesL code A k at_ m).length = beforeL code m := fun m => by
      induction m with
      | zero => rfl
      | succ m ih => rw [onesL_snoc, List.length_append, ih, hs, beforeL]
    rw [onesL_snoc]
    by_cases hlt : j < n
    · obtain ⟨e1, e2⟩ := ones_at code A k at_ n j x hlt hx hs
      refine ⟨?_, by rw [List.length_append]; omega⟩
      rw [List.getD_eq_getElem?_getD, List.getElem?_append_left e2, ← List.getD_eq_getElem?_getD, e1]
    · obtain rfl : j = n := by omega
      refine ⟨?_, by rw [List.length_append, hl]; omega⟩
      rw [List.getD_eq_getElem?_getD, List.getElem?_append_right (by rw [hl]; omega), hl, Nat.add_sub_cancel_left, ← List.getD_eq_getElem?_getD]
theorem oneL_size (code : List Ins) (A : List PArg) (k at_ j : Nat) : (oneL code A k at_ j).length = sizeL code j := by
  unfold oneL sizeL
  simp only []
  by_cases h1 : (code.getD j noIns).op = 17 ∨ (code.getD j noIns).op = 18 ∨ (code.getD j noIns).op = 19
  · rw [if_pos h1, if_neg (by omega)]; rfl
  rw [if_neg h1]
  by_cases h2 : (code.getD j noIns).op = 8
  · rw [if_pos h2, if_neg (by omega)]; rfl
  rw [if_neg h2]
  by_cases h3 : (code.getD j noIns).op = 20
  · rw [if_pos h3]
    by_cases h4 : j + 1 < code.length
    · rw [if_pos h4, if_pos ⟨h3, h4⟩]; rfl
    · rw [if_neg h4, if_neg (by omega)]; rfl
  · rw [if_neg h3, if_neg (by omega)]; rfl
theorem onesL_size (code : List Ins) (A : List PArg) (k at_ : Nat) : ∀ m, (onesL code A k at_ m).length = beforeL code m
  | 0 => rfl
  | m + 1 => by rw [onesL_snoc, List.length_append, onesL_size code A k at_ m, oneL_size, beforeL]
theorem placed_mid (pre post code : List Ins) (A : List PArg) (k : Nat) : Placed (pre ++ onesL code A k pre.length code.length ++ post) code A k pre.length := fun j hj x hx => by
  obtain ⟨e1, e2⟩ := ones_at code A k pre.length code.length j x hj hx (oneL_size code A k pre.length)
  rw [List.append_assoc, List.getD_eq_getElem?_getD, List.getElem?_append_right (by omega), show pre.length + beforeL code j + x - pre.length = beforeL code j + x by omega, List.getElem?_append_left e2, ← List.getD_eq_getElem?_getD, e1]
/-- One part as a whole. -/
theorem one_whole {code : List Ins} {A : List PArg} {p : Prt} (hc : p.code = code) (ha : p.args = A) (h : PartOk code A 0) (hn : code.length ≤ 60) :
    joinL [p] = (onesL code A 0 0 code.length ++ [⟨20, 12, 0, 0, 0⟩], 0) := by
  have h2 := onesL_len code A 0 0 code.length
  have hf : faultL code A 0 = 0 := by
    unfold faultL
    rw [if_neg (by rw [h.right]; decide), if_neg (by rw [List.any_eq_false.2 fun i hi => by rw [h.low i hi]; decide]; decide), if_neg (by rw [List.any_eq_false.2 fun a hm => by rw [h.args a hm]; decide]; decide)]
  have hw : wholeL [p] = onesL code A 0 0 code.length ++ [⟨20, 12, 0, 0, 0⟩] := by
    unfold wholeL allL allL addL startL
    simp only [List.length_cons, List.length_nil, List.getD_cons_zero, hc, ha, ↓reduceIte, List.nil_append]
    rfl
  have h0 : faultsL [p] 0 = 0 := by
    unfold faultsL faultsL
    rw [hc, ha, hf]; rfl
  unfold joinL
  rw [if_neg (by simp), if_neg (by simp), if_neg (by rw [h0]; decide), hw, if_neg (by rw [List.length_append]; simp; omega)]
theorem one_bad {p : Prt} (h : faultL p.code p.args 0 ≠ 0) : joinL [p] = ([], faultL p.code p.args 0) := by
  have h0 : faultsL [p] 0 = faultL p.code p.args 0 := by
    unfold faultsL
    rw [if_pos h]
  unfold joinL
  rw [if_neg (by simp), if_neg (by simp), if_pos (by rw [h0]; exact h), h0]
theorem pos_split (code : List Ins) : ∀ (n p : Nat), p < beforeL code n → ∃ j x, j < n ∧ x < sizeL code j ∧ p = beforeL code j + x
  | 0, p, h => by simp [beforeL] at h
  | n + 1, p, h => by
    by_cases hp : p < beforeL code n
    · obtain ⟨j, x, h1, h2, h3⟩ := pos_split code n p hp
      exact ⟨j, x, by omega, h2, h3⟩
    · rw [beforeL] at h
      exact ⟨n, p - beforeL code n, by omega, by omega, by omega⟩
theorem one_whole_right {code : List Ins} {A : List PArg} (h : PartOk code A 0) (hok : ∀ i ∈ code, i.Ok) (hA : ∀ a ∈ A, a.Ok) (hA4 : A.length = 4) (hn : code.length ≤ 60) : rightP (onesL code A 0 0 code.length ++ [⟨20, 12, 0, 0, 0⟩]) = true := by
  have h2 := beforeL_two code code.length
  have hl : (onesL code A 0 0 code.length ++ [(⟨20, 12, 0, 0, 0⟩ : Ins)]).length = beforeL code code.length + 1 := by rw [List.length_append, onesL_size]; rfl
  refine right_of (by omega) (by omega) (fun p i hi => ?_) ?_
  · rw [hl]
    by_cases hp : p < beforeL code code.length
    · obtain ⟨j, x, h3, h4, h5⟩ := pos_split code code.length p hp
      have hpl := placed_mid [] [⟨20, 12, 0, 0, 0⟩] code A 0 j h3 x (by rw [oneL_size]; exact h4)
      have ho := one_right (at_ := 0) (N := beforeL code code.length + 1) h hok hA hA4 (by decide) h3 (x := x) (by rw [oneL_size]; exact h4) (by omega)
      simp only [List.length_nil, List.nil_append, Nat.zero_add] at hpl ho
      rw [← h5] at hpl ho
      rw [← hpl, List.getD_eq_getElem?_getD, hi] at ho
      exact ho
    · have hpe : p = beforeL code code.length := by
        have := (List.getElem?_eq_some_iff.1 hi).1
        omega
      subst hpe
      rw [List.getElem?_append_right (by rw [onesL_size]; exact Nat.le_refl _), onesL_size, Nat.sub_self] at hi
      obtain rfl : (⟨20, 12, 0, 0, 0⟩ : Ins) = i := by simpa using hi
      unfold oneE
      simp (decide := true) only [↓reduceIte]
  · unfold lastEnds
    rw [hl, Nat.add_sub_cancel, List.getElem?_append_right (by rw [onesL_size]; exact Nat.le_refl _), onesL_size, Nat.sub_self]
    rfl
/-- What a program comes to is what the whole of it alone comes to. -/
theorem one_alone {code : List Ins} {A : List PArg} {args xargs pick : List Int} {maxw : Int} (h : PartOk code A 0) (hok : ∀ i ∈ code, i.Ok) (hR : rightP (onesL code A 0 0 code.length ++ [⟨20, 12, 0, 0, 0⟩]) = true)
    (hA : ∀ m : Nat, m < 4 → GivenAt xargs [0, 0, 0, 0] (A.getD m ⟨0, 0⟩) (args.getD m 0)) (h41 : (runP emptyS code args 300 maxw pick).code ≠ 41) :
    (runP emptyS (onesL code A 0 0 code.length ++ [⟨20, 12, 0, 0, 0⟩]) xargs 1048576 maxw pick).code = (runP emptyS code args 300 maxw pick).code ∧
    (runP emptyS (onesL code A 0 0 code.length ++ [⟨20, 12, 0, 0, 0⟩]) xargs 1048576 maxw pick).val = (runP emptyS code args 300 maxw pick).val ∧
    (runP emptyS (onesL code A 0 0 code.length ++ [⟨20, 12, 0, 0, 0⟩]) xargs 1048576 maxw pick).writes = (runP emptyS code args 300 maxw pick).writes ∧
    afterP emptyS (runP emptyS (onesL code A 0 0 code.length ++ [⟨20, 12, 0, 0, 0⟩]) xargs 1048576 maxw pick) = afterP emptyS (runP emptyS code args 300 maxw pick) := by
  obtain ⟨P, hP⟩ : ∃ P, onesL code A 0 0 code.length ++ [⟨20, 12, 0, 0, 0⟩] = P := ⟨_, rfl⟩
  have hpl : Placed P code A 0 0 := by
    have := placed_mid [] [⟨20, 12, 0, 0, 0⟩] code A 0
    rw [← hP]; exact this
  have hend : P.getD (beforeL code code.length) noIns = ⟨20, 12, 0, 0, 0⟩ := by
    rw [← hP, List.getD_eq_getElem?_getD, List.getElem?_append_right (by rw [onesL_size]; exact Nat.le_refl _), onesL_size, Nat.sub_self]; rfl
  rw [hP] at hR ⊢
  have e1 : runP emptyS code args 300 maxw pick = goP code args maxw 300 (startP emptyS pick) := by unfold runP; rw [if_pos h.right]; rfl
  have e2 : runP emptyS P xargs 1048576 maxw pick = goP P xargs maxw 1048576 (startP emptyS pick) := by unfold runP; rw [if_pos hR]; rfl
  rw [e1] at h41 ⊢
  rw [e2]
  have hs : Sim oneU 0 [] [0, 0, 0, 0] (startP emptyS pick) (startP emptyS pick) := by
    refine ⟨rfl, fun _ _ => rfl, fun x hx => ?_, rfl, rfl, rfl, rfl, by simp, by simp, rfl, rfl⟩
    have : x = 0 ∨ x = 1 ∨ x = 2 ∨ x = 3 := by omega
    rcases this with rfl | rfl | rfl | rfl <;> rfl
  have hg := sim_go (maxw := maxw) h.right hok (fits_low h hok) hA hpl (by decide) 300 (startP emptyS pick) (startP emptyS pick) 0 hs rfl h.len.1 rfl rfl rfl rfl h41
  rw [Int.add_zero] at hg
  rcases hg with ⟨g1, g2⟩ | ⟨g1, s, R', g2, g3, g4⟩
  · obtain ⟨q1, q2, q3⟩ := g2 1048576 (by decide)
    refine ⟨q1, q2, by rw [q3]; omega, ?_⟩
    unfold afterP
    rw [if_neg (by rw [q1]; exact g1), if_neg g1]
  · have hm : 1048576 - s = (1048575 - s) + 1 := by omega
    have ho : atP P xargs maxw R' = (0, { R' with steps := R'.steps + 1, pc := R'.pc + 1, val := (goP code args maxw 300 (startP emptyS pick)).val, ended := true }) := by
      rw [at_do, g4.pc, Nat.zero_add, Int.toNat_natCast, hend]
      have hr := g4.res
      unfold doP MRun.reg
      simp (decide := true) only [↓reduceIte]
      rw [show ((12 : Int)).toNat = 12 + 0 from rfl, hr]
    have hf : goP P xargs maxw 1048576 (startP emptyS pick) = { R' with steps := R'.steps + 1, pc := R'.pc + 1, val := (goP code args maxw 300 (startP emptyS pick)).val, ended := true } := by
      rw [g3 1048576 (by omega), hm, goP_end (by rw [ho]) (by rw [ho]), ho]
    rw [hf]
    refine ⟨g4.code.trans g1.symm, rfl, by show R'.writes = _; rw [g4.writes]; omega, ?_⟩
    unfold afterP
    rw [if_pos (show R'.code = 0 from g4.code), if_pos g1]
    exact g4.st

theorem ok_mk {op a b c imm : Int} (h0 : 0 ≤ op ∧ op ≤ 21) (ha : 0 ≤ a ∧ a < 16) (hb : 0 ≤ b ∧ b < 16) (hc : 0 ≤ c ∧ c < 16) (hi : 0 ≤ imm ∧ imm ≤ 18446744073709551615) : Ins.Ok ⟨op, a, b, c, imm⟩ := by
  constructor <;> simp only <;> omega
theorem ones_ok {code : List Ins} {A : List PArg} {k at_ : Nat} (h : PartOk code A k) (hok : ∀ i ∈ code, i.Ok) (hA : ∀ a ∈ A, a.Ok) (hA4 : A.length = 4) (hk : k < 4) (hat : at_ ≤ 1000) {j : Nat} (hj : j < code.length) : ∀ i ∈ oneL code A k at_ j, i.Ok := by
  intro y hy
  have hij : code[j]? = some (code[j]'hj) := List.getElem?_eq_getElem hj
  obtain ⟨i, hi'⟩ : ∃ i, code[j]'hj = i := ⟨_, rfl⟩
  rw [hi'] at hij
  have hgj : code.getD j noIns = i := by rw [List.getD_eq_getElem?_getD, hij]; rfl
  have hmem := List.mem_of_getElem? hij
  have hreg := h.reg hok i hmem
  have hins := right_insOk h.right hok hij
  have hone := h.one hok hA (by omega) i hmem
  have hlen := h.len
  unfold oneL at hy
  simp only [hgj] at hy
  by_cases hjmp : i.op = 17 ∨ i.op = 18 ∨ i.op = 19
  · simp only [if_pos hjmp] at hy
    obtain rfl := List.mem_singleton.1 hy
    have hg := hone.go hjmp
    have hb := beforeL_two code i.imm.toNat
    exact ok_mk hins.op hreg.a hreg.b hreg.c (by omega)
  simp only [if_neg hjmp] at hy
  by_cases h8 : i.op = 8
  · simp only [if_pos h8] at hy
    obtain rfl := List.mem_singleton.1 hy
    have him := hone.arg h8
    have hm4 : i.imm.toNat < A.length := by omega
    have hga : A.getD i.imm.toNat ⟨0, 0⟩ = A[i.imm.toNat]'hm4 := by rw [List.getD_eq_getElem?_getD, List.getElem?_eq_getElem hm4]; rfl
    have hmA := List.getElem_mem hm4
    rw [← hga] at hmA
    have hv := (hA _ hmA).val
    have hb := of_decide_eq_false (h.args _ hmA)
    unfold handedP
    split
    · exact ok_mk (by decide) hreg.a (by decide) (by decide) hv
    split
    · exact ok_mk (by decide) hreg.a (by have := hv.1; omega) (by decide) (by decide)
    · exact ok_mk (by decide) hreg.a (by decide) (by decide) hv
  simp only [if_neg h8] at hy
  by_cases h20 : i.op = 20
  · simp only [if_pos h20] at hy
    rcases List.mem_cons.1 hy with rfl | hy
    · exact ok_mk (by decide) (by omega) hreg.a (by decide) (by decide)
    · split at hy
      · obtain rfl := List.mem_singleton.1 hy
        have hb := beforeL_two code code.length
        exact ok_mk (by decide) (by decide) (by decide) (by decide) (by omega)
      · cases hy
  · simp only [if_neg h20] at hy
    obtain rfl := List.mem_singleton.1 hy
    exact hok _ hmem
theorem one_whole_ok {code : List Ins} {A : List PArg} (h : PartOk code A 0) (hok : ∀ i ∈ code, i.Ok) (hA : ∀ a ∈ A, a.Ok) (hA4 : A.length = 4) : ∀ i ∈ onesL code A 0 0 code.length ++ [⟨20, 12, 0, 0, 0⟩], i.Ok := fun i hi => by
  rcases List.mem_append.1 hi with hi | hi
  · obtain ⟨j, hj, hi⟩ := List.mem_flatMap.1 hi
    exact ones_ok h hok hA hA4 (by decide) (by decide) (List.mem_range.1 hj) i hi
  · obtain rfl := List.mem_singleton.1 hi
    exact ok_mk (by decide) (by decide) (by decide) (by decide) (by decide)
def argsW : List PArg := [⟨2, 0⟩, ⟨2, 1⟩, ⟨2, 2⟩, ⟨2, 3⟩]
def argsV (a0 a1 a2 a3 : Int) : List PArg := [⟨0, a0⟩, ⟨0, a1⟩, ⟨0, a2⟩, ⟨0, a3⟩]
theorem faultL_args {code : List Ins} {A : List PArg} (h : A.any (badArg 0) = false) : faultL code A 0 = faultL code [] 0 := by
  unfold faultL
  rw [h]; rfl
theorem argsW_ok : ∀ a ∈ argsW, a.Ok := by
  intro a ha
  simp [argsW] at ha
  rcases ha with rfl | rfl | rfl | rfl <;> exact ⟨by decide, ⟨by decide, by decide⟩⟩
theorem argsV_ok {a0 a1 a2 a3 : Int} (h : ∀ x ∈ [a0, a1, a2, a3], U64 x) : ∀ a ∈ argsV a0 a1 a2 a3, a.Ok := by
  intro a ha
  simp [argsV] at ha
  rcases ha with rfl | rfl | rfl | rfl
  · exact ⟨by simp, h _ (by simp)⟩
  · exact ⟨by simp, h _ (by simp)⟩
  · exact ⟨by simp, h _ (by simp)⟩
  · exact ⟨by simp, h _ (by simp)⟩
theorem faultW (code : List Ins) : faultL code argsW 0 = faultL code [] 0 := faultL_args (by decide)
theorem faultV (code : List Ins) (a0 a1 a2 a3 : Int) : faultL code (argsV a0 a1 a2 a3) 0 = faultL code [] 0 := faultL_args (by simp [argsV, badArg])
theorem givenW (a0 a1 a2 a3 : Int) : ∀ m : Nat, m < 4 → GivenAt [a0, a1, a2, a3] [0, 0, 0, 0] (argsW.getD m ⟨0, 0⟩) ([a0, a1, a2, a3].getD m 0) := fun m hm => by
  have : m = 0 ∨ m = 1 ∨ m = 2 ∨ m = 3 := by omega
  rcases this with rfl | rfl | rfl | rfl <;> exact ⟨fun h => absurd h (by decide), fun h => absurd h (by decide), fun _ _ => rfl⟩
theorem givenV (a0 a1 a2 a3 : Int) : ∀ m : Nat, m < 4 → GivenAt [0, 0, 0, 0] [0, 0, 0, 0] ((argsV a0 a1 a2 a3).getD m ⟨0, 0⟩) ([a0, a1, a2, a3].getD m 0) := fun m hm => by
  have : m = 0 ∨ m = 1 ∨ m = 2 ∨ m = 3 := by omega
  rcases this with rfl | rfl | rfl | rfl <;> exact ⟨fun _ => rfl, fun h => absurd (show (0 : Int) = 1 from h) (by decide), fun h _ => absurd rfl h⟩
/-- The two wholes. -/
structure TwoOnes (code : List Ins) (a0 a1 a2 a3 : Int) (pick : List Int) (X Y : List Ins) : Prop where
  okX : ∀ i ∈ X, i.Ok
  okY : ∀ i ∈ Y, i.Ok
  lenX : X.length ≤ 200
  lenY : Y.length ≤ 200
  same : ∀ maxw, (runP emptyS code [a0, a1, a2, a3] 300 maxw pick).code ≠ 41 →
    ((runP emptyS X [a0, a1, a2, a3] 1048576 maxw pick).code = (runP emptyS code [a0, a1, a2, a3] 300 maxw pick).code ∧ (runP emptyS X [a0, a1, a2, a3] 1048576 maxw pick).val = (runP emptyS code [a0, a1, a2, a3] 300 maxw pick).val ∧ (runP emptyS X [a0, a1, a2, a3] 1048576 maxw pick).writes = (runP emptyS code [a0, a1, a2, a3] 300 maxw pick).writes ∧ afterP emptyS (runP emptyS X [a0, a1, a2, a3] 1048576 maxw pick) = afterP emptyS (runP emptyS code [a0, a1, a2, a3] 300 maxw pick)) ∧
    ((runP emptyS Y [0, 0, 0, 0] 1048576 maxw pick).code = (runP emptyS code [a0, a1, a2, a3] 300 maxw pick).code ∧ (runP emptyS Y [0, 0, 0, 0] 1048576 maxw pick).val = (runP emptyS code [a0, a1, a2, a3] 300 maxw pick).val ∧ (runP emptyS Y [0, 0, 0, 0] 1048576 maxw pick).writes = (runP emptyS code [a0, a1, a2, a3] 300 maxw pick).writes ∧ afterP emptyS (runP emptyS Y [0, 0, 0, 0] 1048576 maxw pick) = afterP emptyS (runP emptyS code [a0, a1, a2, a3] 300 maxw pick))
theorem two_ones {code : List Ins} {a0 a1 a2 a3 : Int} {pick : List Int} (hok : ∀ i ∈ code, i.Ok) (hu : ∀ x ∈ [a0, a1, a2, a3], U64 x) (hn : code.length ≤ 60) (A1 A2 : Option Addr) (n1 c1 n2 c2 : Nat) :
    (∃ z, z ≠ 0 ∧ joinL [⟨A1, n1, c1, code, argsW⟩] = ([], z) ∧ joinL [⟨A2, n2, c2, code, argsV a0 a1 a2 a3⟩] = ([], z)) ∨
    ∃ X Y, joinL [⟨A1, n1, c1, code, argsW⟩] = (X, 0) ∧ joinL [⟨A2, n2, c2, code, argsV a0 a1 a2 a3⟩] = (Y, 0) ∧ TwoOnes code a0 a1 a2 a3 pick X Y := by
  by_cases hz : faultL code [] 0 = 0
  · have hW := part_ok ((faultW code).trans hz)
    have hV := part_ok ((faultV code a0 a1 a2 a3).trans hz)
    have l1 := onesL_len code argsW 0 0 code.length
    have l2 := onesL_len code (argsV a0 a1 a2 a3) 0 0 code.length
    refine .inr ⟨_, _, one_whole rfl rfl hW hn, one_whole rfl rfl hV hn, one_whole_ok hW hok argsW_ok rfl, one_whole_ok hV hok (argsV_ok hu) rfl, by rw [List.length_append]; simp; omega, by rw [List.length_append]; simp; omega, fun maxw h41 => ⟨?_, ?_⟩⟩
    · exact one_alone hW hok (one_whole_right hW hok argsW_ok rfl hn) (givenW a0 a1 a2 a3) h41
    · exact one_alone hV hok (one_whole_right hV hok (argsV_ok hu) rfl hn) (givenV a0 a1 a2 a3) h41
  · refine .inl ⟨faultL code [] 0, hz, ?_, ?_⟩
    · have h := one_bad (p := ⟨A1, n1, c1, code, argsW⟩) (by rw [faultW]; exact hz)
      rw [h, faultW]
    · have h := one_bad (p := ⟨A2, n2, c2, code, argsV a0 a1 a2 a3⟩) (by rw [faultV]; exact hz)
      rw [h, faultV]
end Go.Proofs.Ytddaeaimimdonaa
