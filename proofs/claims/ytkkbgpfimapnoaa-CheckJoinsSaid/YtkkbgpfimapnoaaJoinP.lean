/-
  Chapter 5, plain laws: two right programs, one behind the other.
-/
import Derived.Test.YtkkbgpfimapnoaaCutP
namespace Go.Proofs.Ytkkbgpfimapnoaa
open Go.RowKit
set_option linter.unusedVariables false

/-- An instruction with its goal moved. -/
def shiftI (n : Nat) (i : Ins) : Ins := if 17 ≤ i.op ∧ i.op ≤ 19 then { i with imm := i.imm + (n : Int) } else i
def joinP (la lb : List Ins) : List Ins := la ++ lb.map (shiftI la.length)
theorem shiftI_op (n : Nat) (i : Ins) : (shiftI n i).op = i.op := by unfold shiftI; split <;> rfl
theorem shiftI_plain (n : Nat) (i : Ins) : (shiftI n i).plain = i.plain := by
  unfold shiftI
  split
  · rename_i h
    have e : immOf i.op = true := by simp [immOf, h]
    simp [Ins.plain, plainB, e]
  · rfl
theorem shiftI_out {n : Nat} {i : Ins} (h : ¬ (17 ≤ i.op ∧ i.op ≤ 19)) : shiftI n i = i := by rw [shiftI, if_neg h]
theorem shiftI_imm {n : Nat} {i : Ins} (h : 17 ≤ i.op ∧ i.op ≤ 19) : (shiftI n i).imm = i.imm + n := by rw [shiftI, if_pos h]
theorem shiftI_one {n m k : Nat} {i : Ins} (h : oneE m k i = 0) : oneE (n + m) (n + k) (shiftI n i) = 0 := by
  by_cases hs : 17 ≤ i.op ∧ i.op ≤ 19
  · obtain ⟨hp, h1, h2⟩ := oneE_zero h
    unfold oneE
    rw [shiftI_op, shiftI_plain, shiftI_imm hs, if_neg (by rw [hp]; simp), if_neg (by omega), if_neg (by omega), if_neg (by omega)]
    by_cases h3 : i.op = 17 ∨ i.op = 18
    · rw [if_pos h3]
      have := h1 h3
      rw [if_neg (by omega)]
    · rw [if_neg h3]
      have h4 : i.op = 19 := by omega
      rw [if_pos h4]
      have := h2 h4
      rw [if_neg (by omega)]
  · rw [shiftI_out hs]
    have h5 : ¬ (i.op = 17 ∨ i.op = 18) := by omega
    have h6 : ¬ i.op = 19 := by omega
    unfold oneE at h ⊢
    rw [if_neg h5, if_neg h6] at h ⊢
    exact h
theorem joinP_length (la lb : List Ins) : (joinP la lb).length = la.length + lb.length := by simp [joinP]
theorem joinP_left {la lb : List Ins} {k : Nat} (h : k < la.length) : (joinP la lb)[k]? = la[k]? := by rw [joinP, List.getElem?_append_left h]
theorem joinP_right {la lb : List Ins} {k : Nat} : (joinP la lb)[la.length + k]? = (lb[k]?).map (shiftI la.length) := by
  rw [joinP, List.getElem?_append_right (by omega), Nat.add_sub_cancel_left, List.getElem?_map]
theorem right_join {la lb : List Ins} (ha : rightP la = true) (hb : rightP lb = true) (ha40 : la.length ≤ 40) (hb40 : lb.length ≤ 40) : rightP (joinP la lb) = true := by
  have hb0 := (right_parts hb).1
  refine right_of (by rw [joinP_length]; omega) (by rw [joinP_length]; omega) (fun k i hi => ?_) ?_
  · rw [joinP_length]
    by_cases hk : k < la.length
    · rw [joinP_left hk] at hi
      exact oneE_more (right_one ha k i hi) (by omega)
    · obtain ⟨q, rfl⟩ : ∃ q, k = la.length + q := ⟨k - la.length, by omega⟩
      rw [joinP_right] at hi
      cases hq : lb[q]? with
      | none => rw [hq] at hi; simp at hi
      | some j =>
        rw [hq] at hi
        obtain rfl : shiftI la.length j = i := by simpa using hi
        exact shiftI_one (right_one hb q j hq)
  · have hl := (right_parts hb).2.2.2
    rw [lastEnds] at hl ⊢
    rw [joinP_length, show la.length + lb.length - 1 = la.length + (lb.length - 1) by omega, joinP_right]
    cases hq : lb[lb.length - 1]? with
    | none => rw [hq] at hl; cases hl
    | some j =>
      rw [hq] at hl
      simp only [Option.map_some, shiftI_op]
      exact hl
theorem reads_join {la lb : List Ins} (ha : rightP la = true) (hb : rightP lb = true) (hj : rightP (joinP la lb) = true) : readsP (joinP la lb) = (readsP la && readsP lb) := by
  rw [readsP, readsP, readsP, ha, hb, hj, joinP, List.all_append, List.all_map]
  simp only [Bool.and_true]
  congr 1
  congr 1
  funext i
  simp [shiftI_op]

theorem reaches_lt {l : List Ins} (hp : rightP l = true) (hok : ∀ i ∈ l, i.Ok) {k : Nat} (h : Reaches l k) : k < l.length := by
  cases h with
  | start => exact (right_parts hp).1
  | step hk hi hj => exact right_lt hp hok _ _ _ hi hj
theorem reaches_join {la lb : List Ins} (ha : rightP la = true) (hok : ∀ i ∈ la, i.Ok) (k : Nat) : Reaches (joinP la lb) k ↔ Reaches la k := by
  constructor
  · intro h
    induction h with
    | start => exact .start
    | step hk hi hj ih =>
      rw [joinP_left (reaches_lt ha hok ih)] at hi
      exact .step ih hi hj
  · intro h
    induction h with
    | start => exact .start
    | step hk hi hj ih =>
      refine .step ih ?_ hj
      rw [joinP_left (reaches_lt ha hok hk)]
      exact hi
theorem marks_join {la lb : List Ins} {M M' : List Bool} (ha : rightP la = true) (hok : ∀ i ∈ la, i.Ok) (h : Marks la M) (h' : Marks (joinP la lb) M') (k : Nat) : M'.getD k false = (decide (k < la.length) && M.getD k false) := by
  have e : ∀ (L : List Bool), (L.getD k false = true) ↔ L[k]? = some true := fun L => by
    rw [List.getD_eq_getElem?_getD]
    cases L[k]? <;> simp
  rw [Bool.eq_iff_iff, e, h'.iff, reaches_join ha hok, Bool.and_eq_true, e, h.iff]
  exact ⟨fun hr => ⟨decide_eq_true (reaches_lt ha hok hr), hr⟩, fun hr => hr.2⟩
theorem IsMost.congr_on {vs vs' : List Int} {k : Nat} {S : Nat → Prop} {m : Int} (h : IsMost vs k S m) (hv : ∀ j, k < j → S j → vs'.getD j 0 = vs.getD j 0) : IsMost vs' k S m := by
  refine ⟨h.one, fun j hk hj => ?_, ?_⟩
  · rw [hv j hk hj]; exact h.ge j hk hj
  · rcases h.is with e | ⟨j, hk, hj, e⟩
    · exact .inl e
    · exact .inr ⟨j, hk, hj, by rw [hv j hk hj]; exact e⟩
theorem longest_join {la lb : List Ins} {x : Int} {b : Bool} (ha : rightP la = true) (hok : ∀ i ∈ la, i.Ok) (h : LongestIs (joinP la lb) x b) : LongestIs la x b := by
  have h0 := (right_parts ha).1
  have hg : GoesBack (joinP la lb) ↔ GoesBack la := by
    constructor
    · rintro ⟨k, i, hr, hi, ho⟩
      have hr' := (reaches_join ha hok k).1 hr
      rw [joinP_left (reaches_lt ha hok hr')] at hi
      exact ⟨k, i, hr', hi, ho⟩
    · rintro ⟨k, i, hr, hi, ho⟩
      exact ⟨k, i, (reaches_join ha hok k).2 hr, by rw [joinP_left (reaches_lt ha hok hr)]; exact hi, ho⟩
  rcases h with ⟨h1, hx, hb⟩ | ⟨h1, hb, vs, hv, hx⟩
  · exact .inl ⟨hg.1 h1, hx, hb⟩
  · have hlen : vs.length = la.length + lb.length := by rw [hv.len, joinP_length]
    have ht : ∀ j, j < la.length → (vs.take la.length).getD j 0 = vs.getD j 0 := fun j hj => by
      rw [List.getD_eq_getElem?_getD, List.getD_eq_getElem?_getD, List.getElem?_take, if_pos hj]
    refine .inr ⟨fun hh => h1 (hg.2 hh), hb, vs.take la.length, ⟨by rw [List.length_take]; omega, fun q i _ hi => ?_⟩, by rw [ht 0 h0]; exact hx⟩
    have hq := (List.getElem?_eq_some_iff.1 hi).1
    rw [ht q hq]
    refine (hv.most q i (by omega) (by rw [joinP_left hq]; exact hi)).congr_on fun j hj hS => ht j (right_lt ha hok q j i hi hS)
end Go.Proofs.Ytkkbgpfimapnoaa
